/- Lemmas and walks of this seat, laid together: GoB, IdSo, LitC, DepN, NilS, DepK, IdSm, DepL, OpenE, OpenId, OpenIds. -/
import Derived.Test.YtbhdfaadedlcfaaMd
import Derived.Laws.OwnMore
import Derived.Deep.CutBlock
import Derived.Lib.LaidTab
/- Laws for regions by XGo: append upon append: what was laid amid the region is grown. No condition; no program. -/
namespace Go.Proofs.Ytbhdfaadedlcfaa
open Go.RowKit
/-- A slice of m elements reads as these cells. -/
def SrcAt (size : Nat) (w : World) (v : Value) (m : Nat) (ys : List Value) : Prop := (∃ ad c, v = .slice (some ad) m c ∧ ys.length = m * size ∧ (∀ j u, ys[j]? = some u → w.cell? (ad.add j) = some u)) ∨ (∃ c, v = .slice none 0 c ∧ m = 0 ∧ ys = [])
theorem SrcAt.of {size : Nat} {α : Type} {enc : α → List Value} {w : World} {v : Value} {l : List α} (hk : ∀ x ∈ l, (enc x).length = size) (h : SliceAt w size enc v l) : SrcAt size w v l.length (rowsOf enc l) := by
  have h0 := h
  obtain ⟨A, c, rfl, _, _, h3⟩ := h
  cases A with
  | none =>
    cases l with
    | nil => exact .inr ⟨c, rfl, rfl, rfl⟩
    | cons x l => obtain ⟨g, o, h4, _⟩ := h3 (by simp); cases h4
  | some ad => exact .inl ⟨ad, c, rfl, rowsOf_length hk, h0.news hk rfl⟩
theorem run_append_none_c {P : Program} {w : World} (base : Nat) (t ty e : TypeId) (i : TypeInfo) (size c : Nat) (ht : P.underlying t = some (.slice e)) (hi : P.info? e = some i)
    (v : Value) (n : Nat) (xs : List Value) (hown : w.ownsRow base e size v n xs) :
    (Builtin.append_ #[t, t] ty #[v, .slice none 0 c]).run P w = .ok v w := by
  rcases hown.2 with ⟨rfl, rfl⟩ | ⟨g, cap, cur, rfl, _, _, hnc, _⟩
  · simp [Builtin.append_, run_underlying ht, sizeOf, typeInfo, hi, Builtin.lenOf, Builtin.firstCells]
  · simp [Builtin.append_, run_underlying ht, sizeOf, typeInfo, hi, Builtin.lenOf, Builtin.firstCells, hnc, storeCells]
section
variable {P : Program} {ops : Array Oper} {w0 : World} {rows : List (Option Nat)} {pres : Pres} {sps : List Sp} {E : Act → Facts → Prop} {i : Nat} {o : Oper} {rest : List Oper} {s : Sp} {ss : List Sp} {a : Act} {D D' : Facts} {w : World}
/-- One may forget. -/
theorem claim_less (hD : ∀ q ∈ D', q ∈ D) (h : claim P ops w0 rows pres sps i o s a D') : claim P ops w0 rows pres sps i o s a D := by
  have hH : ∀ w, Have ops pres i D w → Have ops pres i D' w := fun w h => h.of fun q _ hq => hD q hq
  cases s with
  | det f => exact fun w hw hh => h w hw (hH w hh)
  | new r => exact ⟨h.1, fun w hw hh => h.2 w hw (hH w hh)⟩
  | der j r => exact ⟨h.1, h.2.1, h.2.2.1, fun w F hw hF hh hp => h.2.2.2 w F hw hF (hH w hh) fun p hq => hp p (hD _ hq)⟩
  | al T Z => exact h
  | st j T n =>
    obtain ⟨h1, h2, h3, h4, x, y, h5, h6, h7⟩ := h
    exact ⟨h1, h2, h3, h4, x, y, h5, hD _ h6, fun w hw hh => h7 w hw (hH w hh)⟩
  | wr r =>
    obtain ⟨h1, row, p0, h3, h4⟩ := h
    exact ⟨h1, row, p0, h3, fun w hw hh hp => h4 w hw (hH w hh) hp⟩
  | ov j r => exact ⟨h.1, h.2.1, h.2.2.1, fun w F hw hF hh hp => h.2.2.2 w F hw hF (hH w hh) fun p hq => hp p (hD _ hq)⟩
theorem LxL_less (hE : ∀ a D D', (∀ q ∈ D', q ∈ D) → E a D' → E a D) : ∀ (l : List Oper) (ss : List Sp) (i : Nat) (a : Act) (D D' : Facts), (∀ q ∈ D', q ∈ D) → LxL P ops w0 rows pres sps E i l ss a D' → LxL P ops w0 rows pres sps E i l ss a D
  | [], [], _, a, D, D', hD, h => hE a D D' hD h
  | [], _ :: _, _, a, D, D', hD, h => hE a D D' hD h
  | o :: l, [], _, _, _, _, _, h => h.elim
  | o :: l, s :: ss, i, a, D, D', hD, h => by
    unfold LxL at h ⊢
    split at h
    · rename_i hw
      rw [if_pos hw]
      refine ⟨claim_less hD h.1, fun v hv => LxL_less hE l ss _ _ _ _ (fun q hq => ?_) (h.2 v hv)⟩
      rcases List.mem_append.1 hq with hq | hq
      · exact List.mem_append_left _ hq
      · refine List.mem_append_right _ ?_
        cases s <;> first | exact hD q hq | exact List.mem_filter.2 ⟨hD q (List.mem_filter.1 hq).1, (List.mem_filter.1 hq).2⟩
    · rename_i hw
      rw [if_neg hw]
      exact LxL_less hE l ss _ _ _ _ hD h
theorem endP_less {W : World} {Q : Exit → Act → World → Prop} (a : Act) (D D' : Facts) (hD : ∀ q ∈ D', q ∈ D) (h : EndP ops W pres sps Q a D') : EndP ops W pres sps Q a D := ⟨h.1, fun w hw hq => h.2 w hw fun q hh => hq q (hD q hh)⟩
theorem end0_less {W : World} {Q : Exit → Act → World → Prop} (a : Act) (D D' : Facts) (hD : ∀ q ∈ D', q ∈ D) (h : End0 ops W sps Q a D') : End0 ops W sps Q a D := ⟨h.1, fun w hw hq => h.2 w hw fun q hh => hq q (hD q hh)⟩
theorem run_append_src {w : World} {B : Nat} {t rt e : TypeId} {z : Value} {size bytes : Nat} (hT : SliceTy P t e z size bytes) {v v2 : Value} {n m : Nat} {xs ys : List Value} (hown : w.ownsRow B e size v n xs) (hs : SrcAt size w v2 m ys) (h1 : ∀ u ∈ ys, u.oneCell' = true) (h63 : n + m ≤ 9223372036854775807) (hby : (n + m) * bytes ≤ 140737488355328) (hB : B ≤ w.heap.size) :
    ∃ v' w', (Builtin.append_ #[t, t] rt #[v, v2]).run P w = .ok v' w' ∧ w'.ownsRow B e size v' (n + m) (xs ++ ys) ∧ w.grownBy w' v.ownBlock ∧ (v'.ownBlock = v.ownBlock ∨ v'.ownBlock = some w.heap.size) := by
  obtain ⟨it, i1, i2, i3, i4⟩ := hT.hi
  rcases hs with ⟨ad, c, rfl, hl, hn⟩ | ⟨c, rfl, rfl, rfl⟩
  · obtain ⟨v', w', hrun, hown', hg, _, hat⟩ := run_append_own_at (P := P) w B t rt e it z size bytes hT.ht i1 i2 i3 i4 hT.hzs hT.hsz v n xs hown ad m c ys hl hn h1 (by simp only [maxLen]; omega) hby hB
    exact ⟨v', w', hrun, hown', hg, hat⟩
  · refine ⟨v, w, run_append_none_c B t rt e it size c hT.ht i1 v n xs hown, ?_, ⟨rfl, rfl, rfl, Nat.le_refl _, fun _ _ _ => rfl⟩, .inl rfl⟩
    rw [List.append_nil]; exact hown
/-- append(s, y..), s laid amid the region. -/
theorem lx_appC {d : Option Tmp} {rt : TypeId} {pos : String} {af : Array Edge} {sl x : Operand} {t e : TypeId} {z : Value} {size bytes : Nat} (hT : SliceTy P t e z size bytes) (j n m : Nat) (Ψ Ψ' : List Value → Prop) (h63 : n + m ≤ 9223372036854775807) (hby : (n + m) * bytes ≤ 140737488355328)
    (hE : ∀ a D D', (∀ q ∈ D', q ∈ D) → E a D' → E a D) (hj : waitsT ops i j = true) (hv : isVal (spAt sps j) = true) (D2 : Facts) (hD2 : ∀ q ∈ D2, q ∈ D ∧ (gAt sps q.1 != gAt sps i) = true) (hs : s = .ov j fun _ => appR w0.heap.size e size (n + m) Ψ')
    (h : ∃ v1 v2, a.eval sl = v1 ∧ a.eval x = v2 ∧ (j, appR w0.heap.size e size n Ψ v1) ∈ D ∧ (∀ w, Far rows w0 w → Have ops pres i D w → ∃ ys, SrcAt size w v2 m ys ∧ (∀ u ∈ ys, u.oneCell' = true) ∧ ∀ xs, Ψ xs → Ψ' (xs ++ ys)) ∧ ∀ v, LxL P ops w0 rows pres sps E (i + 1) rest ss (a.put d v) ((i, appR w0.heap.size e size (n + m) Ψ' v) :: D2)) :
    LxL P ops w0 rows pres sps E i ({ dst := d, op := .call { callee := .builtin .append, args := #[sl, x], argTypes := #[t, t] }, type := rt, pos := pos, after := af, guard := none } :: rest) (s :: ss) a D := by
  obtain ⟨_, _, rfl, rfl, hm, hc, h⟩ := h
  refine lx_ov j (fun _ => appR w0.heap.size e size (n + m) Ψ') hs (by simp [Region.wanted]) (fun _ => appR_stab _ e size (n + m) Ψ') hj hv (fun w F hw hF hh hp => ?_) fun v => LxL_less hE _ _ _ _ _ _ (fun q hq => ?_) (h v)
  · obtain ⟨xs, hxs, hown, hfo⟩ := hp _ hm
    obtain ⟨ys, hsrc, h1, hps⟩ := hc w hw hh
    have hsz := hw.size
    obtain ⟨v', w', hrun, hown', hg, hat⟩ := run_append_src (rt := rt) hT hown hsrc h1 h63 hby hsz
    refine does_val (v := v') (w' := w') ?_ ⟨hg.os, hg.tape, hg.output, hg.size, fun k hk hn => hg.block k hk fun e => ?_, fun F' hF1 hF2 => ⟨_, hps xs hxs, hown', fun k hk => ?_⟩⟩
    · unfold execOp
      simp only [resolve, invoke, builtin, Sem.run_bind, Sem.run_pure, Result.andThen_ok, List.map_toArray, List.map_cons, List.map_nil, hrun]
    · have := (hn (hfo k e.symm)).1
      have := (World.ownsRow.lt hown k e.symm).1
      omega
    · rcases hat with hat | hat
      · rw [hat] at hk; exact hF1 k (hfo k hk)
      · rw [hat] at hk
        injection hk with hk
        subst hk
        exact hF2 _ (Nat.le_refl _) (World.ownsRow.lt hown' _ hat).2
  · rcases List.mem_cons.1 hq with hq | hq
    · rw [hq]; exact List.mem_cons_self
    · exact List.mem_cons_of_mem _ (List.mem_filter.2 (hD2 q hq))
/-- A slice literal without elements. -/
theorem does_slice0 {post : Value → World → Prop} {d : Option Tmp} {rt : TypeId} {pos : String} {af : Array Edge} {gd : Option (Nat × Bool)} {t e : TypeId} {z : Value} {size bytes : Nat} (hT : SliceTy P t e z size bytes)
    (h : post (.slice (some ⟨w.heap.size, 0, none⟩) 0 0) (w.alloc (.cells #[] e))) : doesAt P { dst := d, op := .buildSlice t 0 #[], type := rt, pos := pos, after := af, guard := gd } a w post := by
  have hrun : (Instr.buildSlice t 0 #[]).run P w = .ok (.slice (some ⟨w.heap.size, 0, none⟩) 0 0) (w.alloc (.cells #[] e)) := by
    obtain ⟨it, hi, hz, hs, hb⟩ := hT.hi
    have h0 := hT.hsz
    simp [Instr.buildSlice, run_underlying hT.ht, sizeOf, typeInfo, zeroValue, hi, hz, newRow, Instr.fill]
    rw [Array.eq_empty_of_size_eq_zero (xs := Array.range 0) (by simp), Array.map_empty]
  refine does_val (v := .slice (some ⟨w.heap.size, 0, none⟩) 0 0) (w' := w.alloc (.cells #[] e)) ?_ h
  unfold execOp
  simp only [Sem.run_bind, List.map_toArray, List.map_nil, hrun, Result.andThen_ok]
  rfl
theorem lx_slice0 {d : Option Tmp} {rt : TypeId} {pos : String} {af : Array Edge} {t e : TypeId} {z : Value} {size bytes : Nat} (hT : SliceTy P t e z size bytes) (hs : s = .new fun _ => appR w0.heap.size e size 0 fun xs => xs = [])
    (h : ∀ v, LxL P ops w0 rows pres sps E (i + 1) rest ss (a.put d v) ((i, appR w0.heap.size e size 0 (fun xs => xs = []) v) :: D)) :
    LxL P ops w0 rows pres sps E i ({ dst := d, op := .buildSlice t 0 #[], type := rt, pos := pos, after := af, guard := none } :: rest) (s :: ss) a D := by
  refine lx_new (fun _ => appR w0.heap.size e size 0 fun xs => xs = []) hs (by simp [Region.wanted]) (fun _ => appR_stab _ e size 0 _) (fun w hw hh => ?_) h
  refine does_slice0 hT ⟨(Below.refl _ _).alloc (Nat.le_refl _) _, fun F _ _ h3 => ⟨[], rfl, World.ownsRow_lit w #[] 0 hw.size (by simp [maxLen]) (by simp), fun k hk => h3 k ?_ ?_⟩⟩
  · simp only [Value.ownBlock] at hk; injection hk with hk; omega
  · simp only [Value.ownBlock] at hk; injection hk with hk; rw [size_alloc']; omega
end
end Go.Proofs.Ytbhdfaadedlcfaa
/- The walk of layer 2's document: Sorted. No condition. -/
namespace Go.Proofs.Ytbhdfaadedlcfaa
open Go.RowKit
attribute [local go_sem ↓] ldvI_eq
theorem keepQ {w W : World} {f : FuncId} {args : Array Value} {v : Value} (h : Calls Try.prog f args W fun e w' => e = .returned v ∧ Below W.heap.size W w') (hW : Below w.heap.size w W) :
    Calls Try.prog f args W fun e w' => e = .returned v ∧ Below w.heap.size w w' := h.mono fun _ _ ⟨he, hb⟩ => ⟨he, hW.trans (hb.mono hW.size)⟩
theorem idsK {l : List Txt} (h : ∀ x ∈ l, x.length = 32) : ∀ x ∈ l, (idC x).length = 32 := fun x hx => idC_len (h x hx)
/-- The form of a slice of ids that is one's own. -/
def IdForm (w : World) (base : Nat) (A : Option Addr) (c : Nat) (l : List Txt) : Prop := (A = none ∧ c = 0 ∧ l = []) ∨ ∃ g, A = some ⟨g, 0, none⟩ ∧ base ≤ g ∧ Row w g 28 32 idC c l
theorem ids_form {w : World} {base : Nat} {v : Value} {l : List Txt} (hok : ∀ x ∈ l, x.length = 32) (h : OwnIds w base v l) : ∃ A c, v = .slice A l.length c ∧ IdForm w base A c l := by
  rcases Row.of_own (idsK hok) h with ⟨rfl, rfl⟩ | ⟨g, cap, rfl, hg, hr⟩
  · exact ⟨none, 0, rfl, .inl ⟨rfl, rfl, rfl⟩⟩
  · exact ⟨_, cap, rfl, .inr ⟨g, rfl, hg, hr⟩⟩
theorem src_take {w : World} {g c n : Nat} {l : List Txt} (hk : ∀ x ∈ l, (idC x).length = 32) (h : Row w g 28 32 idC c l) (hn : n ≤ l.length) : SrcAt 32 w (.slice (some ⟨g, 0, none⟩) n c) n (rowsOf idC (l.take n)) := by
  have hk2 : ∀ x ∈ l.take n, (idC x).length = 32 := fun x hx => hk x (List.mem_of_mem_take hx)
  have hl : (l.take n).length = n := by simp; omega
  refine .inl ⟨_, c, rfl, by rw [rowsOf_length hk2, hl], ?_⟩
  have := range_news ((h.cut n).range_from hk2 0)
  rwa [Nat.zero_mul] at this
theorem src_drop {w : World} {g c c' n m : Nat} {ad : Addr} {l : List Txt} (hk : ∀ x ∈ l, (idC x).length = 32) (h : Row w g 28 32 idC c l) (had : ad = ⟨g, n * 32, none⟩ ∨ l.length ≤ n) (hm : m = l.length - n) : SrcAt 32 w (.slice (some ad) m c') m (rowsOf idC (l.drop n)) := by
  subst hm
  have hk2 : ∀ x ∈ l.drop n, (idC x).length = 32 := fun x hx => hk x (List.mem_of_mem_drop hx)
  refine .inl ⟨_, c', rfl, by rw [rowsOf_length hk2, List.length_drop], ?_⟩
  rcases had with rfl | he
  · exact range_news (h.range_from hk n)
  · intro j u hu
    rw [List.drop_eq_nil_of_le he] at hu
    simp [rowsOf] at hu
set_option maxRecDepth 100000 in
set_option maxHeartbeats 4000000 in
theorem sorted02_calls (l : List Txt) (hok : ∀ x ∈ l, x.length = 32) (hbig : l.length ≤ 1000000) (v : Value) (w : World) (hv : Ids w v l) :
    Calls Try.prog 16 #[v] w fun e w' => ∃ v', e = .returned v' ∧ OwnIds w' w.heap.size v' (sortU l) ∧ Below w.heap.size w w' := by
  obtain ⟨S, hS⟩ : ∃ S, S = sortU l := ⟨_, rfl⟩
  have hfin : Hid (S = sortU (l.take l.length)) := Lib.hid (by rw [hS, List.take_length])
  rw [← hS]
  obtain ⟨A, cap, rfl, hcap1, hcap2, hat⟩ := hv
  clear hS
  go_enter Try.func16, Try.ntmps16
  go_wp2
  go_loopg [3, 4] l.length (fun f vo vi wr => ∃ (k : Nat) (acc : List Txt), vi = .int .i64 k ∧ k + f ≤ l.length ∧ l.length ≤ k + f ∧ acc.length ≤ k ∧ Hid (acc = sortU (l.take k)) ∧ Hid (∀ x ∈ acc, x.length = 32) ∧ OwnIds wr w.heap.size vo acc ∧ Below w.heap.size w wr)
  case atStart => exact ⟨0, [], rfl, by omega, by omega, by simp, Lib.hid rfl, Lib.hid (fun x hx => by simp at hx), World.ownsRow_nil _ _ _ _, Below.refl _ _⟩
  case round =>
    obtain ⟨k, acc, rfl, hk1, hk2, hal, hacc, hall, hown, hbel⟩ := hrel
    cases gk with
    | succ f =>
      have hki : (k : Int) < (l.length : Int) := by omega
      obtain ⟨ga, oa, rfl, hga, hca⟩ := hat (by omega)
      obtain ⟨x, hx⟩ : ∃ x, l[k]? = some x := ⟨_, List.getElem?_eq_getElem (by omega)⟩
      have hxi := hok x (List.mem_of_getElem? hx)
      have hnext : Hid (insU acc x = sortU (l.take (k + 1))) := Lib.hid (by rw [sortU_more hx, hacc.out])
      have hnok : Hid (∀ y ∈ insU acc x, y.length = 32) := Lib.hid fun y hy => by
        rcases insU_mem hy with h | h
        · exact hall.out y h
        · rw [h]; exact hxi
      have hnl := insU_len acc x
      have hins : Hid (insU acc x = if freshB acc x (posL acc x acc.length) = true then acc.take (posL acc x acc.length) ++ [x] ++ acc.drop (posL acc x acc.length) else acc) := rfl
      have hPle := posL_le acc x acc.length
      obtain ⟨PP, hPP⟩ : ∃ PP, posL acc x acc.length = PP := ⟨_, rfl⟩
      rw [hPP] at hPle hins
      replace hPP := Lib.hid hPP
      obtain ⟨fb, hfb⟩ : ∃ fb, Hid (freshB acc x PP = fb) := ⟨_, Lib.hid rfl⟩
      rw [hfb.out] at hins
      generalize insU acc x = NX at *
      have hlx : ∀ W, Below wr.heap.size wr W → (ldvI ⟨ga, oa + k * 32, none⟩).run Try.prog W = .ok (.agg (u8s x)) W := fun W hW => by
        have hr := rangeAt_below (hca k x hx) hga (hbel.trans (hW.mono hbel.size))
        exact run_ldvI_at (show World.rangeAt W ga (oa + k * 32) (u8s x).toList from hr) hxi
      obtain ⟨A3, c3, rfl, hform⟩ := ids_form hall.out hown
      have hlo : Hid (∀ m y, acc[m]? = some y → ∃ g3, A3 = some ⟨g3, 0, none⟩ ∧ ∀ W, Below wr.heap.size wr W → (ldvI ⟨g3, m * 32, none⟩).run Try.prog W = .ok (.agg (u8s y)) W) := Lib.hid fun m y hy => by
        rcases hform with ⟨_, _, rfl⟩ | ⟨g3, h1, h2, hr⟩
        · simp at hy
        · refine ⟨g3, h1, fun W hW => ?_⟩
          have hr2 := (hr.below hW).at_ m y hy
          exact run_ldvI_at (show World.rangeAt W g3 (m * 32) (u8s y).toList from hr2) (hall.out y (List.mem_of_getElem? hy))
      replace hform := Lib.hid hform
      clear hx hca hat hok
      rename World => wo
      go_upto_block 2 with (fail)
      go_cut [5] from 6 to 58 (fun s5 wx => s5 = .int .i64 PP ∧ Below wo.heap.size wo wx)
      case first =>
        clear hfb hins hnext hnok hform hown hk1 hk2
        go_wp2_with (fail)
        go_loopg [5] acc.length (fun f vm wq => vm = .int .i64 f ∧ f ≤ acc.length ∧ Hid (posL acc x f = PP) ∧ Below wo.heap.size wo wq)
        case atStart => exact ⟨rfl, Nat.le_refl _, hPP, Below.refl _ _⟩
        case round =>
          obtain ⟨rfl, hm, hpm, hbq⟩ := hrel
          clear hPP
          cases gk with
          | zero =>
            obtain rfl : 0 = PP := by rw [← hpm.out]; rfl
            clear hpm hlx hlo
            go_simp
            go_step
            go_step
            refine wp_region_class (C := fun W => Below wo.heap.size wo W) (by kernel_rfl) (by kernel_rfl) hbq.drew ?_
            repeat
              first
                | ((with_reducible refine wpQuiet_ex ?_ ?_)
                   · (go_simp; done)
                   apply Exists.intro
                   refine ⟨fun W hW => ?_, ?_⟩
                   · first
                       | (go_simp
                          rfl)
                   simp only [Act.put, List.setIfInBounds_toArray, List.set_cons_zero, List.set_cons_succ])
                | ((with_reducible refine wpQuiet_pass ?_ ?_)
                   · (first | rfl | (go_simp; done))
                   simp only [Act.put, List.setIfInBounds_toArray, List.set_cons_zero, List.set_cons_succ])
            with_reducible refine wpQuiet_nil ?_
            intro w5 hW5
            go_wp2_with (fail)
            go_meet
            case rel => exact ⟨rfl, hW5⟩
          | succ m =>
            obtain ⟨y, hy⟩ : ∃ y, acc[m]? = some y := ⟨_, List.getElem?_eq_getElem (by omega)⟩
            have hyi := hall.out y (List.mem_of_getElem? hy)
            obtain ⟨g3, rfl, hly⟩ := hlo.out m y hy
            have hyx : Hid (posL acc x (m + 1) = if Op.bytesLess x y = true then posL acc x m else m + 1) := Lib.hid (by rw [posL, List.getD_eq_getElem?_getD, hy]; rfl)
            have hls := fun W => refLess_calls x y hxi hyi W
            generalize Op.bytesLess x y = b at *
            have hmi : (m : Int) < (acc.length : Int) := by omega
            have hw1 : IntKind.i64.wrap ((m : Nat) : Int) = (m : Int) := IntWalk.i64_in _ (by omega)
            clear hy hlo
            go_simp
            go_step
            go_step
            refine wp_region_class (C := fun W => Below wo.heap.size wo W) (by kernel_rfl) (by kernel_rfl) hbq.drew ?_
            repeat
              first
                | ((with_reducible refine wpQuiet_ex ?_ ?_)
                   · (go_simp; done)
                   apply Exists.intro
                   refine ⟨fun W hW => ?_, ?_⟩
                   · first
                       | (have q0 := hlx W hW
                          have q1 := hly W hW
                          have q2 := hls W
                          go_simp
                          first
                            | rfl
                            | (with_reducible exact keepQ q2 hW))
                   simp only [Act.put, List.setIfInBounds_toArray, List.set_cons_zero, List.set_cons_succ])
                | ((with_reducible refine wpQuiet_pass ?_ ?_)
                   · (first | rfl | (go_simp; done))
                   simp only [Act.put, List.setIfInBounds_toArray, List.set_cons_zero, List.set_cons_succ])
            with_reducible refine wpQuiet_nil ?_
            intro w5 hW5
            cases b
            · obtain rfl : m + 1 = PP := by rw [← hpm.out, hyx.out]; rfl
              clear hpm hyx hls hly hlx
              go_wp2_with (fail)
              go_meet
              case rel => exact ⟨rfl, hW5⟩
            · have hpm2 : Hid (posL acc x m = PP) := Lib.hid (by rw [← hpm.out, hyx.out]; rfl)
              clear hpm hyx hls hly hlx
              go_wp2_with (fail)
              go_roundg m
              case rel => exact ⟨by go_num, by omega, hpm2, hW5⟩
              case measure => omega
      case rest =>
        obtain ⟨rfl, hbc⟩ := hcut
        clear hPP
        go_upto_region 8 with (fail)
        go_cut [5, 43] from 6 to 58 (fun s5 s43 wx => s5 = .int .i64 PP ∧ s43 = .bool fb ∧ Below wo.heap.size wo wx)
        case first =>
          clear hins hnext hnok hform hown hk1 hk2
          cases PP with
          | zero =>
            obtain rfl : true = fb := hfb.out
            clear hfb hlx hlo
            refine wp_region_class (C := fun W => Below wo.heap.size wo W) (by kernel_rfl) (by kernel_rfl) hbc.drew ?_
            repeat
              first
                | ((with_reducible refine wpQuiet_ex ?_ ?_)
                   · (go_simp; done)
                   apply Exists.intro
                   refine ⟨fun W hW => ?_, ?_⟩
                   · first
                       | (go_simp
                          rfl)
                   simp only [Act.put, List.setIfInBounds_toArray, List.set_cons_zero, List.set_cons_succ])
                | ((with_reducible refine wpQuiet_pass ?_ ?_)
                   · (first | rfl | (go_simp; done))
                   simp only [Act.put, List.setIfInBounds_toArray, List.set_cons_zero, List.set_cons_succ])
            with_reducible refine wpQuiet_nil ?_
            intro w5 hW5
            go_wp2_with (fail)
            go_meet
            case rel => exact ⟨rfl, rfl, hW5⟩
          | succ p =>
            obtain ⟨y, hy⟩ : ∃ y, acc[p]? = some y := ⟨_, List.getElem?_eq_getElem (by omega)⟩
            have hyi := hall.out y (List.mem_of_getElem? hy)
            obtain ⟨g3, rfl, hly⟩ := hlo.out p y hy
            have hyx : fb = !decide (y = x) := by rw [← hfb.out, freshB, List.getD_eq_getElem?_getD, hy]; rfl
            have heq := fun W => run_neq_id W y x hyi hxi
            rw [← hyx] at heq
            have hmi : (p : Int) < (acc.length : Int) := by omega
            have hw1 : IntKind.i64.wrap ((p : Nat) : Int) = (p : Int) := IntWalk.i64_in _ (by omega)
            have hp1 : (((p + 1 : Nat) : Int) == 0) = false := by simp; omega
            have hp2 : ((p : Int) + 1 == 0) = false := by simp; omega
            clear hy hlo hfb hyx
            refine wp_region_class (C := fun W => Below wo.heap.size wo W) (by kernel_rfl) (by kernel_rfl) hbc.drew ?_
            repeat
              first
                | ((with_reducible refine wpQuiet_ex ?_ ?_)
                   · (go_simp; done)
                   apply Exists.intro
                   refine ⟨fun W hW => ?_, ?_⟩
                   · first
                       | (have q0 := hlx W hW
                          have q1 := hly W hW
                          have q2 := heq W
                          go_simp
                          first
                            | rfl
                            | (simp only [Sem.run_bind, run_eqGuard_agg _ _ _ _ _ _ _ Try.eqGuardType28, q2, Result.andThen_ok]; rfl))
                   simp only [Act.put, List.setIfInBounds_toArray, List.set_cons_zero, List.set_cons_succ])
                | ((with_reducible refine wpQuiet_pass ?_ ?_)
                   · (first | rfl | (go_simp; done))
                   simp only [Act.put, List.setIfInBounds_toArray, List.set_cons_zero, List.set_cons_succ])
            with_reducible refine wpQuiet_nil ?_
            intro w5 hW5
            go_wp2_with (fail)
            go_meet
            case rel => exact ⟨rfl, rfl, hW5⟩
        case rest =>
          obtain ⟨rfl, rfl, hb8⟩ := hcut
          clear hfb hlo hbc
          cases fb with
          | false =>
            have hNX : NX = acc := by simpa using hins.out
            rw [hNX] at hnext hnok
            have hown2 := own_below hown hb8
            have hbel2 := hbel.trans (hb8.mono hbel.size)
            clear hins hlx hform hown
            go_wp2_with (fail)
            go_roundg f
            case rel => exact ⟨k + 1, acc, by go_num, by omega, by omega, by omega, hnext, hnok, hown2, hbel2⟩
            case measure => omega
          | true =>
            have hNX : NX = acc.take PP ++ [x] ++ acc.drop PP := by simpa using hins.out
            have hNl : NX.length = 0 + PP + 1 + (acc.length - PP) := by rw [hNX]; simp only [List.length_append, List.length_take, List.length_drop, List.length_singleton]; omega
            have hrow : Hid (rowsOf idC (acc.take PP) ++ idC x ++ rowsOf idC (acc.drop PP) = rowsOf idC NX) := by show _ = _; rw [hNX, rowsOf_append, rowsOf_append, rowsOf_one]
            have hbel8 := hbel.trans (hb8.mono hbel.size)
            have hidx : (idC x).length = 32 := idC_len hxi
            have hk32 := idsK hall.out
            replace hNl := Lib.hid hNl
            clear hown hins hNX
            rcases hform.out with ⟨rfl, rfl, rfl⟩ | ⟨g3, rfl, hg3, hr3⟩
            · obtain rfl : PP = 0 := by simpa using hPle
              clear hform
              go_upto_region 9 with (fail)
              refine wp_region_go0 16 (by kernel_rfl) (by kernel_rfl) (by kernel_rfl) (by kernel_rfl) ?_
              simp only [exSp]
              iterate 16 apply Exists.intro
              repeat
                first
                  | ((with_reducible apply lx0_ex)
                     · (go_simp; done)
                     apply Exists.intro
                     apply And.intro
                     · apply Eq.refl
                     apply And.intro
                     · intro W hW hD
                       have q1 := hlx W (hb8.trans (hW.mono hb8.size))
                       go_simp
                       rfl
                     simp only [Act.put, List.setIfInBounds_toArray, List.set_cons_zero, List.set_cons_succ])
                  | ((with_reducible apply lx0_pass)
                     · (first | rfl | (go_simp; done))
                     · apply Eq.refl
                     simp only [Act.put, List.setIfInBounds_toArray, List.set_cons_zero, List.set_cons_succ])
                  | (first | (with_reducible apply lx_move') | (with_reducible apply lx_assign')
                     · apply Eq.refl
                     apply Exists.intro
                     apply And.intro
                     · (go_simp; rfl)
                     simp only [Act.put, List.setIfInBounds_toArray, List.set_cons_zero, List.set_cons_succ])
                  | ((with_reducible apply lx_slice0 Try.idsTy)
                     · apply Eq.refl
                     intro v
                     simp only [Act.put, List.setIfInBounds_toArray, List.set_cons_zero, List.set_cons_succ])
                  | ((with_reducible apply lx_slice1 Try.idsTy (fun cs => cs = u8s x) (by omega))
                     · apply Eq.refl
                     apply Exists.intro
                     apply And.intro
                     · (go_simp; rfl)
                     refine ⟨fun W hF hD => ?_, ?_⟩
                     · exact ⟨u8s x, rfl, by rw [u8s_size, hxi], rfl⟩
                     intro v
                     simp only [Act.put, List.setIfInBounds_toArray, List.set_cons_zero, List.set_cons_succ])
                  | ((with_reducible apply lx_appC Try.idsTy 0 0 0 (fun xs => xs = []) (fun xs => xs = rowsOf idC (([] : List Txt).take 0)) (by omega) (by omega) end0_less (by kernel_rfl) (by kernel_rfl) [] (fun q hq => absurd hq (List.not_mem_nil)))
                     · apply Eq.refl
                     apply Exists.intro
                     apply Exists.intro
                     apply And.intro
                     · (go_simp; rfl)
                     apply And.intro
                     · (go_simp; rfl)
                     refine ⟨(by first | exact List.Mem.head _ | exact List.Mem.tail _ (List.Mem.head _) | exact List.Mem.tail _ (List.Mem.tail _ (List.Mem.head _)) | exact List.Mem.tail _ (List.Mem.tail _ (List.Mem.tail _ (List.Mem.head _)))), fun W hF hD => ?_, ?_⟩
                     · first
                         | exact ⟨_, src_take hk32 (hr3.below (far_nil hF)) hPle, rowsOf_one' fun x _ => idC_one x, by rintro _ rfl; rfl⟩
                         | exact ⟨[], .inr ⟨0, rfl, rfl, rfl⟩, fun u hu => by simp at hu, by rintro _ rfl; rfl⟩
                     intro v
                     simp only [Act.put, List.setIfInBounds_toArray, List.set_cons_zero, List.set_cons_succ])
                  | ((with_reducible apply lx_appC Try.idsTy 4 (0 + 0) 1 (fun xs => xs = rowsOf idC (([] : List Txt).take 0)) (fun xs => xs = rowsOf idC (([] : List Txt).take 0) ++ idC x) (by omega) (by omega) end0_less (by kernel_rfl) (by kernel_rfl) [] (fun q hq => absurd hq (List.not_mem_nil)))
                     · apply Eq.refl
                     apply Exists.intro
                     apply Exists.intro
                     apply And.intro
                     · (go_simp; rfl)
                     apply And.intro
                     · (go_simp; rfl)
                     refine ⟨(by first | exact List.Mem.head _ | exact List.Mem.tail _ (List.Mem.head _) | exact List.Mem.tail _ (List.Mem.tail _ (List.Mem.head _)) | exact List.Mem.tail _ (List.Mem.tail _ (List.Mem.tail _ (List.Mem.head _)))), fun W hF hD => ?_, ?_⟩
                     · obtain ⟨F, g5, cs, rfl, _, hk5, rfl⟩ := hD.at 0 rfl (by kernel_rfl)
                       refine ⟨idC x, .inl ⟨_, 1, rfl, by rw [hidx], range_news (range_blk hk5)⟩, idC_one x, ?_⟩
                       rintro _ rfl
                       rfl
                     intro v
                     simp only [Act.put, List.setIfInBounds_toArray, List.set_cons_zero, List.set_cons_succ])
                  | ((with_reducible apply lx_appC Try.idsTy 10 (0 + 0 + 1) (([] : List Txt).length - 0) (fun xs => xs = rowsOf idC (([] : List Txt).take 0) ++ idC x) (fun xs => xs = rowsOf idC (([] : List Txt).take 0) ++ idC x ++ rowsOf idC (([] : List Txt).drop 0)) (by omega) (by omega) end0_less (by kernel_rfl) (by kernel_rfl) [] (fun q hq => absurd hq (List.not_mem_nil)))
                     · apply Eq.refl
                     apply Exists.intro
                     apply Exists.intro
                     apply And.intro
                     · (go_simp; rfl)
                     apply And.intro
                     · (go_simp; rfl)
                     refine ⟨(by first | exact List.Mem.head _ | exact List.Mem.tail _ (List.Mem.head _) | exact List.Mem.tail _ (List.Mem.tail _ (List.Mem.head _)) | exact List.Mem.tail _ (List.Mem.tail _ (List.Mem.tail _ (List.Mem.head _)))), fun W hF hD => ?_, ?_⟩
                     · first
                         | exact ⟨_, src_drop hk32 (hr3.below (far_nil hF)) (.inl rfl) rfl, rowsOf_one' fun x _ => idC_one x, by rintro _ rfl; rfl⟩
                         | exact ⟨_, src_drop hk32 (hr3.below (far_nil hF)) (.inr (by omega)) (by omega), rowsOf_one' fun x _ => idC_one x, by rintro _ rfl; rfl⟩
                         | exact ⟨[], .inr ⟨0, rfl, rfl, rfl⟩, fun u hu => by simp at hu, by rintro _ rfl; rfl⟩
                     intro v
                     simp only [Act.put, List.setIfInBounds_toArray, List.set_cons_zero, List.set_cons_succ])
              refine lx0_nil ?_ fun w5 hW5 hD5 => ?_
              · exact List.nodup_nil
              obtain ⟨F5, xs5, rfl, ho5, _⟩ := hD5 _ (.head _)
              have hown5 : OwnIds w5 w.heap.size v NX := by
                unfold OwnIds
                rw [hNl.out, ← hrow.out]
                exact own_low' ho5 hbel8.size
              have hbel5 := hbel8.trans (hW5.mono hbel8.size)
              clear ho5 hD5 hlx
              go_wp2_with (fail)
              go_roundg f
              case rel => exact ⟨k + 1, NX, by go_num, by omega, by omega, by omega, hnext, hnok, hown5, hbel5⟩
              case measure => omega
            · replace hr3 := hr3.below hb8
              have hcl := hr3.le
              have hc63 := hr3.top63
              have hPi : (PP : Int) ≤ (acc.length : Int) := by omega
              by_cases hcP : c3 = PP
              · replace hcP := hcP.symm
                subst hcP
                clear hform
                go_upto_region 9 with (fail)
                refine wp_region_go0 16 (by kernel_rfl) (by kernel_rfl) (by kernel_rfl) (by kernel_rfl) ?_
                simp only [exSp]
                iterate 16 apply Exists.intro
                repeat
                  first
                    | ((with_reducible apply lx0_ex)
                       · (go_simp; done)
                       apply Exists.intro
                       apply And.intro
                       · apply Eq.refl
                       apply And.intro
                       · intro W hW hD
                         have q1 := hlx W (hb8.trans (hW.mono hb8.size))
                         go_simp
                         rfl
                       simp only [Act.put, List.setIfInBounds_toArray, List.set_cons_zero, List.set_cons_succ])
                    | ((with_reducible apply lx0_pass)
                       · (first | rfl | (go_simp; done))
                       · apply Eq.refl
                       simp only [Act.put, List.setIfInBounds_toArray, List.set_cons_zero, List.set_cons_succ])
                    | (first | (with_reducible apply lx_move') | (with_reducible apply lx_assign')
                       · apply Eq.refl
                       apply Exists.intro
                       apply And.intro
                       · (go_simp; rfl)
                       simp only [Act.put, List.setIfInBounds_toArray, List.set_cons_zero, List.set_cons_succ])
                    | ((with_reducible apply lx_slice0 Try.idsTy)
                       · apply Eq.refl
                       intro v
                       simp only [Act.put, List.setIfInBounds_toArray, List.set_cons_zero, List.set_cons_succ])
                    | ((with_reducible apply lx_slice1 Try.idsTy (fun cs => cs = u8s x) (by omega))
                       · apply Eq.refl
                       apply Exists.intro
                       apply And.intro
                       · (go_simp; rfl)
                       refine ⟨fun W hF hD => ?_, ?_⟩
                       · exact ⟨u8s x, rfl, by rw [u8s_size, hxi], rfl⟩
                       intro v
                       simp only [Act.put, List.setIfInBounds_toArray, List.set_cons_zero, List.set_cons_succ])
                    | ((with_reducible apply lx_appC Try.idsTy 0 0 PP (fun xs => xs = []) (fun xs => xs = rowsOf idC (acc.take PP)) (by omega) (by omega) end0_less (by kernel_rfl) (by kernel_rfl) [] (fun q hq => absurd hq (List.not_mem_nil)))
                       · apply Eq.refl
                       apply Exists.intro
                       apply Exists.intro
                       apply And.intro
                       · (go_simp; rfl)
                       apply And.intro
                       · (go_simp; rfl)
                       refine ⟨(by first | exact List.Mem.head _ | exact List.Mem.tail _ (List.Mem.head _) | exact List.Mem.tail _ (List.Mem.tail _ (List.Mem.head _)) | exact List.Mem.tail _ (List.Mem.tail _ (List.Mem.tail _ (List.Mem.head _)))), fun W hF hD => ?_, ?_⟩
                       · first
                           | exact ⟨_, src_take hk32 (hr3.below (far_nil hF)) hPle, rowsOf_one' fun x _ => idC_one x, by rintro _ rfl; rfl⟩
                           | exact ⟨[], .inr ⟨0, rfl, rfl, rfl⟩, fun u hu => by simp at hu, by rintro _ rfl; rfl⟩
                       intro v
                       simp only [Act.put, List.setIfInBounds_toArray, List.set_cons_zero, List.set_cons_succ])
                    | ((with_reducible apply lx_appC Try.idsTy 4 (0 + PP) 1 (fun xs => xs = rowsOf idC (acc.take PP)) (fun xs => xs = rowsOf idC (acc.take PP) ++ idC x) (by omega) (by omega) end0_less (by kernel_rfl) (by kernel_rfl) [] (fun q hq => absurd hq (List.not_mem_nil)))
                       · apply Eq.refl
                       apply Exists.intro
                       apply Exists.intro
                       apply And.intro
                       · (go_simp; rfl)
                       apply And.intro
                       · (go_simp; rfl)
                       refine ⟨(by first | exact List.Mem.head _ | exact List.Mem.tail _ (List.Mem.head _) | exact List.Mem.tail _ (List.Mem.tail _ (List.Mem.head _)) | exact List.Mem.tail _ (List.Mem.tail _ (List.Mem.tail _ (List.Mem.head _)))), fun W hF hD => ?_, ?_⟩
                       · obtain ⟨F, g5, cs, rfl, _, hk5, rfl⟩ := hD.at 0 rfl (by kernel_rfl)
                         refine ⟨idC x, .inl ⟨_, 1, rfl, by rw [hidx], range_news (range_blk hk5)⟩, idC_one x, ?_⟩
                         rintro _ rfl
                         rfl
                       intro v
                       simp only [Act.put, List.setIfInBounds_toArray, List.set_cons_zero, List.set_cons_succ])
                    | ((with_reducible apply lx_appC Try.idsTy 10 (0 + PP + 1) 0 (fun xs => xs = rowsOf idC (acc.take PP) ++ idC x) (fun xs => xs = rowsOf idC (acc.take PP) ++ idC x ++ rowsOf idC (acc.drop PP)) (by omega) (by omega) end0_less (by kernel_rfl) (by kernel_rfl) [] (fun q hq => absurd hq (List.not_mem_nil)))
                       · apply Eq.refl
                       apply Exists.intro
                       apply Exists.intro
                       apply And.intro
                       · (go_simp; rfl)
                       apply And.intro
                       · (go_simp; rfl)
                       refine ⟨(by first | exact List.Mem.head _ | exact List.Mem.tail _ (List.Mem.head _) | exact List.Mem.tail _ (List.Mem.tail _ (List.Mem.head _)) | exact List.Mem.tail _ (List.Mem.tail _ (List.Mem.tail _ (List.Mem.head _)))), fun W hF hD => ?_, ?_⟩
                       · first
                           | exact ⟨_, src_drop hk32 (hr3.below (far_nil hF)) (.inl rfl) rfl, rowsOf_one' fun x _ => idC_one x, by rintro _ rfl; rfl⟩
                           | exact ⟨_, src_drop hk32 (hr3.below (far_nil hF)) (.inr (by omega)) (by omega), rowsOf_one' fun x _ => idC_one x, by rintro _ rfl; rfl⟩
                           | exact ⟨[], .inr ⟨0, rfl, rfl, rfl⟩, fun u hu => by simp at hu, by rintro _ rfl; rfl⟩
                       intro v
                       simp only [Act.put, List.setIfInBounds_toArray, List.set_cons_zero, List.set_cons_succ])
                refine lx0_nil ?_ fun w5 hW5 hD5 => ?_
                · exact List.nodup_nil
                obtain ⟨F5, xs5, rfl, ho5, _⟩ := hD5 _ (.head _)
                have hown5 : OwnIds w5 w.heap.size v NX := by
                  unfold OwnIds
                  rw [hNl.out, ← hrow.out, show acc.length - PP = 0 from by omega]
                  exact own_low' ho5 hbel8.size
                have hbel5 := hbel8.trans (hW5.mono hbel8.size)
                clear ho5 hD5 hlx
                go_wp2_with (fail)
                go_roundg f
                case rel => exact ⟨k + 1, NX, by go_num, by omega, by omega, by omega, hnext, hnok, hown5, hbel5⟩
                case measure => omega
              · have hPc : (PP : Int) ≤ (c3 : Int) := by omega
                clear hform
                go_upto_region 9 with (fail)
                refine wp_region_go0 16 (by kernel_rfl) (by kernel_rfl) (by kernel_rfl) (by kernel_rfl) ?_
                simp only [exSp]
                iterate 16 apply Exists.intro
                repeat
                  first
                    | ((with_reducible apply lx0_ex)
                       · (go_simp; done)
                       apply Exists.intro
                       apply And.intro
                       · apply Eq.refl
                       apply And.intro
                       · intro W hW hD
                         have q1 := hlx W (hb8.trans (hW.mono hb8.size))
                         go_simp
                         rfl
                       simp only [Act.put, List.setIfInBounds_toArray, List.set_cons_zero, List.set_cons_succ])
                    | ((with_reducible apply lx0_pass)
                       · (first | rfl | (go_simp; done))
                       · apply Eq.refl
                       simp only [Act.put, List.setIfInBounds_toArray, List.set_cons_zero, List.set_cons_succ])
                    | (first | (with_reducible apply lx_move') | (with_reducible apply lx_assign')
                       · apply Eq.refl
                       apply Exists.intro
                       apply And.intro
                       · (go_simp; rfl)
                       simp only [Act.put, List.setIfInBounds_toArray, List.set_cons_zero, List.set_cons_succ])
                    | ((with_reducible apply lx_slice0 Try.idsTy)
                       · apply Eq.refl
                       intro v
                       simp only [Act.put, List.setIfInBounds_toArray, List.set_cons_zero, List.set_cons_succ])
                    | ((with_reducible apply lx_slice1 Try.idsTy (fun cs => cs = u8s x) (by omega))
                       · apply Eq.refl
                       apply Exists.intro
                       apply And.intro
                       · (go_simp; rfl)
                       refine ⟨fun W hF hD => ?_, ?_⟩
                       · exact ⟨u8s x, rfl, by rw [u8s_size, hxi], rfl⟩
                       intro v
                       simp only [Act.put, List.setIfInBounds_toArray, List.set_cons_zero, List.set_cons_succ])
                    | ((with_reducible apply lx_appC Try.idsTy 0 0 PP (fun xs => xs = []) (fun xs => xs = rowsOf idC (acc.take PP)) (by omega) (by omega) end0_less (by kernel_rfl) (by kernel_rfl) [] (fun q hq => absurd hq (List.not_mem_nil)))
                       · apply Eq.refl
                       apply Exists.intro
                       apply Exists.intro
                       apply And.intro
                       · (go_simp; rfl)
                       apply And.intro
                       · (go_simp; rfl)
                       refine ⟨(by first | exact List.Mem.head _ | exact List.Mem.tail _ (List.Mem.head _) | exact List.Mem.tail _ (List.Mem.tail _ (List.Mem.head _)) | exact List.Mem.tail _ (List.Mem.tail _ (List.Mem.tail _ (List.Mem.head _)))), fun W hF hD => ?_, ?_⟩
                       · first
                           | exact ⟨_, src_take hk32 (hr3.below (far_nil hF)) hPle, rowsOf_one' fun x _ => idC_one x, by rintro _ rfl; rfl⟩
                           | exact ⟨[], .inr ⟨0, rfl, rfl, rfl⟩, fun u hu => by simp at hu, by rintro _ rfl; rfl⟩
                       intro v
                       simp only [Act.put, List.setIfInBounds_toArray, List.set_cons_zero, List.set_cons_succ])
                    | ((with_reducible apply lx_appC Try.idsTy 4 (0 + PP) 1 (fun xs => xs = rowsOf idC (acc.take PP)) (fun xs => xs = rowsOf idC (acc.take PP) ++ idC x) (by omega) (by omega) end0_less (by kernel_rfl) (by kernel_rfl) [] (fun q hq => absurd hq (List.not_mem_nil)))
                       · apply Eq.refl
                       apply Exists.intro
                       apply Exists.intro
                       apply And.intro
                       · (go_simp; rfl)
                       apply And.intro
                       · (go_simp; rfl)
                       refine ⟨(by first | exact List.Mem.head _ | exact List.Mem.tail _ (List.Mem.head _) | exact List.Mem.tail _ (List.Mem.tail _ (List.Mem.head _)) | exact List.Mem.tail _ (List.Mem.tail _ (List.Mem.tail _ (List.Mem.head _)))), fun W hF hD => ?_, ?_⟩
                       · obtain ⟨F, g5, cs, rfl, _, hk5, rfl⟩ := hD.at 0 rfl (by kernel_rfl)
                         refine ⟨idC x, .inl ⟨_, 1, rfl, by rw [hidx], range_news (range_blk hk5)⟩, idC_one x, ?_⟩
                         rintro _ rfl
                         rfl
                       intro v
                       simp only [Act.put, List.setIfInBounds_toArray, List.set_cons_zero, List.set_cons_succ])
                    | ((with_reducible apply lx_appC Try.idsTy 10 (0 + PP + 1) (acc.length - PP) (fun xs => xs = rowsOf idC (acc.take PP) ++ idC x) (fun xs => xs = rowsOf idC (acc.take PP) ++ idC x ++ rowsOf idC (acc.drop PP)) (by omega) (by omega) end0_less (by kernel_rfl) (by kernel_rfl) [] (fun q hq => absurd hq (List.not_mem_nil)))
                       · apply Eq.refl
                       apply Exists.intro
                       apply Exists.intro
                       apply And.intro
                       · (go_simp; rfl)
                       apply And.intro
                       · (go_simp; rfl)
                       refine ⟨(by first | exact List.Mem.head _ | exact List.Mem.tail _ (List.Mem.head _) | exact List.Mem.tail _ (List.Mem.tail _ (List.Mem.head _)) | exact List.Mem.tail _ (List.Mem.tail _ (List.Mem.tail _ (List.Mem.head _)))), fun W hF hD => ?_, ?_⟩
                       · first
                           | exact ⟨_, src_drop hk32 (hr3.below (far_nil hF)) (.inl rfl) rfl, rowsOf_one' fun x _ => idC_one x, by rintro _ rfl; rfl⟩
                           | exact ⟨_, src_drop hk32 (hr3.below (far_nil hF)) (.inr (by omega)) (by omega), rowsOf_one' fun x _ => idC_one x, by rintro _ rfl; rfl⟩
                           | exact ⟨[], .inr ⟨0, rfl, rfl, rfl⟩, fun u hu => by simp at hu, by rintro _ rfl; rfl⟩
                       intro v
                       simp only [Act.put, List.setIfInBounds_toArray, List.set_cons_zero, List.set_cons_succ])
                refine lx0_nil ?_ fun w5 hW5 hD5 => ?_
                · exact List.nodup_nil
                obtain ⟨F5, xs5, rfl, ho5, _⟩ := hD5 _ (.head _)
                have hown5 : OwnIds w5 w.heap.size v NX := by
                  unfold OwnIds
                  rw [hNl.out, ← hrow.out]
                  exact own_low' ho5 hbel8.size
                have hbel5 := hbel8.trans (hW5.mono hbel8.size)
                clear ho5 hD5 hlx
                go_wp2_with (fail)
                go_roundg f
                case rel => exact ⟨k + 1, NX, by go_num, by omega, by omega, by omega, hnext, hnok, hown5, hbel5⟩
                case measure => omega
    | zero =>
      have hki : ¬ (k : Int) < (l.length : Int) := by omega
      have hkl : k = l.length := by omega
      subst hkl
      go_wp2_with (fail)
      go_ret
      refine ⟨_, rfl, ?_, hbel⟩
      rw [hfin.out, ← hacc.out]
      exact hown
end Go.Proofs.Ytbhdfaadedlcfaa
/- Laws at operations written out: append of a slice that reads, slice literals of none and of two. No condition; no program. -/
namespace Go.Proofs.Ytbhdfaadedlcfaa
open Go.RowKit
theorem lit_append_src {P : Program} {ops : Array Oper} {rest : List Oper} {a : Act} {W : World} {Q : Exit → Act → World → Prop} {d : Option Tmp} {rt : TypeId} {pos : String} {af : Array Edge}
    (s x : Operand) (t : TypeId) {e : TypeId} {z : Value} {size bytes : Nat} (hT : SliceTy P t e z size bytes) {base n : Nat} {v : Value} {xs : List Value} (hown : W.ownsRow base e size v n xs)
    {m : Nat} {v2 : Value} {ys : List Value} (hsrc : SrcAt size W v2 m ys) (h1 : ∀ u ∈ ys, u.oneCell' = true) (h63 : n + m ≤ 9223372036854775807) (hbytes : (n + m) * bytes ≤ 140737488355328) (hbase : base ≤ W.heap.size)
    (hs : a.eval s = v) (hx : a.eval x = v2)
    (h : ∀ v' w', w'.ownsRow base e size v' (n + m) (xs ++ ys) → Below base W w' → wpList P ops Q rest (a.put d v') w') :
    wpList P ops Q ({ dst := d, op := .call { callee := .builtin .append, args := #[s, x], argTypes := #[t, t] }, type := rt, pos := pos, after := af, guard := none } :: rest) a W :=
  wpList_plain rfl fun _ hK => by
    obtain ⟨v', w', hrun, ho, hg, _⟩ := run_append_src (rt := rt) hT hown hsrc h1 h63 hbytes hbase
    unfold Oper.wp execOp
    simp only [resolve, invoke, builtin, Sem.run_bind, Sem.run_pure, Result.andThen_ok, List.map_toArray, List.map_cons, List.map_nil, hs, hx, hrun]
    exact hK _ _ (h v' w' ho ((Below.refl _ _).grown hg hbase (fun k hk => (World.ownsRow.lt hown k hk).1)))
theorem lit_slice0 {P : Program} {w : World} {ops : Array Oper} {rest : List Oper} {a : Act} {Q : Exit → Act → World → Prop} {d : Option Tmp} {rt : TypeId} {pos : String} {af : Array Edge} {t e : TypeId} {z : Value} {size bytes : Nat} (hT : SliceTy P t e z size bytes)
    (h : ∀ v w', w'.ownsRow w.heap.size e size v 0 [] → Below w.heap.size w w' → wpList P ops Q rest (a.put d v) w') :
    wpList P ops Q ({ dst := d, op := .buildSlice t 0 #[], type := rt, pos := pos, after := af, guard := none } :: rest) a w :=
  wpList_plain rfl fun _ hK => by
    have hrun : (Instr.buildSlice t 0 #[]).run P w = .ok (.slice (some ⟨w.heap.size, 0, none⟩) 0 0) (w.alloc (.cells #[] e)) := by
      obtain ⟨it, hi, hz, hs, hb⟩ := hT.hi
      have h0 := hT.hsz
      simp [Instr.buildSlice, run_underlying hT.ht, sizeOf, typeInfo, zeroValue, hi, hz, newRow, Instr.fill]
      rw [Array.eq_empty_of_size_eq_zero (xs := Array.range 0) (by simp), Array.map_empty]
    unfold Oper.wp execOp
    simp only [Sem.run_bind, List.map_toArray, List.map_nil, hrun, Result.andThen_ok]
    exact hK _ _ (h _ _ (World.ownsRow_lit w #[] 0 (Nat.le_refl _) (by simp [maxLen]) (by simp)) ((Below.refl _ _).alloc (Nat.le_refl _) _))
/-- A slice of two elements of several cells. -/
theorem lit_slice2 {P : Program} {w : World} {ops : Array Oper} {rest : List Oper} {a : Act} {Q : Exit → Act → World → Prop} {d : Option Tmp} {rt : TypeId} {pos : String} {af : Array Edge} (x y : Operand) {t e : TypeId} {z : Value} {size bytes : Nat} (hT : SliceTy P t e z size bytes) (cs cs' : Array Value) (hcs : cs.size = size) (hcs' : cs'.size = size) (hsm : size ≤ 1000) (hx : a.eval x = .agg cs) (hy : a.eval y = .agg cs')
    (h : wpList P ops Q rest (a.put d (.slice (some ⟨w.heap.size, 0, none⟩) 2 2)) (w.alloc (.cells (cs ++ cs') e))) :
    wpList P ops Q ({ dst := d, op := .buildSlice t 2 #[(0, x), (1, y)], type := rt, pos := pos, after := af, guard := none } :: rest) a w :=
  wpList_plain rfl fun _ hK => by
    have e1 : ((#[(0, x), (1, y)] : Array (Nat × Operand)).map fun (i, x) => (i, a.eval x)) = #[(0, .agg cs), (1, .agg cs')] := by simp [hx, hy]
    have hrun : (Instr.buildSlice t 2 #[(0, .agg cs), (1, .agg cs')]).run P w = .ok (.slice (some ⟨w.heap.size, 0, none⟩) 2 2) (w.alloc (.cells (cs ++ cs') e)) := by
      obtain ⟨it, hi, hz, hs, hb⟩ := hT.hi
      have h0 := hT.hsz
      refine run_buildSlice w _ _ 2 _ _ it _ hT.ht hi hz (by rw [hs]; omega) (by rw [hs]; omega) ?_
      rw [hs]
      have := Great.fill_whole (s := size) (by omega) [Value.agg cs, Value.agg cs'] ((Array.range (2 * size)).map (z.cells[· % z.cells.size]!)) (by
        intro v hv
        simp at hv
        rcases hv with rfl | rfl
        · exact hcs
        · exact hcs') (by simp)
      have e : (cs.toList ++ cs'.toList).toArray = cs ++ cs' := by rw [← Array.toList_append, Array.toArray_toList]
      rw [← e]
      simpa [Value.cells] using this
    unfold Oper.wp execOp
    simp only [Sem.run_bind, e1, hrun, Result.andThen_ok]
    exact hK _ _ h
end Go.Proofs.Ytbhdfaadedlcfaa
/- Layer 13: the next shallow commits, on the program's side and on the document's. No condition. -/
namespace Go.Proofs.Ytbhdfaadedlcfaa
open Go.RowKit
attribute [local go_sem ↓] ldvI_eq
theorem len0_calls (w : World) : Calls Try.prog 33 #[.int .u64 0] w fun e w' => e = .returned (.int .i64 0) ∧ w' = w := by
  have h := Any.bits_Len (SlLaysF0.n15.bits (P := Try.prog) (ρ := Try.sortId_ren) { Try.sortId with }) (0 : Int) w (by omega) (by omega)
  exact h
set_option maxRecDepth 100000 in
set_option maxHeartbeats 1000000 in
theorem insNil_calls (f : Value) (w : World) : Calls Try.prog 46 #[.slice none 0 0, .int .i64 0, .int .i64 0, f] w fun e w' => e = .returned (.tuple #[]) ∧ w' = w := by
  go_enter Try.func46, Try.ntmps46
  go_wp2
  refine wp_loop_rounds 1 ?_
  rw [rounds_succ]
  go_wp2
  go_end0
  exact ⟨rfl, rfl⟩
set_option maxRecDepth 100000 in
set_option maxHeartbeats 1000000 in
theorem pdqNil_calls (f : Value) (w : World) : Calls Try.prog 32 #[.slice none 0 0, .int .i64 0, .int .i64 0, .int .i64 0, f] w fun e w' => e = .returned (.tuple #[]) ∧ w' = w := by
  have hi := Lib.hid (insNil_calls f w)
  go_enter Try.func32, Try.ntmps32
  go_wp2
  refine wp_loop_rounds 1 ?_
  rw [rounds_succ]
  go_wp2_with (first
    | ((with_reducible refine hi.out.mono ?_); rintro e w1 ⟨rfl, rfl⟩))
  (try simp only [Exit.inBlock, Exit.then]); refine bodyPost_ret (results_none rfl _ _ _) rfl ?_
  exact ⟨rfl, rfl⟩
set_option maxRecDepth 100000 in
set_option maxHeartbeats 1000000 in
theorem sortNil_calls (f : Value) (w : World) : Calls Try.prog 23 #[.slice none 0 0, f] w fun e w' => e = .returned (.tuple #[]) ∧ w' = w := by
  have hl := Lib.hid (len0_calls w)
  have hp := Lib.hid (pdqNil_calls f w)
  go_enter Try.func23, Try.ntmps23
  go_wp2_with (first
    | ((with_reducible refine hl.out.mono ?_); rintro e w1 ⟨rfl, rfl⟩)
    | ((with_reducible refine hp.out.mono ?_); rintro e w1 ⟨rfl, rfl⟩))
  go_end0
  exact ⟨rfl, rfl⟩
set_option maxRecDepth 100000 in
set_option maxHeartbeats 1000000 in
theorem depthSorted_calls (l : List Txt) (hok : ∀ x ∈ l, x.length = 32) (hbig : l.length ≤ 1000000) (v : Value) (w : World) (hv : Ids w v l) :
    Calls Try.prog 14 #[v] w fun e w' => ∃ v', e = .returned v' ∧ OwnIds w' w.heap.size v' (sortU l) ∧ Below w.heap.size w w' := by
  have hcl := Lib.hid (cloneGids_calls l hok hbig v w hv)
  obtain ⟨A, cap, rfl, _⟩ := hv
  go_enter Try.func14, Try.ntmps14
  go_wp2_with (first
    | ((with_reducible refine hcl.out.mono ?_); rintro e w1 ⟨v1, rfl, ho1, hb1⟩))
  have hbs := hb1.size
  rcases Row.of_own (gidK hok) ho1 with ⟨rfl, rfl⟩ | ⟨g, c1, rfl, hg, hrow⟩
  · have hso := fun f => Lib.hid (sortNil_calls f w1)
    have hco := Lib.hid (compactIds_calls [] hok hbig (.slice none 0 0) w1 w.heap.size hbs ho1)
    go_wp2_with (first
      | ((with_reducible refine (hso _).out.mono ?_); rintro e w2 ⟨rfl, rfl⟩)
      | ((with_reducible refine hco.out.mono ?_); rintro e w3 ⟨v3, rfl, ho3, hb3⟩))
    go_ret
    exact ⟨_, rfl, ho3, hb1.trans hb3⟩
  · have hso := Lib.hid (sortIds_calls l hok hbig w1 g c1 w.heap.size hbs hg hrow)
    have hco := fun (l' : List Txt) (h1 : ∀ x ∈ l', x.length = 32) (h2 : l'.length ≤ 1000000) (v' : Value) (w2 : World) (h3 : w.heap.size ≤ w2.heap.size) (h4 : OwnIds w2 w.heap.size v' l') => Lib.hid (compactIds_calls l' h1 h2 v' w2 w.heap.size h3 h4)
    have hl : ∀ l' : List Txt, l'.Perm l → l'.length = l.length := fun l' h => h.length_eq
    go_wp2_with (first
      | ((with_reducible refine hso.out.mono ?_); rintro e w2 ⟨rfl, l', hp, hs, hok2, hrow2, hb2⟩
         have hown2 := hrow2.own (gidK hok2) hg
         have hlen := hl l' hp
         have hc2 := hco l' hok2 (by rw [hlen]; exact hbig) _ w2 (hb1.trans hb2).size hown2
         have hfin := Lib.hid (compT_sortU hp hs)
         rw [hlen] at hc2
         clear hs hok2 hrow2 hown2 hlen)
      | ((with_reducible refine hc2.out.mono ?_); rintro e w3 ⟨v3, rfl, ho3, hb3⟩))
    go_ret
    refine ⟨_, rfl, ?_, (hb1.trans hb2).trans hb3⟩
    rw [← hfin.out, hl l' hp]
    exact ho3
set_option maxRecDepth 100000 in
set_option maxHeartbeats 2000000 in
theorem depthNext_calls (old sh deep : List Txt) (ho : ∀ x ∈ old, x.length = 32) (hs : ∀ x ∈ sh, x.length = 32) (hd : ∀ x ∈ deep, x.length = 32) (lo : old.length ≤ 1000) (ls : sh.length ≤ 1000)
    (vo vs vd : Value) (w : World) (hvo : Ids w vo old) (hvs : Ids w vs sh) (hvd : Ids w vd deep) :
    Calls Try.prog 6 #[vo, vs, vd] w fun e w' => ∃ v', e = .returned v' ∧ OwnIds w' w.heap.size v' (sortU (old.filter (fun x => !inL deep x) ++ sh)) ∧ Below w.heap.size w w' := by
  obtain ⟨W1, hW1⟩ : ∃ W1, w.alloc (.cells #[vd] 22) = W1 := ⟨_, rfl⟩
  have n1 : Blk W1 w.heap.size 22 #[vd] := by rw [← hW1]; exact Blk.new _ _ _
  have b1 : Below w.heap.size w W1 := by rw [← hW1]; exact (Below.refl _ _).alloc (Nat.le_refl _) _
  have c1 : W1.cell? ⟨w.heap.size, 0, none⟩ = some vd := by rw [n1.cell]; rfl
  have hvd1 := hvd.below b1
  have hcl := Lib.hid (cloneGids_calls old ho (by omega) vo W1 (hvo.below b1))
  obtain ⟨F, hF⟩ : ∃ F, old.filter (fun x => !inL deep x) = F := ⟨_, rfl⟩
  have hFok : ∀ x ∈ F, x.length = 32 := fun x hx => ho x (List.mem_filter.1 (hF ▸ hx)).1
  have hFl : F.length ≤ 1000 := by have := List.length_filter_le (fun x => !inL deep x) old; rw [hF] at this; omega
  have hdf : Hid (∀ (w1 : World) (v1 : Value), Below W1.heap.size W1 w1 → OwnIds w1 W1.heap.size v1 old → Calls Try.prog 10 #[v1, .func (.func 12) #[] #[.pointer (some ⟨w.heap.size, 0, none⟩)]] w1 fun e w' => ∃ v', e = .returned v' ∧ OwnIds w' W1.heap.size v' F ∧ Below W1.heap.size w1 w') := Lib.hid fun w1 v1 hb ho1 => by
    rw [← hF]
    exact deleteFuncGids_calls old ho v1 w1 W1.heap.size hb.size ho1 _ next1_func _ (inL deep) fun W x hx hW => by
      have hWW := hb.trans hW
      exact next1_calls deep hd vd w.heap.size x (ho x hx) W (Nat.lt_of_lt_of_le n1.lt hWW.size) ((hWW.cell (p := ⟨w.heap.size, 0, none⟩) n1.lt).trans c1) (hvd1.below hWW)
  have hok2 : ∀ x ∈ F ++ sh, x.length = 32 := fun x hx => (List.mem_append.1 hx).elim (hFok x) (hs x)
  have hsrc := fun W (hW : Below W1.heap.size W1 W) => SrcAt.of (idsK hs) (hvs.below (bthen b1 b1.size hW))
  have hsd := fun v W (h : Ids W v (F ++ sh)) => Lib.hid (depthSorted_calls (F ++ sh) hok2 (by rw [List.length_append]; omega) v W h)
  have hrow : Hid (rowsOf idC F ++ rowsOf idC sh = rowsOf idC (F ++ sh)) := Lib.hid (rowsOf_append _ _).symm
  have hlen : Hid ((F ++ sh).length = F.length + sh.length) := Lib.hid List.length_append
  have hone : ∀ u ∈ rowsOf idC sh, u.oneCell' = true := rowsOf_one' fun x _ => idC_one x
  have hsz1 := b1.size
  have k63 : F.length + sh.length ≤ 9223372036854775807 := by omega
  have kby : (F.length + sh.length) * 32 ≤ 140737488355328 := by omega
  have hownF : Hid (∀ W v, W.ownsRow W1.heap.size 28 32 v (F.length + sh.length) (rowsOf idC F ++ rowsOf idC sh) → OwnIds W W1.heap.size v (F ++ sh)) := Lib.hid fun W v h => by
    unfold OwnIds; rw [hlen.out, ← hrow.out]; exact h
  have hids : Hid (∀ W v, OwnIds W W1.heap.size v (F ++ sh) → Ids W v (F ++ sh)) := Lib.hid fun W v h => SliceAt.of_own (idsK hok2) h
  obtain ⟨Ao, co, rfl, _⟩ := hvo
  obtain ⟨Ad, cd, rfl, _⟩ := hvd
  replace hF := Lib.hid hF
  clear hok2 hlen hrow hvs hvd1 c1 n1 hFok
  go_enter Try.func6, Try.ntmps6
  go_wp2_with (first
    | ((with_reducible refine hcl.out.mono ?_); rintro e w1 ⟨v1, rfl, ho1, hb1⟩
       have hc2 := hdf.out w1 v1 hb1 ho1)
    | ((with_reducible refine hc2.mono ?_); rintro e w2 ⟨v2, rfl, ho2, hb2⟩
       have hb12 := hb1.trans hb2
       have hs2 := hsrc w2 hb12
       have hz2 := hb12.size)
    | ((with_reducible refine lit_append_src (.tmp 12) (.tmp 13) 22 Try.idsTy ho2 hs2 hone k63 kby hz2 ?_ ?_ ?_); rfl; rfl
       intro v3 w3 ho3 hb3
       have ho3' := hownF.out _ _ ho3
       have hc4 := hsd _ _ (hids.out _ _ ho3')
       have hb13 := hb12.trans hb3)
    | ((with_reducible refine hc4.out.mono ?_); rintro e w4 ⟨v4, rfl, ho4, hb4⟩))
  go_ret
  have hz3 := hb13.size
  rw [hF.out]
  exact ⟨_, rfl, own_low' ho4 (Nat.le_trans hsz1 hz3), bthen b1 hsz1 (hb13.trans (hb4.mono hz3))⟩
set_option maxRecDepth 100000 in
set_option maxHeartbeats 2000000 in
theorem refNext13_calls (old sh deep : List Txt) (ho : ∀ x ∈ old, x.length = 32) (hs : ∀ x ∈ sh, x.length = 32) (hd : ∀ x ∈ deep, x.length = 32) (lo : old.length ≤ 1000) (ls : sh.length ≤ 1000)
    (vo vs vd : Value) (w : World) (hvo : Ids w vo old) (hvs : Ids w vs sh) (hvd : Ids w vd deep) :
    Calls Try.prog 7 #[vo, vs, vd] w fun e w' => ∃ v', e = .returned v' ∧ OwnIds w' w.heap.size v' (sortU (sh ++ old.filter (fun x => !inL deep x))) ∧ Below w.heap.size w w' := by
  have hsrc := fun W (hW : Below w.heap.size w W) => SrcAt.of (idsK hs) (hvs.below hW)
  have hone : ∀ u ∈ rowsOf idC sh, u.oneCell' = true := rowsOf_one' fun x _ => idC_one x
  have k63 : 0 + sh.length ≤ 9223372036854775807 := by omega
  have kby : (0 + sh.length) * 32 ≤ 140737488355328 := by omega
  have hfin : Hid (sortU (sh ++ old.filter (fun x => !inL deep x)) = sortU (sh ++ keptOf (fun x => inL deep x) old old.length)) := Lib.hid (by rw [kept_end (Nat.le_refl _)])
  generalize sortU (sh ++ old.filter (fun x => !inL deep x)) = R at *
  have hin := fun W (hW : Below w.heap.size w W) x (hx : x.length = 32) => Lib.hid (in02_calls deep hd vd x hx W (hvd.below hW))
  have hso := fun l (h1 : ∀ x ∈ l, x.length = 32) (h2 : l.length ≤ 1000000) v W (h : Ids W v l) => Lib.hid (sorted02_calls l h1 h2 v W h)
  obtain ⟨A, cap, rfl, hcap1, hcap2, hat⟩ := hvo
  obtain ⟨Ad, cd, rfl, _⟩ := hvd
  go_enter Try.func7, Try.ntmps7
  go_wp2_with (first
    | ((with_reducible refine lit_slice0 Try.idsTy ?_)
       intro v0 w0 ho0 hb0
       have hs0 := hsrc w0 hb0
       have hz0 := hb0.size)
    | ((with_reducible refine lit_append_src (.tmp 10) (.tmp 11) 22 Try.idsTy ho0 hs0 hone k63 kby hz0 ?_ ?_ ?_); rfl; rfl
       intro v1 w1 ho1 hb1
       have hb01 := hb0.trans hb1))
  have ho1' : OwnIds w1 w.heap.size v1 (sh ++ keptOf (fun x => inL deep x) old 0) := by
    unfold OwnIds
    rw [show keptOf (fun x => inL deep x) old 0 = [] from rfl, List.append_nil]
    rwa [Nat.zero_add, List.nil_append] at ho1
  clear ho1 ho0 hs0 hb0 hb1 hz0 hone k63 kby hsrc
  go_loopg [7, 8] old.length (fun f va vi wr => ∃ k : Nat, vi = .int .i64 k ∧ k + f = old.length ∧ OwnIds wr w.heap.size va (sh ++ keptOf (fun x => inL deep x) old k) ∧ Below w.heap.size w wr)
  case atStart => exact ⟨0, rfl, by omega, ho1', hb01⟩
  case round =>
    obtain ⟨k, rfl, hkf, hown, hbel⟩ := hrel
    have hkl := kept_le (fun x => inL deep x) old k
    obtain ⟨L, hL⟩ : ∃ L, sh ++ keptOf (fun x => inL deep x) old k = L := ⟨_, rfl⟩
    have hLl : L.length ≤ sh.length + k := by rw [← hL, List.length_append]; omega
    rw [hL] at hown
    replace hL := Lib.hid hL
    obtain ⟨A7, c7, rfl⟩ := own_form' hown
    cases gk with
    | zero =>
      have hki : ¬ (k : Int) < (old.length : Int) := by omega
      obtain rfl : k = old.length := by omega
      have hokk : ∀ x ∈ L, x.length = 32 := fun x hx => by
        rw [← hL.out] at hx
        exact (List.mem_append.1 hx).elim (hs x) fun h => ho x (List.mem_of_mem_take (List.mem_filter.1 h).1)
      rw [hL.out] at hfin
      have hso2 := hso _ hokk (by omega) _ wr (SliceAt.of_own (idsK hokk) hown)
      have hbs := hbel.size
      clear hso hokk hkl hin hat
      go_wp2_with (first
        | ((with_reducible refine hso2.out.mono ?_); rintro e w5 ⟨v5, rfl, ho5, hb5⟩))
      go_ret
      rw [hfin.out]
      exact ⟨_, rfl, own_low' ho5 hbs, bthen hbel hbs hb5⟩
    | succ f =>
      have hki : (k : Int) < (old.length : Int) := by omega
      obtain ⟨ga, oa, rfl, hga, hca⟩ := hat (by omega)
      obtain ⟨x, hx⟩ : ∃ x, old[k]? = some x := ⟨_, List.getElem?_eq_getElem (by omega)⟩
      have hxi := ho x (List.mem_of_getElem? hx)
      have hlx : ∀ W, Below w.heap.size w W → (ldvI ⟨ga, oa + k * 32, none⟩).run Try.prog W = .ok (.agg (u8s x)) W := fun W hW => by
        have hr := rangeAt_below (hca k x hx) hga hW
        exact run_ldvI_at (show World.rangeAt W ga (oa + k * 32) (u8s x).toList from hr) hxi
      have hin2 := hin wr hbel x hxi
      have hl1 := hlx wr hbel
      have hkk : L.length + 1 ≤ 9223372036854775807 := by omega
      have hkb : (L.length + 1) * 32 ≤ 140737488355328 := by omega
      have hs1 : inL deep x = true → Hid (sh ++ keptOf (fun x => inL deep x) old (k + 1) = L) := fun h => Lib.hid (by rw [kept_drop (p := fun x => inL deep x) hx h]; exact hL.out)
      have hs2 : inL deep x = false → Hid (sh ++ keptOf (fun x => inL deep x) old (k + 1) = L ++ [x]) := fun h => Lib.hid (by rw [kept_keep (p := fun x => inL deep x) hx h, ← List.append_assoc, hL.out])
      have hbs := hbel.size
      have hbw := fun W (hW : Below wr.heap.size wr W) => hbel.trans (hW.mono hbs)
      generalize inL deep x = b at *
      clear hin hso hat hca hx hkl hL
      have hx32 : (u8s x).size = 32 := by rw [u8s_size, hxi]
      have hx132 : (u8s x).size = 1 * 32 := hx32
      have hx1 : ∀ u ∈ (u8s x).toList, u.oneCell' = true := idC_one x
      cases b
      · have hst := hs2 rfl
        have hlen2 : Hid ((L ++ [x]).length = L.length + 1) := Lib.hid (by rw [List.length_append]; rfl)
        have hrow2 : Hid (rowsOf idC (L ++ [x]) = rowsOf idC L ++ (u8s x).toList) := Lib.hid (by rw [rowsOf_append, rowsOf_one]; rfl)
        clear hs1 hs2
        go_wp2_with (first
          | ((with_reducible refine hin2.out.mono ?_); rintro e w2 ⟨rfl, hb2⟩
             have hl2 := hlx w2 (hbw w2 hb2)
             have ho2 := own_below hown hb2
             have hsz2 := Nat.le_trans hbs hb2.size)
          | ((with_reducible refine lit_slice1 (.tmp 31) Try.idsTy (u8s x) hx32 (by omega) ?_ ?_); rfl)
          | ((with_reducible refine lit_append_new (.tmp 27) (.tmp 32) 1 _ Try.idsTy ho2 (u8s x) hx132 hx1 hkk hkb hsz2 ?_ ?_ ?_); rfl; rfl
             intro v3 w3 ho3 hb3 _ _))
        have ho4 : OwnIds w3 w.heap.size v3 (sh ++ keptOf (fun x => inL deep x) old (k + 1)) := by rw [hst.out]; unfold OwnIds; rw [hlen2.out, hrow2.out]; exact ho3
        have hb4 := bthen hbel hbs hb2
        clear ho3 ho2 hown hl1 hl2 hlx hin2 hbw
        go_roundg f
        case rel => exact ⟨k + 1, by go_num, by omega, ho4, hb4.trans hb3⟩
        case measure => omega
      · have hst := hs1 rfl
        clear hs1 hs2
        go_wp2_with (first
          | ((with_reducible refine hin2.out.mono ?_); rintro e w2 ⟨rfl, hb2⟩))
        have ho4 : OwnIds w2 w.heap.size (.slice A7 L.length c7) (sh ++ keptOf (fun x => inL deep x) old (k + 1)) := by rw [hst.out]; exact own_below hown hb2
        go_roundg f
        case rel => exact ⟨k + 1, by go_num, by omega, ho4, bthen hbel hbs hb2⟩
        case measure => omega
end Go.Proofs.Ytbhdfaadedlcfaa
/- No store: Get, Object, Len, graph.End, depth.Of, depth.Bound of none. No condition. -/
namespace Go.Proofs.Ytbhdfaadedlcfaa
open Go.RowKit
attribute [local go_sem ↓] ldvI_eq ldvO_eq
def zObjS : Array Value := (objC ⟨0, [], [], noId, [], 0, [], noId, 0, []⟩ (.slice none 0 0) (.slice none 0 0)).toArray
theorem built_zObjS : Try.prog.built 45 [] = some zObjS := by kernel_rfl
theorem zObjS_size : zObjS.size = 72 := by kernel_rfl
theorem zObjS_one : zObjS.all (·.oneCell') = true := by kernel_rfl
theorem zeroObjS (W : World) : (zeroValue 45).run Try.prog W = .ok (.agg zObjS) W := by
  have h : (Try.prog.info? 45).map (·.zero) = some (some (.agg zObjS)) := by kernel_rfl
  obtain ⟨i, h1, h2⟩ := Option.map_eq_some_iff.1 h
  simp [zeroValue, typeInfo, h1, h2]
theorem built_zIdS : Try.prog.built 28 [] = some (u8s noId) := by kernel_rfl
theorem zeroIdS (W : World) : (zeroValue 28).run Try.prog W = .ok (.agg (u8s noId)) W := by
  have h : (Try.prog.info? 28).map (·.zero) = some (some (.agg (u8s noId))) := by kernel_rfl
  obtain ⟨i, h1, h2⟩ := Option.map_eq_some_iff.1 h
  simp [zeroValue, typeInfo, h1, h2]
theorem boxIdS (w : World) (n : Txt) (hn : n.length = 32) : ∃ W1, w.alloc (.cells (u8s n) 28) = W1 ∧ Below w.heap.size w W1 ∧ Blk W1 w.heap.size 28 (u8s n) ∧ ∀ W, Below W1.heap.size W1 W → (ldvI ⟨w.heap.size, 0, none⟩).run Try.prog W = .ok (.agg (u8s n)) W := by
  have n1 : Blk (w.alloc (.cells (u8s n) 28)) w.heap.size 28 (u8s n) := Blk.new _ _ _
  exact ⟨_, rfl, (Below.refl _ _).alloc (Nat.le_refl _) _, n1, fun W hW => run_ldvI_at (range_blk (n1.below hW n1.lt)) hn⟩
set_option maxRecDepth 100000 in
theorem nilSPlace_calls (n : Txt) (w : World) : Calls Try.prog 35 #[.pointer none, .agg (u8s n)] w fun e w' => e = .returned (.tuple #[.int .i64 0, .bool false]) ∧ Below w.heap.size w w' := by
  go_enter Try.func35, Try.ntmps35
  go_wp2
  go_ret2
  exact ⟨rfl, (Below.refl _ _).alloc (Nat.le_refl _) _⟩
set_option maxRecDepth 100000 in
theorem nilSLen_calls (w : World) : Calls Try.prog 29 #[.pointer none] w fun e w' => e = .returned (.int .i64 0) ∧ w' = w := by
  go_enter Try.func29, Try.ntmps29
  go_wp2
  go_ret
  exact ⟨rfl, rfl⟩
set_option maxRecDepth 100000 in
theorem nilSGet_calls (n : Txt) (hn : n.length = 32) (w : World) : Calls Try.prog 27 #[.pointer none, .agg (u8s n)] w fun e w' => e = .returned (.tuple #[.string (B []), .bool false]) ∧ Below w.heap.size w w' := by
  obtain ⟨W1, hW1, b1, n1, ld⟩ := boxIdS w n hn
  have q1 := ld W1 (Below.refl _ _)
  have hp := Lib.hid (nilSPlace_calls n W1)
  generalize u8s n = NC at *
  clear ld n1
  go_enter Try.func27, Try.ntmps27
  go_wp2_with (first
    | ((with_reducible refine hp.out.mono ?_); rintro e w2 ⟨rfl, hb2⟩))
  go_ret2
  exact ⟨rfl, bthen b1 b1.size hb2⟩
set_option maxRecDepth 100000 in
set_option maxHeartbeats 1000000 in
theorem nilSObject_calls (n : Txt) (hn : n.length = 32) (w : World) : Calls Try.prog 17 #[.pointer none, .agg (u8s n)] w fun e w' => e = .returned (.tuple #[.agg zObjS, .bool false]) ∧ Below w.heap.size w w' := by
  have hzo := zeroObjS
  have hz72 := zObjS_size
  have hrb := fun W => run_build (P := Try.prog) W _ _ _ built_zObjS
  have hsz : ∀ cs : Array Value, cs.size = 72 → (Try.prog.info? 45).map (·.size) = some cs.size := fun cs h => by rw [h]; exact szObj
  have hzone : zObjS.all (·.oneCell') = true := zObjS_one
  obtain ⟨W1, hW1, b1, n1, ld⟩ := boxIdS w n hn
  obtain ⟨W2, hW2⟩ : ∃ W2, W1.alloc (.cells zObjS 45) = W2 := ⟨_, rfl⟩
  have z2 : Blk W2 W1.heap.size 45 zObjS := by rw [← hW2]; exact Blk.new _ _ _
  have bb2 : Below W1.heap.size W1 W2 := by rw [← hW2]; exact (Below.refl _ _).alloc (Nat.le_refl _) _
  have b2 := bthen b1 b1.size bb2
  have hg := Lib.hid (nilSGet_calls n hn W2)
  have q1 := ld W2 bb2
  have hle1 := b1.size
  generalize u8s n = NC at *
  generalize zObjS = ZO at *
  clear ld n1
  go_enter Try.func17, Try.ntmps17
  go_wp2_with (first
    | ((with_reducible refine hg.out.mono ?_); rintro e w3 ⟨rfl, hb3⟩
       have b3 := bthen b2 b2.size hb3
       have z3 := z2.below hb3 z2.lt)
    | (refine wpList_store_row rfl 45 (.tmp 4) (.tmp 18) rfl W1.heap.size ZO rfl rfl _ _ z3 (hsz ZO hz72) rfl hzone ?_))
  refine bodyPost_ret (results_row_tmp rfl _ _ W1.heap.size _ _ _ _ rfl (setRow_heap _ _ _ _ _ _ z3) Try.underlying45 rfl (hsz ZO hz72)) rfl ⟨rfl, below_setRow b3 hle1 _⟩
set_option maxRecDepth 100000 in
set_option maxHeartbeats 1000000 in
theorem nilSEnd_calls (n : Txt) (hn : n.length = 32) (w : World) : Calls Try.prog 19 #[.pointer none, .agg (u8s n)] w fun e w' => e = .returned (.tuple #[.agg (u8s noId), .bool false]) ∧ Below w.heap.size w w' := by
  have hzi := zeroIdS
  have hzo := zeroObjS
  have hz72 := zObjS_size
  have hrb := fun W => run_build (P := Try.prog) W _ _ _ built_zIdS
  have hZ32 : (u8s noId).size = 32 := by rw [u8s_size]; rfl
  have hZone := u8s_one noId
  have hsI : (Try.prog.info? 28).map (·.size) = some (u8s noId).size := by rw [hZ32]; exact sz32
  have hone := zObjS_one
  obtain ⟨W1, hW1, b1, n1, ld⟩ := boxIdS w n hn
  obtain ⟨W2, hW2⟩ : ∃ W2, W1.alloc (.cells (u8s noId) 28) = W2 := ⟨_, rfl⟩
  have z2 : Blk W2 W1.heap.size 28 (u8s noId) := by rw [← hW2]; exact Blk.new _ _ _
  have bb2 : Below W1.heap.size W1 W2 := by rw [← hW2]; exact (Below.refl _ _).alloc (Nat.le_refl _) _
  have b2 := bthen b1 b1.size bb2
  have hl := Lib.hid (nilSLen_calls W2)
  have ho := Lib.hid (nilSObject_calls n hn W2)
  have q1 := ld W2 bb2
  have hle1 := b1.size
  generalize u8s n = NC at *
  generalize u8s noId = Z at *
  generalize zObjS = ZO at *
  clear ld n1
  go_enter Try.func19, Try.ntmps19
  go_wp2_with (first
    | ((with_reducible refine hl.out.mono ?_); rintro e w3 ⟨rfl, rfl⟩))
  refine wp_loop_rounds 1 ?_
  rw [rounds_succ]
  go_wp2_with (first
    | ((with_reducible refine ho.out.mono ?_); rintro e w3 ⟨rfl, hb3⟩
       have b3 := bthen b2 b2.size hb3
       have z3 := z2.below hb3 z2.lt)
    | ((with_reducible refine lit_new 45 (.tmp 6) (.tmp 17) ZO 72 szObj hz72 hone _ ?_ ?_ ?_ ?_)
       · first | exact hz72 | rfl
       · rfl
       · rfl
       intro W4 hb4 hbl4
       have b4 := bthen b3 b3.size hbl4
       have z4 := z3.below hbl4 z3.lt)
    | (refine wpList_store_row rfl 28 (.tmp 4) (.tmp 22) rfl W1.heap.size Z rfl rfl _ _ z4 hsI rfl hZone ?_))
  refine bodyPost_ret (results_row_tmp rfl _ _ W1.heap.size _ _ _ _ rfl (setRow_heap _ _ _ _ _ _ z4) Try.underlying28 rfl hsI) rfl ⟨rfl, below_setRow b4 hle1 _⟩
end Go.Proofs.Ytbhdfaadedlcfaa
/- Layer 13: the depths of no store, what is known by example. No condition. -/
namespace Go.Proofs.Ytbhdfaadedlcfaa
open Go.RowKit
attribute [local go_sem ↓] ldvI_eq
set_option maxRecDepth 100000 in
theorem fine0_calls (w : World) : Calls Try.prog 18 #[.int .i64 0] w fun e w' => e = .returned (.bool false) ∧ w' = w := by
  go_enter Try.func18, Try.ntmps18
  go_wp2
  go_ret
  exact ⟨rfl, rfl⟩
set_option maxRecDepth 100000 in
theorem fine1_calls (w : World) : Calls Try.prog 18 #[.int .i64 1] w fun e w' => e = .returned (.bool true) ∧ w' = w := by
  go_enter Try.func18, Try.ntmps18
  go_wp2
  go_ret
  exact ⟨rfl, rfl⟩
set_option maxRecDepth 100000 in
theorem ofNil0_calls (w : World) : Calls Try.prog 9 #[.pointer none, .slice none 0 0, .int .i64 0] w fun e w' => e = .returned (.tuple #[.slice none 0 0, .int .i64 1]) ∧ w' = w := by
  have hf := Lib.hid (fine0_calls w)
  go_enter Try.func9, Try.ntmps9
  go_wp2_with (first
    | ((with_reducible refine hf.out.mono ?_); rintro e w1 ⟨rfl, rfl⟩))
  go_ret2
  exact ⟨rfl, rfl⟩
set_option maxRecDepth 100000 in
theorem boundNil_calls (w : World) : Calls Try.prog 8 #[.pointer none, .slice none 0 0, .int .i64 0] w fun e w' => e = .returned (.tuple #[.slice none 0 0, .slice none 0 0, .int .i64 1]) ∧ w' = w := by
  have hf := Lib.hid (ofNil0_calls w)
  go_enter Try.func8, Try.ntmps8
  go_wp2_with (first
    | ((with_reducible refine hf.out.mono ?_); rintro e w1 ⟨rfl, rfl⟩))
  go_ret3
  exact ⟨rfl, rfl⟩
set_option maxRecDepth 100000 in
set_option maxHeartbeats 1000000 in
theorem ofNil1_calls (n : Txt) (hn : n.length = 32) (g : Nat) (w : World) (hb : Blk w g 28 (u8s n)) : Calls Try.prog 9 #[.pointer none, .slice (some ⟨g, 0, none⟩) 1 1, .int .i64 1] w fun e w' => e = .returned (.tuple #[.slice none 0 0, .int .i64 0]) ∧ Below w.heap.size w w' := by
  have hf := Lib.hid (fine1_calls w)
  have hl0 := run_ldvI_at (range_blk hb) hn
  have he := fun W => Lib.hid (nilSEnd_calls n hn W)
  have hN32 : (u8s n).size = 32 := by rw [u8s_size, hn]
  have hZ32 : (u8s noId).size = 32 := by rw [u8s_size]; rfl
  have hNone := u8s_one n
  have hZone := u8s_one noId
  have hlN : ∀ W p, Blk W p 28 (u8s n) → (ldvI ⟨p, 0, none⟩).run Try.prog W = .ok (.agg (u8s n)) W := fun W p h => run_ldvI_at (range_blk h) hn
  have hzi := zeroIdS
  generalize u8s noId = Z at *
  generalize u8s n = NC at *
  clear hb
  go_enter Try.func9, Try.ntmps9
  go_wp2_with (first
    | ((with_reducible refine hf.out.mono ?_); rintro e w1 ⟨rfl, rfl⟩))
  refine wp_loop_rounds 2 ?_
  rw [rounds_succ]
  go_wp2_with (first
    | ((with_reducible refine lit_new 28 (.tmp 10) (.tmp 23) NC 32 sz32 hN32 hNone _ ?_ ?_ ?_ ?_)
       · first | exact hZ32 | rfl
       · rfl
       · rfl
       intro W2 hb2 hbl2
       have hl2 := hlN W2 _ hb2
       have he2 := he W2)
    | ((with_reducible refine he2.out.mono ?_); rintro e w3 ⟨rfl, hb3⟩
       have b3 := bthen hbl2 hbl2.size hb3)
    | ((with_reducible refine lit_new 28 (.tmp 11) (.tmp 28) Z 32 sz32 hZ32 hZone _ ?_ ?_ ?_ ?_)
       · first | exact hZ32 | rfl
       · rfl
       · rfl
       intro W4 hb4 hbl4
       have b4 := bthen b3 b3.size hbl4))
  rw [rounds_succ]
  go_wp2
  refine wp_loop_rounds 1 ?_
  rw [rounds_succ]
  go_wp2
  go_ret2
  exact ⟨rfl, b4⟩
/-- An id of one figure. -/
def idN (c : UInt8) : Txt := c :: List.replicate 31 0
theorem idN_len (c : UInt8) : (idN c).length = 32 := rfl
theorem built_id1 : Try.prog.built 28 [(0, .int .u8 1)] = some (u8s (idN 1)) := by kernel_rfl
theorem built_id2 : Try.prog.built 28 [(0, .int .u8 2)] = some (u8s (idN 2)) := by kernel_rfl
theorem built_id3 : Try.prog.built 28 [(0, .int .u8 3)] = some (u8s (idN 3)) := by kernel_rfl
theorem two_ids {w : World} {g : Nat} {a b : Txt} (ha : a.length = 32) (hb : b.length = 32) (h : Blk w g 28 (u8s a ++ u8s b)) : Ids w (.slice (some ⟨g, 0, none⟩) 2 2) [a, b] := by
  have hr := range_blk h
  refine ⟨_, 2, rfl, by simp, by omega, fun _ => ⟨g, 0, rfl, h.lt, fun i x hx => ?_⟩⟩
  have e : (u8s a ++ u8s b).toList = rowsOf idC [a, b] := by rw [Array.toList_append]; simp [rowsOf, idC]
  rw [e] at hr
  intro j u hu
  have := rowsOf_get (l := [a, b]) (enc := idC) (k := 32) (by
    intro y hy
    simp at hy
    rcases hy with rfl | rfl
    · exact idC_len ha
    · exact idC_len hb) hx hu
  have h2 := hr _ _ this
  rwa [← Nat.add_assoc] at h2
theorem one_id {w : World} {g : Nat} {a : Txt} (h : Blk w g 28 (u8s a)) : Ids w (.slice (some ⟨g, 0, none⟩) 1 1) [a] := by
  have hr := range_blk h
  refine ⟨_, 1, rfl, by simp, by omega, fun _ => ⟨g, 0, rfl, h.lt, fun i x hx => ?_⟩⟩
  cases i with
  | zero => cases hx; intro j u hu; exact hr j u hu
  | succ i => simp at hx
theorem next_row : sortU ([idN 1, idN 2].filter (fun x => !inL [idN 1] x) ++ [idN 3]) = [idN 2, idN 3] := by decide +kernel
set_option maxRecDepth 100000 in
set_option maxHeartbeats 4000000 in
theorem depthKnows_calls (w : World) : Calls Try.prog 4 #[] w fun e w' => e = .returned (.bool true) ∧ Below w.heap.size w w' := by
  have hZ32 : (u8s noId).size = 32 := by rw [u8s_size]; rfl
  have hzi := zeroIdS
  have hld : Hid (∀ c W p, Blk W p 28 (u8s (idN c)) → (ldvI ⟨p, 0, none⟩).run Try.prog W = .ok (.agg (u8s (idN c))) W) := Lib.hid fun c W p h => run_ldvI_at (range_blk h) (idN_len c)
  have hsz : Hid (∀ c, (u8s (idN c)).size = 32) := Lib.hid fun c => by rw [u8s_size]; rfl
  have hone : Hid (∀ c, (u8s (idN c)).all (·.oneCell') = true) := Lib.hid fun c => u8s_one _
  have hbd := Lib.hid boundNil_calls
  have hof : Hid (∀ g w, Blk w g 28 (u8s (idN 1)) → Hid (Calls Try.prog 9 #[.pointer none, .slice (some ⟨g, 0, none⟩) 1 1, .int .i64 1] w fun e w' => e = .returned (.tuple #[.slice none 0 0, .int .i64 0]) ∧ Below w.heap.size w w')) := Lib.hid fun g w h => Lib.hid (ofNil1_calls (idN 1) rfl g w h)
  have hnx : Hid (∀ w g1 g2 g3, Blk w g1 28 (u8s (idN 1) ++ u8s (idN 2)) → Blk w g2 28 (u8s (idN 3)) → Blk w g3 28 (u8s (idN 1)) → Hid (Calls Try.prog 6 #[.slice (some ⟨g1, 0, none⟩) 2 2, .slice (some ⟨g2, 0, none⟩) 1 1, .slice (some ⟨g3, 0, none⟩) 1 1] w fun e w' => ∃ g cap, e = .returned (.slice (some ⟨g, 0, none⟩) 2 cap) ∧ Row w' g 28 32 idC cap [idN 2, idN 3] ∧ Below w.heap.size w w')) := Lib.hid fun w g1 g2 g3 h1 h2 h3 => Lib.hid (by
    have h := depthNext_calls [idN 1, idN 2] [idN 3] [idN 1] (by decide) (by decide) (by decide) (by decide) (by decide) _ _ _ w (two_ids rfl rfl h1) (one_id h2) (one_id h3)
    rw [next_row] at h
    refine h.mono fun e w' ⟨v, he, ho, hb⟩ => ?_
    rcases Row.of_own (idsK (l := [idN 2, idN 3]) (by decide)) ho with ⟨_, h4⟩ | ⟨g, cap, rfl, hg, hr⟩
    · cases h4
    · exact ⟨g, cap, he, hr, hb⟩)
  have hl23 : Hid (∀ W g cap, Row W g 28 32 idC cap [idN 2, idN 3] → (ldvI ⟨g, 0, none⟩).run Try.prog W = .ok (.agg (u8s (idN 2))) W ∧ (ldvI ⟨g, 32, none⟩).run Try.prog W = .ok (.agg (u8s (idN 3))) W) := Lib.hid fun W g cap h =>
    ⟨run_ldvI_at (show World.rangeAt W g 0 (u8s (idN 2)).toList from h.at_ 0 _ rfl) rfl, run_ldvI_at (show World.rangeAt W g 32 (u8s (idN 3)).toList from h.at_ 1 _ rfl) rfl⟩
  have he2 : ∀ W, (binOp .eql 28 (.agg (u8s (idN 2))) (.agg (u8s (idN 2)))).run Try.prog W = .ok (.bool true) W := fun W => run_eql_id W (idN 2) (idN 2) rfl rfl
  have he3 : ∀ W, (binOp .eql 28 (.agg (u8s (idN 3))) (.agg (u8s (idN 3)))).run Try.prog W = .ok (.bool true) W := fun W => run_eql_id W (idN 3) (idN 3) rfl rfl
  have hb1 := built_id1
  have hb2 := built_id2
  have hb3 := built_id3
  have l1 := hld.out 1
  have l2 := hld.out 2
  have l3 := hld.out 3
  have s1 := hsz.out 1
  have s2 := hsz.out 2
  have s3 := hsz.out 3
  have o1 := hone.out 1
  have o2 := hone.out 2
  have o3 := hone.out 3
  clear hld hsz hone
  generalize u8s (idN 1) = C1 at *
  generalize u8s (idN 2) = C2 at *
  generalize u8s (idN 3) = C3 at *
  generalize u8s noId = Z at *
  go_enter Try.func4, Try.ntmps4
  go_wp2_with (first
    | ((with_reducible refine lit_build1 hb1 ?_ ?_); rfl)
    | ((with_reducible refine lit_build1 hb2 ?_ ?_); rfl)
    | ((with_reducible refine lit_build1 hb3 ?_ ?_); rfl)
    | ((with_reducible refine lit_new 28 (.tmp 1) (.tmp 10) C1 32 sz32 s1 o1 _ ?_ ?_ ?_ ?_)
       · first | exact hZ32 | rfl
       · rfl
       · rfl
       intro W1 n1 bl1)
    | ((with_reducible refine lit_new 28 (.tmp 2) (.tmp 11) C2 32 sz32 s2 o2 _ ?_ ?_ ?_ ?_)
       · first | exact hZ32 | rfl
       · rfl
       · rfl
       intro W2 n2 bl2
       have b2 := bthen bl1 bl1.size bl2
       have n1b := n1.below bl2 n1.lt)
    | ((with_reducible refine lit_new 28 (.tmp 3) (.tmp 12) C3 32 sz32 s3 o3 _ ?_ ?_ ?_ ?_)
       · first | exact hZ32 | rfl
       · rfl
       · rfl
       intro W3 n3 bl3
       have b3 := bthen b2 b2.size bl3
       have n1c := n1b.below bl3 n1b.lt
       have n2c := n2.below bl3 n2.lt
       have q1 := l1 W3 _ n1c
       have q2 := l2 W3 _ n2c
       have q3 := l3 W3 _ n3
       obtain ⟨W4, hW4⟩ : ∃ W4, W3.alloc (.cells (C1 ++ C2) 28) = W4 := ⟨_, rfl⟩
       have bl4 : Below W3.heap.size W3 W4 := by rw [← hW4]; exact (Below.refl _ _).alloc (Nat.le_refl _) _
       have m4 : Blk W4 W3.heap.size 28 (C1 ++ C2) := by rw [← hW4]; exact Blk.new _ _ _
       have q31 := l3 W4 _ (n3.below bl4 n3.lt)
       obtain ⟨W5, hW5⟩ : ∃ W5, W4.alloc (.cells C3 28) = W5 := ⟨_, rfl⟩
       have bl5 : Below W4.heap.size W4 W5 := by rw [← hW5]; exact (Below.refl _ _).alloc (Nat.le_refl _) _
       have m5 : Blk W5 W4.heap.size 28 C3 := by rw [← hW5]; exact Blk.new _ _ _
       have b45 := bthen bl4 bl4.size bl5
       have q12 := l1 W5 _ (n1c.below b45 n1c.lt)
       obtain ⟨W6, hW6⟩ : ∃ W6, W5.alloc (.cells C1 28) = W6 := ⟨_, rfl⟩
       have bl6 : Below W5.heap.size W5 W6 := by rw [← hW6]; exact (Below.refl _ _).alloc (Nat.le_refl _) _
       have m6 : Blk W6 W5.heap.size 28 C1 := by rw [← hW6]; exact Blk.new _ _ _
       have b46 := bthen b45 b45.size bl6
       have hN := hnx.out W6 _ _ _ ((m4.below bl5 m4.lt).below bl6 (m4.below bl5 m4.lt).lt) (m5.below bl6 m5.lt) m6)
    | ((with_reducible refine lit_slice2 (.tmp 13) (.tmp 14) Try.idsTy C1 C2 s1 s2 (by omega) ?_ ?_ ?_); rfl; rfl; rw [hW4])
    | ((with_reducible refine lit_slice1 (.tmp 16) Try.idsTy C3 s3 (by omega) ?_ ?_); rfl; rw [hW5])
    | ((with_reducible refine lit_slice1 (.tmp 18) Try.idsTy C1 s1 (by omega) ?_ ?_); rfl; rw [hW6])
    | ((with_reducible refine hN.out.mono ?_); rintro e w7 ⟨g, cap, rfl, hr7, hb7⟩
       have b7 := bthen b46 b46.size hb7
       have hbd7 := hbd.out w7
       have q17 := l1 w7 _ (n1c.below b7 n1c.lt)
       obtain ⟨W8, hW8⟩ : ∃ W8, w7.alloc (.cells C1 28) = W8 := ⟨_, rfl⟩
       have bl8 : Below w7.heap.size w7 W8 := by rw [← hW8]; exact (Below.refl _ _).alloc (Nat.le_refl _) _
       have m8 : Blk W8 w7.heap.size 28 C1 := by rw [← hW8]; exact Blk.new _ _ _
       have hof8 := hof.out _ W8 m8)
    | ((with_reducible refine hbd7.mono ?_); rintro e w71 ⟨rfl, rfl⟩)
    | ((with_reducible refine lit_slice1 (.tmp 27) Try.idsTy C1 s1 (by omega) ?_ ?_); rfl; rw [hW8])
    | ((with_reducible refine hof8.out.mono ?_); rintro e w9 ⟨rfl, hb9⟩
       have b79 := bthen bl8 bl8.size hb9
       have h92 := fun W (hW : Below w9.heap.size w9 W) => (hl23.out W g cap (hr7.below (bthen b79 b79.size hW))).1
       have h93 := fun W (hW : Below w9.heap.size w9 W) => (hl23.out W g cap (hr7.below (bthen b79 b79.size hW))).2
       have b39 := bthen b7 b7.size b79
       have h9n2 := fun W (hW : Below w9.heap.size w9 W) => l2 W _ (n2c.below (bthen b39 b39.size hW) n2c.lt)
       have h9n3 := fun W (hW : Below w9.heap.size w9 W) => l3 W _ (n3.below (bthen b39 b39.size hW) n3.lt)
       have b9 := bthen b3 b3.size b39))
  clear hnx hof hl23 hr7 l1 l2 l3 hzi
  refine wp_region_class (C := fun W => Below w9.heap.size w9 W) (by kernel_rfl) (by kernel_rfl) (Below.refl _ _).drew ?_
  repeat
    first
      | ((with_reducible refine wpQuiet_ex ?_ ?_)
         · (go_simp; done)
         apply Exists.intro
         refine ⟨fun W hW => ?_, ?_⟩
         · first
             | (have q1 := h92 W hW
                have q2 := h93 W hW
                have q3 := h9n2 W hW
                have q4 := h9n3 W hW
                have q5 := he2 W
                have q6 := he3 W
                go_simp
                first
                  | rfl
                  | (simp only [Sem.run_bind, run_eqGuard_agg _ _ _ _ _ _ _ Try.eqGuardType28, q5, q6, Result.andThen_ok]; rfl))
         simp only [Act.put, List.setIfInBounds_toArray, List.set_cons_zero, List.set_cons_succ])
      | ((with_reducible refine wpQuiet_pass ?_ ?_)
         · (first | rfl | (go_simp; done))
         simp only [Act.put, List.setIfInBounds_toArray, List.set_cons_zero, List.set_cons_succ])
  with_reducible refine wpQuiet_nil ?_
  intro w5 hW5
  go_wp2
  go_ret
  exact ⟨rfl, bthen b9 b9.size hW5⟩
end Go.Proofs.Ytbhdfaadedlcfaa
/- The walk of layer 2's document: Same, at equal lists. No condition. -/
namespace Go.Proofs.Ytbhdfaadedlcfaa
open Go.RowKit
attribute [local go_sem ↓] ldvI_eq
/-- What lies there while two lists of ids are looked at. -/
structure TwoC (w : World) (ga oa gb ob : Nat) (x : Txt) (w' : World) : Prop where
  a_ : w'.rangeAt ga oa (idC x)
  b_ : w'.rangeAt gb ob (idC x)
  bel : Below w.heap.size w w'
theorem TwoC.drew {w : World} {ga oa gb ob : Nat} {x : Txt} {w' : World} (h : TwoC w ga oa gb ob x w') : TwoC w ga oa gb ob x w'.drew := ⟨h.a_, h.b_, h.bel.drew⟩
theorem quiet_neq_idC {C : World → Prop} {W : World} {a : Act} {d : Option Tmp} {rt t' : TypeId} {pos : String} {af : Array Edge} {gd : Option (Nat × Bool)} {x y : Operand} (p : Txt) (hp : p.length = 32)
    (hx : a.eval x = .agg (idC p).toArray) (hy : a.eval y = .agg (idC p).toArray) : Oper.quietUpon Try.prog C W (.bool false) ((execOp a.eval { dst := d, op := .binOp .neq 28 x y t', type := rt, pos := pos, after := af, guard := gd }).run Try.prog W) := by
  have e : (idC p).toArray = u8s p := by simp [idC]
  rw [e] at hx hy
  unfold execOp
  simp only [hx, hy, Sem.run_bind, run_eqGuard_agg _ _ _ _ _ _ _ Try.eqGuardType28, run_neq_id W p p hp hp, Result.andThen_ok, decide_true, Bool.not_true]
  exact ⟨rfl, rfl⟩
set_option maxRecDepth 100000 in
set_option maxHeartbeats 2000000 in
theorem refSame02_calls (l : List Txt) (hok : ∀ x ∈ l, x.length = 32) (va vb : Value) (w : World) (ha : Ids w va l) (hb : Ids w vb l) :
    Calls Try.prog 5 #[va, vb] w fun e w' => e = .returned (.bool true) ∧ Below w.heap.size w w' := by
  have hla := ha.len
  obtain ⟨A, capa, rfl, ha1, ha2, hata⟩ := ha
  obtain ⟨B', capb, rfl, hb1, hb2, hatb⟩ := hb
  go_enter Try.func5, Try.ntmps5
  go_wp2
  go_loopw [5] (fun i wr => ∃ k : Nat, i = .int .i64 k ∧ k ≤ l.length ∧ Below w.heap.size w wr) (fun i _ => l.length - (intOf i).toNat)
  case atStart => exact ⟨0, rfl, by omega, Below.refl _ _⟩
  case round =>
    obtain ⟨k, rfl, hk, hbel⟩ := hrel
    by_cases hlt : k < l.length
    · have hki : (k : Int) < (l.length : Int) := by omega
      obtain ⟨ga, oa, rfl, hga, hca⟩ := hata (by omega)
      obtain ⟨gb, ob, rfl, hgb, hcb⟩ := hatb (by omega)
      obtain ⟨x, hx⟩ : ∃ x, l[k]? = some x := ⟨_, List.getElem?_eq_getElem hlt⟩
      have hxok := hok x (List.mem_of_getElem? hx)
      have hS : TwoC w ga (oa + k * 32) gb (ob + k * 32) x wr := ⟨rangeAt_below (hca k x hx) hga hbel, rangeAt_below (hcb k x hx) hgb hbel, hbel⟩
      have hsz : (Try.prog.info? 28).map (·.size) = some (idC x).length := by rw [idC_len hxok]; exact sz32
      clear hx hata hatb hca hcb hbel hok
      go_wp2
      refine wp_region_class (C := TwoC w ga (oa + k * 32) gb (ob + k * 32) x) (by kernel_rfl) (by kernel_rfl) hS.drew ?_
      repeat
        first
          | ((with_reducible refine wpQuiet_ex ?_ ?_)
             · (go_simp; done)
             apply Exists.intro
             refine ⟨fun W hW => ?_, ?_⟩
             · first
                 | exact quiet_load_mid _ _ rfl ga (oa + k * 32) rfl (idC x) _ hW.a_ Try.underlying28 rfl hsz rfl
                 | exact quiet_load_mid _ _ rfl gb (ob + k * 32) rfl (idC x) _ hW.b_ Try.underlying28 rfl hsz rfl
                 | ((with_reducible refine quiet_neq_idC x hxok ?_ ?_) <;> rfl)
                 | (go_simp
                    first
                      | rfl)
             simp only [Act.put, List.setIfInBounds_toArray, List.set_cons_zero, List.set_cons_succ])
          | ((with_reducible refine wpQuiet_pass ?_ ?_)
             · (first | rfl | (go_simp; done))
             simp only [Act.put, List.setIfInBounds_toArray, List.set_cons_zero, List.set_cons_succ])
      with_reducible refine wpQuiet_nil ?_
      intro w5 hW5
      go_wp2
      go_roundw
      case rel => exact ⟨k + 1, by go_num, by omega, hW5.bel⟩
      case measure => simp [intOf]; omega
    · have hki : ¬ (k : Int) < (l.length : Int) := by omega
      go_wp2
      go_ret
      exact ⟨rfl, hbel⟩
end Go.Proofs.Ytbhdfaadedlcfaa
/- The law of layer 13's next shallow commits: the walk. No condition. -/
namespace Go.Proofs.Ytbhdfaadedlcfaa
open Go.RowKit
set_option maxRecDepth 100000 in
set_option maxHeartbeats 2000000 in
theorem depthNextLaw_calls (old sh deep : List Txt) (ho : ∀ x ∈ old, x.length = 32) (hs : ∀ x ∈ sh, x.length = 32) (hd : ∀ x ∈ deep, x.length = 32) (vo vs vd : Value) (w : World) (hvo : Ids w vo old) (hvs : Ids w vs sh) (hvd : Ids w vd deep) :
    Calls Try.prog 3 #[vo, vs, vd] w fun e w' => e = .returned (.bool true) ∧ Below w.heap.size w w' := by
  have hkn := fun W => Lib.hid (depthKnows_calls W)
  have h0 := hvo
  have h1 := hvs
  have h2 := hvd
  obtain ⟨Ao, co, rfl, _⟩ := h0
  obtain ⟨As, cs, rfl, _⟩ := h1
  obtain ⟨Ad, cd, rfl, _⟩ := h2
  by_cases l0 : 30 < old.length
  · have i0 : (30 : Int) < (old.length : Int) := by omega
    have k0 := hkn w
    clear hvo hvs hvd
    go_enter Try.func3, Try.ntmps3
    go_wp2_with (first
      | ((with_reducible refine k0.out.mono ?_); rintro e w1 ⟨rfl, hb1⟩))
    go_ret
    exact ⟨rfl, hb1⟩
  · have i0 : ¬ (30 : Int) < (old.length : Int) := by omega
    by_cases l1 : 30 < sh.length
    · have i1 : (30 : Int) < (sh.length : Int) := by omega
      have k0 := hkn w
      clear hvo hvs hvd
      go_enter Try.func3, Try.ntmps3
      go_wp2_with (first
        | ((with_reducible refine k0.out.mono ?_); rintro e w1 ⟨rfl, hb1⟩))
      go_ret
      exact ⟨rfl, hb1⟩
    · have i1 : ¬ (30 : Int) < (sh.length : Int) := by omega
      by_cases l2 : 30 < deep.length
      · have i2 : (30 : Int) < (deep.length : Int) := by omega
        have k0 := hkn w
        clear hvo hvs hvd
        go_enter Try.func3, Try.ntmps3
        go_wp2_with (first
          | ((with_reducible refine k0.out.mono ?_); rintro e w1 ⟨rfl, hb1⟩))
        go_ret
        exact ⟨rfl, hb1⟩
      · have i2 : ¬ (30 : Int) < (deep.length : Int) := by omega
        have hR : Hid (sortU (sh ++ old.filter (fun x => !inL deep x)) = sortU (old.filter (fun x => !inL deep x) ++ sh)) := Lib.hid (sortU_mem fun x => by rw [List.mem_append, List.mem_append, or_comm])
        have hRok : ∀ x ∈ sortU (old.filter (fun x => !inL deep x) ++ sh), x.length = 32 := fun x hx => by
          rcases List.mem_append.1 (((sortU_law _).2 x).1 hx) with h | h
          · exact ho x (List.mem_filter.1 h).1
          · exact hs x h
        have hn := Lib.hid (depthNext_calls old sh deep ho hs hd (by omega) (by omega) _ _ _ w hvo hvs hvd)
        have hr := fun W (hW : Below w.heap.size w W) => Lib.hid (refNext13_calls old sh deep ho hs hd (by omega) (by omega) _ _ _ W (hvo.below hW) (hvs.below hW) (hvd.below hW))
        rw [hR.out] at hr
        generalize sortU (old.filter (fun x => !inL deep x) ++ sh) = R at *
        have hsm := fun va vb W (ha : Ids W va R) (hb : Ids W vb R) => Lib.hid (refSame02_calls R hRok va vb W ha hb)
        have hids : ∀ {W : World} {base : Nat} {v : Value}, OwnIds W base v R → Ids W v R := fun h => SliceAt.of_own (idsK hRok) h
        clear hvo hvs hvd hR hRok
        go_enter Try.func3, Try.ntmps3
        go_wp2_with (first
          | ((with_reducible refine hn.out.mono ?_); rintro e w1 ⟨v1, rfl, ho1, hb1⟩
             have hr2 := hr w1 hb1)
          | ((with_reducible refine hr2.out.mono ?_); rintro e w2 ⟨v2, rfl, ho2, hb2⟩
             have hb12 := bthen hb1 hb1.size hb2
             have hs3 := hsm v1 v2 w2 ((hids ho1).below hb2) (hids ho2))
          | ((with_reducible refine hs3.out.mono ?_); rintro e w3 ⟨rfl, hb3⟩
             have hb13 := bthen hb12 hb12.size hb3
             have hk3 := hkn w3)
          | ((with_reducible refine hk3.out.mono ?_); rintro e w4 ⟨rfl, hb4⟩))
        go_ret
        exact ⟨rfl, bthen hb13 hb13.size hb4⟩
end Go.Proofs.Ytbhdfaadedlcfaa
/- Arguments that are slices of structs, in the walk's words. No condition; no program. -/
namespace Go.Proofs.Ytbhdfaadedlcfaa
open Go.ChangeShapes Go.WideShapes Go.ChangeAt Go.RowKit
section
variable {H : Type} {enc : TypeId × Value → H} {P : Program} {w : World} {base : Nat} {sp : Nat → Bool} {held : Bool}
open Go.Deep in
theorem open_elems {α : Type} (en : α → List Value) (k : Nat) (hk0 : 0 < k) (Ok : α → Prop) {t e : TypeId} {fuel : Nat} {v : Value} {x : DataW H × List MemPlace} (ht : P.underlying t = some (.slice e)) (hk : P.cellsOf e = k)
    (hen : ∀ y, Ok y → (en y).length = k) (key : ∀ fuel cs x, DataW.trod enc P w base sp held fuel e cs = some x → cs.length = k → ∃ y : α, cs = en y ∧ Ok y) (h : DataW.trod enc P w base sp held fuel t [v] = some x) :
    ∃ l : List α, SliceAt w k en v l ∧ ∀ y ∈ l, Ok y := by
  rcases open_slice ht h with ⟨h0, _⟩ | ⟨a, len, cap, m, n, D, Pl, hcs, hb, hl, hm, hmm, hx, hi⟩
  · injection h0 with h0
    subst h0
    exact ⟨[], SliceAt.nil, fun y hy => by simp at hy⟩
  · injection hcs with hcs
    subst hcs
    have hlm : len ≤ m := by rw [hmm]; split <;> omega
    have per : ∀ i, i < len → ∃ y : α, (∀ j u, (en y)[j]? = some u → w.cell? ((a.add (i * k)).add j) = some u) ∧ Ok y := by
      intro i hil
      obtain ⟨cs', hc, ht'⟩ := hi i (by omega)
      rw [hk] at hc
      obtain ⟨_, hcl, hat⟩ := World.cells?_some hc
      obtain ⟨y, rfl, hok⟩ := key _ _ _ ht' hcl
      refine ⟨y, fun j u hu => ?_, hok⟩
      have hj := (List.getElem?_eq_some_iff.1 hu).1
      rw [hat j (by omega)]
      exact hu
    obtain ⟨l, hll, hp⟩ := list_of len _ per
    subst hll
    have hcm : cap ≤ 9223372036854775807 := by unfold maxLen at hm; omega
    refine ⟨l, ⟨some a, cap, rfl, hl, hcm, fun h0 => ?_⟩, fun y hy => ?_⟩
    · have hy0 := (hp 0 h0).1
      have hlen0 := hen _ (hp 0 h0).2
      have hc0 := hy0 0 _ (List.getElem?_eq_getElem (by omega))
      simp only [Nat.zero_mul] at hc0
      have e00 : (a.add 0).add 0 = a := by simp [Addr.add]
      rw [e00] at hc0
      obtain ⟨ha, hlt⟩ := addr_form hc0
      refine ⟨a.block, a.off, by rw [← ha], hlt, fun i y hy j u hu => ?_⟩
      obtain ⟨hi', he⟩ := List.getElem?_eq_some_iff.1 hy
      have hc := (hp i hi').1 j u (by rw [he]; exact hu)
      rw [ha] at hc
      simp only [addr_add] at hc
      exact hc
    · obtain ⟨i, hi', rfl⟩ := List.getElem_of_mem hy
      exact (hp i hi').2
end
end Go.Proofs.Ytbhdfaadedlcfaa
/- An argument that is an array of bytes, in the walk's words. No condition. -/
namespace Go.Proofs.Ytbhdfaadedlcfaa
open Go.ChangeShapes Go.WideShapes Go.ChangeAt Go.RowKit
theorem trod_bytes {H : Type} {enc : TypeId × Value → H} {P : Program} {w : World} {base : Nat} {sp : Nat → Bool} {held : Bool} {fuel : Nat} {t e : TypeId} {n : Nat} {cs : List Value} {x : DataW H × List MemPlace}
    (ht : P.underlying t = some (.array n e)) (he : P.underlying e = some (.int .u8)) (hce : P.cellsOf e = 1) (hct : P.cellsOf t = n)
    (h : DataW.trod enc P w base sp held fuel t cs = some x) : ∃ l : List UInt8, l.length = n ∧ cs = l.map u8v := by
  cases fuel with
  | zero => simp [DataW.trod] at h
  | succ fuel =>
    simp only [DataW.trod, ht, hce, hct, Nat.mul_one] at h
    split at h
    · rename_i hl
      obtain ⟨xs, hm, _⟩ := Option.map_eq_some_iff.1 h
      have key : ∀ i, i < n → ∃ c : UInt8, cs[i]? = some (u8v c) := by
        intro i hi
        obtain ⟨b, _, hf⟩ := Lib.mapM_at hm i i (by simp [hi])
        obtain ⟨z, hc, _, hw⟩ := DataW.trod_int he hf
        have h1 : cs[i]? = some (.int .u8 z) := by
          have := congrArg (·[0]?) hc
          simpa [List.getElem?_take, List.getElem?_drop] using this
        have hb := bounds_u8 hw
        refine ⟨UInt8.ofNat z.toNat, ?_⟩
        rw [h1, u8v, ofNat_toNat_u8 _ (by omega), Int.toNat_of_nonneg hb.1]
      obtain ⟨l, hll, hp⟩ := list_of n (fun i c => cs[i]? = some (u8v c)) key
      refine ⟨l, hll, List.ext_getElem? fun i => ?_⟩
      rcases Nat.lt_or_ge i n with hi | hi
      · rw [hp i (by omega), List.getElem?_map, List.getElem?_eq_getElem (show i < l.length by omega)]
        rfl
      · rw [List.getElem?_eq_none (by omega), List.getElem?_eq_none (by simp; omega)]
    · cases h
set_option maxRecDepth 100000 in
/-- What an argument of type Id is. -/
theorem open_id {H : Type} {enc : TypeId × Value → H} {w : World} {base : Nat} {v : Value} {d : DataW H} {p : List MemPlace}
    (hv : Value.okWide Try.prog w .any base 28 v) (h : DataW.Trod enc Try.prog w 0 (fun _ => true) true 28 v d p) :
    ∃ l : List UInt8, l.length = 32 ∧ v = .agg (u8s l) := by
  simp only [Value.okWide, Try.underlying28] at hv
  obtain ⟨cs, rfl, _, _⟩ := hv
  obtain ⟨fuel, hf⟩ := h
  obtain ⟨l, hl, hc⟩ := trod_bytes Try.underlying28 Try.underlying5 (by kernel_rfl) (by kernel_rfl) hf
  refine ⟨l, hl, ?_⟩
  congr 1
  apply Array.ext'
  simpa [u8s, Value.cells] using hc
end Go.Proofs.Ytbhdfaadedlcfaa
/- Arguments that are slices of ids, in the walk's words. No condition. -/
namespace Go.Proofs.Ytbhdfaadedlcfaa
open Go.ChangeShapes Go.WideShapes Go.ChangeAt Go.RowKit
section
variable {H : Type} {enc : TypeId × Value → H} {w : World} {base : Nat} {sp : Nat → Bool} {held : Bool}
theorem elem_id (fuel : Nat) (cs : List Value) (x : DataW H × List MemPlace) (h : DataW.trod enc Try.prog w base sp held fuel 28 cs = some x) (_ : cs.length = 32) : ∃ r : Txt, cs = idC r ∧ r.length = 32 := by
  obtain ⟨l, hl, hc⟩ := trod_bytes Try.underlying28 Try.underlying5 (by kernel_rfl) (by kernel_rfl) h
  exact ⟨l, by rw [hc]; simp [idC, u8s], hl⟩
theorem open_ids {v : Value} {d : DataW H} {p : List MemPlace} (h : DataW.Trod enc Try.prog w base sp held 22 v d p) (hc : v.cells.toList = [v]) : ∃ l : List Txt, Ids w v l ∧ ∀ x ∈ l, x.length = 32 := by
  obtain ⟨fuel, hf⟩ := h
  rw [hc] at hf
  exact open_elems idC 32 (by omega) (fun x => x.length = 32) Try.underlying22 (by kernel_rfl) (fun y hy => idC_len hy) elem_id hf
end
end Go.Proofs.Ytbhdfaadedlcfaa
