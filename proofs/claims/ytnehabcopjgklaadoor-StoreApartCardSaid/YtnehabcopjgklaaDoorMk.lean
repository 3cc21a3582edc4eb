/- Lemmas and walks of this seat, laid together: Go, GoW, StL, DocU, StM, OpenE, OpenId. -/
import Derived.Test.YtnehabcopjgklaaDoorMj
import Derived.Lib.LaidTab
/- Regions that draw their order: one walk of the text's order serves every order, whatever each operation reads, makes, lays or writes. No condition; no program. -/
namespace Go.Proofs.YtnehabcopjgklaaDoor
open Go.RowKit
/-- What an operation waits for, at whatever remove: as bits. -/
def maskStep (acc : List Nat) (o : Oper) : Nat := o.after.toList.foldl (fun m e => if Region.binds .any e then m ||| (1 <<< e.on ||| acc.getD e.on 0) else m) 0
def masks : List Oper → List Nat → List Nat
  | [], acc => acc
  | o :: l, acc => masks l (acc ++ [maskStep acc o])
def waitsT (ops : Array Oper) (i j : Nat) : Bool := ((masks ops.toList []).getD i 0).testBit j
theorem maskStep_bit {acc : List Nat} {j : Nat} : ∀ (l : List Edge) (m : Nat), (l.foldl (fun m e => if Region.binds .any e then m ||| (1 <<< e.on ||| acc.getD e.on 0) else m) m).testBit j = true → m.testBit j = true ∨ ∃ e ∈ l, Region.binds .any e = true ∧ (e.on = j ∨ (acc.getD e.on 0).testBit j = true)
  | [], m, h => .inl h
  | e :: l, m, h => by
    rw [List.foldl_cons] at h
    rcases maskStep_bit l _ h with h1 | ⟨e', he', h2⟩
    · split at h1
      · rename_i hb
        rw [Nat.testBit_or, Nat.testBit_or, Bool.or_eq_true, Bool.or_eq_true] at h1
        rcases h1 with h1 | h1 | h1
        · exact .inl h1
        · refine .inr ⟨e, by simp, hb, .inl ?_⟩
          rw [Nat.one_shiftLeft, Nat.testBit_two_pow] at h1
          simpa using h1
        · exact .inr ⟨e, by simp, hb, .inr h1⟩
      · exact .inl h1
    · exact .inr ⟨e', by simp [he'], h2⟩
theorem masks_old : ∀ (l : List Oper) (acc : List Nat) (k : Nat), k < acc.length → (masks l acc).getD k 0 = acc.getD k 0
  | [], acc, k, h => rfl
  | o :: l, acc, k, h => by
    unfold masks
    rw [masks_old l _ k (by rw [List.length_append]; exact Nat.lt_of_lt_of_le h (Nat.le_add_right _ _))]
    rw [List.getD_eq_getElem?_getD, List.getD_eq_getElem?_getD, List.getElem?_append_left h]
theorem masks_len : ∀ (l : List Oper) (acc : List Nat), (masks l acc).length = acc.length + l.length
  | [], acc => rfl
  | o :: l, acc => by
    unfold masks
    rw [masks_len l, List.length_append, List.length_cons, List.length_cons]
    simp; omega
theorem masks_at : ∀ (l : List Oper) (acc : List Nat) (n j : Nat), ((masks l acc).getD (acc.length + n) 0).testBit j = true → ∃ o, l[n]? = some o ∧ ∃ e ∈ o.after, Region.binds .any e = true ∧ (e.on = j ∨ (e.on < acc.length + n ∧ ((masks l acc).getD e.on 0).testBit j = true))
  | [], acc, n, j, h => by
    unfold masks at h
    rw [List.getD_eq_getElem?_getD, List.getElem?_eq_none (by omega)] at h
    simp at h
  | o :: l, acc, 0, j, h => by
    have ho : (masks (o :: l) acc).getD acc.length 0 = maskStep acc o := by
      unfold masks
      rw [masks_old l _ _ (by simp), List.getD_eq_getElem?_getD, List.getElem?_append_right (Nat.le_refl _), Nat.sub_self]
      rfl
    rw [Nat.add_zero, ho] at h
    rcases maskStep_bit _ _ h with h1 | ⟨e, he, h1, h2⟩
    · simp at h1
    · refine ⟨o, rfl, e, by simpa using he, h1, ?_⟩
      rcases h2 with h2 | h2
      · exact .inl h2
      · have hlt : e.on < acc.length := by
          rcases Nat.lt_or_ge e.on acc.length with h | h
          · exact h
          · rw [List.getD_eq_getElem?_getD, List.getElem?_eq_none h] at h2; simp at h2
        exact .inr ⟨by omega, by rw [masks_old _ _ _ hlt]; exact h2⟩
  | o :: l, acc, n + 1, j, h => by
    unfold masks at h ⊢
    have := masks_at l (acc ++ [maskStep acc o]) n j (by rw [List.length_append]; simpa [Nat.add_assoc, Nat.add_comm 1 n] using h)
    obtain ⟨o', h1, e, h2, h3, h4⟩ := this
    refine ⟨o', h1, e, h2, h3, h4.imp id fun h => ⟨?_, h.2⟩⟩
    have := h.1
    rw [List.length_append] at this
    simp at this
    omega
theorem waitsT_spec {ops : Array Oper} {i j : Nat} (h : waitsT ops i j = true) : ∃ o, ops[i]? = some o ∧ ∃ e ∈ o.after, Region.binds .any e = true ∧ (e.on = j ∨ (e.on < i ∧ waitsT ops e.on j = true)) := by
  have := masks_at ops.toList [] i j (by simpa [waitsT] using h)
  obtain ⟨o, h1, e, h2, h3, h4⟩ := this
  exact ⟨o, by rw [← Array.getElem?_toList]; exact h1, e, h2, h3, h4.imp id fun h => ⟨by simpa using h.1, h.2⟩⟩
abbrev Foot := Nat → Prop
structure Agree (F : Foot) (w w' : World) : Prop where
  size : w.heap.size ≤ w'.heap.size
  same : ∀ k, k < w.heap.size → F k → w'.heap[k]? = w.heap[k]?
/-- What holds by the blocks of F alone. -/
def Stab (p : Foot → World → Prop) : Prop := ∀ (F F' : Foot) w w', (∀ k, F k → F' k) → Agree F w w' → p F w → p F' w'
/-- What an operation does: it yields a value, and nothing else comes of it. -/
def doesAt (P : Program) (o : Oper) (a : Act) (w : World) (post : Value → World → Prop) : Prop :=
  o.wp P a w (fun a' w' => ∃ u, a' = a.put o.dst u ∧ post u w') (fun _ _ _ => False)
section
variable {P : Program} {o : Oper} {a : Act} {w w' : World} {post : Value → World → Prop}
theorem does_val {v : Value} (h : (execOp a.eval o).run P w = .ok (.value v) w') (hp : post v w') : doesAt P o a w post := by
  unfold doesAt Oper.wp
  rw [h]
  exact ⟨v, rfl, hp⟩
theorem does_call {f : FuncId} {args : Array Value} (h : (execOp a.eval o).run P w = .ok (.enter f args) w') (hc : Calls P f args w' fun e w2 => ∃ v, e = .returned v ∧ post v w2) : doesAt P o a w post := by
  unfold doesAt Oper.wp
  rw [h]
  refine Calls.mono hc ?_
  rintro e w2 ⟨v, rfl, hp⟩
  exact ⟨v, rfl, hp⟩
theorem does_mono {post' : Value → World → Prop} (h : doesAt P o a w post) (hp : ∀ u w', post u w' → post' u w') : doesAt P o a w post' :=
  Oper.wp_mono (fun _ _ ⟨u, e, q⟩ => ⟨u, e, hp _ _ q⟩) h
theorem put_same {a b : Act} {d : Option Tmp} {u v : Value} (hs : a.tmps.size = b.tmps.size) (h : a.put d u = a.put d v) : b.put d u = b.put d v := by
  cases d with
  | none => rfl
  | some t =>
    rcases Nat.lt_or_ge t a.tmps.size with hl | hl
    · have e := congrArg (fun x : Act => x.tmps[t]?) h
      simp only [Act.put, Array.getElem?_setIfInBounds_self_of_lt hl] at e
      injection e with e
      rw [e]
    · have h1 : ∀ x, b.tmps.setIfInBounds t x = b.tmps := fun x => Array.setIfInBounds_eq_of_size_le (by omega)
      simp only [Act.put, h1]
theorem does_congr {b : Act} (he : execOp a.eval o = execOp b.eval o) (hs : a.tmps.size = b.tmps.size) (hd : a.defers = b.defers) (h : doesAt P o a w post) : doesAt P o b w post := by
  unfold doesAt Oper.wp at *
  rw [← he]
  generalize (execOp a.eval o).run P w = r at *
  cases r with
  | ok n w2 =>
    cases n <;> simp only [Oper.upon] at h ⊢
    case value v =>
      obtain ⟨u, e, q⟩ := h
      exact ⟨u, put_same hs e, q⟩
    case skip =>
      obtain ⟨u, e, q⟩ := h
      exact ⟨u, put_same hs e, q⟩
    case defer d =>
      obtain ⟨u, e, q⟩ := h
      have e1 := congrArg (fun x : Act => x.defers.length) e
      simp [put_defers] at e1
    case enter f args =>
      refine Calls.mono h ?_
      intro e w3 he
      cases e with
      | returned v =>
        obtain ⟨u, e, q⟩ := he
        exact ⟨u, put_same hs e, q⟩
      | panicked c => exact he
      | outgrown => exact he
    case row r args =>
      refine Rows.mono h ?_
      rintro v w3 ⟨u, e, q⟩
      exact ⟨u, put_same hs e, q⟩
  | halt x w2 => cases x <;> simp only [Oper.upon] at h
end
/-- What is told of an operation: its value; what holds of what it makes; what holds of what it takes out of another one's; a variable that it lays; a variable that it writes; a block that it writes. -/
inductive Sp where
  | det (f : List Value → Value)
  | new (r : List Value → Value → Foot → World → Prop)
  | der (j : Nat) (r : List Value → Value → Foot → World → Prop)
  | al (T : TypeId) (Z : Array Value)
  | st (j : Nat) (T : TypeId) (n : Nat)
  | wr (r : List Value → Value → Foot → World → Prop)
/-- What an operation is given. -/
def vals (o : Oper) (a : Act) : List Value := o.op.operands.toList.map a.eval
/-- Blocks that were there and that are written: by which operation, which block, what holds ahead of it. -/
abbrev Pres := List (Nat × Option Nat × (World → Prop))
abbrev Facts := List (Nat × (Foot → World → Prop))
def alP (B : Nat) (v : Value) (T : TypeId) (n : Nat) (F : Foot) (w : World) : Prop := ∃ b, v = .pointer (some ⟨b, 0, none⟩) ∧ B ≤ b ∧ F b ∧ ∃ cs : Array Value, cs.size = n ∧ Blk w b T cs
def stP (B : Nat) (x y : Value) (T : TypeId) (F : Foot) (w : World) : Prop := ∃ b cs, x = .pointer (some ⟨b, 0, none⟩) ∧ y = .agg cs ∧ B ≤ b ∧ F b ∧ Blk w b T cs
theorem alP_stab (B : Nat) (v : Value) (T : TypeId) (n : Nat) : Stab (alP B v T n) := fun _ _ _ _ hf ha ⟨b, e, h0, hb, cs, hc, hk⟩ => ⟨b, e, h0, hf b hb, cs, hc, (ha.same b hk.lt hb).trans hk⟩
theorem stP_stab (B : Nat) (x y : Value) (T : TypeId) : Stab (stP B x y T) := fun _ _ _ _ hf ha ⟨b, cs, e, e2, h0, hb, hk⟩ => ⟨b, cs, e, e2, h0, hf b hb, (ha.same b hk.lt hb).trans hk⟩
section
variable (P : Program) (ops : Array Oper) (w0 : World) (rows : List (Option Nat)) (pres : Pres) (sps : List Sp)
def OldB (k : Nat) : Prop := k < w0.heap.size ∧ some k ∉ rows
structure Have (i : Nat) (D : Facts) (w : World) : Prop where
  fact : ∀ q ∈ D, waitsT ops i q.1 = true → ∃ F, q.2 F w
  pre : ∀ q ∈ pres, waitsT ops q.1 i = true → q.2.2 w
def NewR (r : Value → Foot → World → Prop) (row : Option Nat) (w : World) (u : Value) (w' : World) : Prop := ∀ F : Foot, (∀ k, OldB w0 rows k → F k) → (∀ k, some k = row → F k) → (∀ k, w.heap.size ≤ k → k < w'.heap.size → F k) → r u F w'
def spAt (i : Nat) : Sp := sps.getD i (.det fun _ => undef)
def isVal : Sp → Bool | .new _ => true | .der _ _ => true | .wr _ => true | _ => false
def claim (i : Nat) (o : Oper) (s : Sp) (a : Act) (D : Facts) : Prop := match s with
  | .det f => ∀ w, Far rows w0 w → Have ops pres i D w → doesAt P o a w fun u w' => u = f (vals o a) ∧ Below w.heap.size w w'
  | .new r => (∀ ρ v, Stab (r ρ v)) ∧ ∀ w, Far rows w0 w → Have ops pres i D w → doesAt P o a w fun u w' => Below w.heap.size w w' ∧ NewR w0 rows (r (vals o a)) none w u w'
  | .der j r => (∀ ρ v, Stab (r ρ v)) ∧ waitsT ops i j = true ∧ isVal (spAt sps j) = true ∧ ∀ (w : World) (F : Foot), Far rows w0 w → (∀ k, OldB w0 rows k → F k) → Have ops pres i D w → (∀ p, (j, p) ∈ D → p F w) → doesAt P o a w fun u w' => w' = w ∧ r (vals o a) u F w
  | .al T Z => o.op = .alloc T ∧ ∀ w, (zeroValue T).run P w = .ok (.agg Z) w
  | .st j T n => waitsT ops i j = true ∧ o.dst = none ∧ (P.info? T).map (·.size) = some n ∧ (∃ Z : Array Value, spAt sps j = .al T Z ∧ Z.size = n) ∧ ∃ x y, o.op = .store T x y ∧ (j, alP w0.heap.size (a.eval x) T n) ∈ D ∧ ∀ w, Far rows w0 w → Have ops pres i D w → ∃ cs : Array Value, a.eval y = .agg cs ∧ cs.size = n ∧ cs.all (·.oneCell') = true
  | .wr r => (∀ ρ v, Stab (r ρ v)) ∧ ∃ row p0, (i, row, p0) ∈ pres ∧ ∀ w, Far rows w0 w → Have ops pres i D w → p0 w → doesAt P o a w fun u w' => w.grownBy w' row ∧ NewR w0 rows (r (vals o a)) row w u w'
def dom (s : Sp) (ρ : List Value) (v : Value) : Prop := match s with
  | .det f => v = f ρ
  | .st _ _ _ => v = undef
  | _ => True
def ext (i : Nat) (o : Oper) (s : Sp) (a : Act) (v : Value) : Facts := match s with
  | .det _ => []
  | .new r => [(i, r (vals o a) v)]
  | .der _ r => [(i, r (vals o a) v)]
  | .wr r => [(i, r (vals o a) v)]
  | .al T Z => [(i, alP w0.heap.size v T Z.size)]
  | .st _ T _ => match o.op with
    | .store _ x y => [(i, stP w0.heap.size (a.eval x) (a.eval y) T)]
    | _ => []
def Lx (E : Act → Facts → Prop) : List Nat → Act → Facts → Prop
  | [], a, D => E a D
  | i :: U, a, D => ∀ o, ops[i]? = some o → if Region.wanted o (yielded ops a.tmps) = true then claim P ops w0 rows pres sps i o (spAt sps i) a D ∧ ∀ v, dom (spAt sps i) (vals o a) v → Lx E U (a.put o.dst v) (ext w0 i o (spAt sps i) a v ++ D) else Lx E U (a.put o.dst undef) D
end
section
variable {P : Program} {ops : Array Oper} {w0 : World} {rows : List (Option Nat)} {pres : Pres} {sps : List Sp} {E : Act → Facts → Prop} {i k : Nat} {o ok oi : Oper} {s : Sp} {a b : Act} {D D' : Facts} {w : World}
theorem Have.of (h : Have ops pres i D w) (hD : ∀ q, waitsT ops i q.1 = true → q ∈ D' → q ∈ D) : Have ops pres i D' w := ⟨fun q hq hw => h.fact q (hD q hw hq) hw, h.pre⟩
theorem vals_congr (hx : ∀ x ∈ o.op.operands, a.eval x = b.eval x) : vals o a = vals o b := by
  exact List.map_congr_left fun x h => hx x (by simpa using h)
theorem claim_congr (hns : ∀ cs b, o.op ≠ .select cs b) (hx : ∀ x ∈ o.op.operands, a.eval x = b.eval x) (hsz : a.tmps.size = b.tmps.size) (hdf : a.defers = b.defers) (hD : ∀ q, waitsT ops i q.1 = true → (q ∈ D ↔ q ∈ D'))
    (h : claim P ops w0 rows pres sps i o s a D) : claim P ops w0 rows pres sps i o s b D' := by
  have he : execOp a.eval o = execOp b.eval o := execOp_congr o hns hx
  have hv := vals_congr hx
  have hH : ∀ w, Have ops pres i D' w → Have ops pres i D w := fun w h => h.of fun q hw hq => (hD q hw).1 hq
  cases s with
  | det f => exact fun w hw hh => by rw [← hv]; exact does_congr he hsz hdf (h w hw (hH w hh))
  | new r => exact ⟨h.1, fun w hw hh => by rw [← hv]; exact does_congr he hsz hdf (h.2 w hw (hH w hh))⟩
  | der j r =>
    obtain ⟨h1, h2, h3, h4⟩ := h
    exact ⟨h1, h2, h3, fun w F hw hF hh hp => by rw [← hv]; exact does_congr he hsz hdf (h4 w F hw hF (hH w hh) fun p hq => hp p ((hD _ h2).1 hq))⟩
  | al T Z => exact h
  | st j T n =>
    obtain ⟨h1, h2, h3, h4, x, y, h5, h6, h7⟩ := h
    have hop : x ∈ o.op.operands ∧ y ∈ o.op.operands := by rw [h5]; simp [Op.operands]
    refine ⟨h1, h2, h3, h4, x, y, h5, ?_, fun w hw hh => ?_⟩
    · rw [← hx x hop.1]; exact (hD _ h1).1 h6
    · rw [← hx y hop.2]; exact h7 w hw (hH w hh)
  | wr r =>
    obtain ⟨h1, row, p0, h3, h4⟩ := h
    exact ⟨h1, row, p0, h3, fun w hw hh hp => by rw [← hv]; exact does_congr he hsz hdf (h4 w hw (hH w hh) hp)⟩
theorem ext_congr (hx : ∀ x ∈ o.op.operands, a.eval x = b.eval x) (v : Value) : ext w0 i o s a v = ext w0 i o s b v := by
  cases s with
  | st j T n =>
    unfold ext
    cases ho : o.op <;> simp only
    rename_i t x y
    rw [hx x (by rw [ho]; simp [Op.operands]), hx y (by rw [ho]; simp [Op.operands])]
  | new r => simp only [ext, vals_congr hx]
  | der j r => simp only [ext, vals_congr hx]
  | wr r => simp only [ext, vals_congr hx]
  | _ => rfl
theorem dom_some (s : Sp) (ρ : List Value) : ∃ v, dom s ρ v := by
  cases s with
  | det f => exact ⟨f ρ, rfl⟩
  | st j T n => exact ⟨undef, rfl⟩
  | _ => exact ⟨undef, trivial⟩
/-- k and i do not touch one another. -/
structure Indep (ops : Array Oper) (ok oi : Oper) (k i : Nat) : Prop where
  ap : ok.apart ops oi = true
  ik : waitsT ops i k = false
  ki : waitsT ops k i = false
theorem eval_apart (ap : ok.apart ops oi = true) (a : Act) (v : Value) : (∀ x ∈ oi.op.operands, (a.put ok.dst v).eval x = a.eval x) ∧ (∀ x ∈ ok.op.operands, (a.put oi.dst v).eval x = a.eval x) := by
  obtain ⟨h1, _, h3⟩ := Oper.apart_spec ap
  refine ⟨fun x hx => Act.eval_put fun d hd hxd => h1 d hd ?_, fun x hx => Act.eval_put fun d hd hxd => h3 d hd ?_⟩ <;>
  · subst hxd
    exact List.mem_append_left _ (List.mem_filterMap.2 ⟨.tmp d, by simpa using hx, rfl⟩)
theorem ext_at (i : Nat) (o : Oper) (s : Sp) (a : Act) (v : Value) : ∀ q ∈ ext w0 i o s a v, q.1 = i := by
  intro q hq
  cases s with
  | det f => simp [ext] at hq
  | st j T n =>
    unfold ext at hq
    cases ho : o.op <;> rw [ho] at hq <;> simp at hq
    rw [hq]
  | _ => simp [ext] at hq; rw [hq]
theorem Lx_mem (hE : ∀ a D D', (∀ q, q ∈ D ↔ q ∈ D') → E a D → E a D') (hns : ∀ (i : Nat) (o : Oper), ops[i]? = some o → ∀ cs b, o.op ≠ .select cs b) : ∀ (U : List Nat) (a : Act) (D D' : Facts), (∀ q, q ∈ D ↔ q ∈ D') → Lx P ops w0 rows pres sps E U a D → Lx P ops w0 rows pres sps E U a D'
  | [], a, D, D', hD, h => hE a D D' hD h
  | i :: U, a, D, D', hD, h => by
    intro o ho
    have h1 := h o ho
    split
    · rename_i hw
      rw [if_pos hw] at h1
      exact ⟨claim_congr (hns i o ho) (fun _ _ => rfl) rfl rfl (fun q _ => hD q) h1.1, fun v hv => Lx_mem hE hns U _ _ _ (fun q => by rw [List.mem_append, List.mem_append, hD q]) (h1.2 v hv)⟩
    · rename_i hw
      rw [if_neg hw] at h1
      exact Lx_mem hE hns U _ _ _ hD h1
theorem Lx_pull (hE : ∀ a D D', (∀ q, q ∈ D ↔ q ∈ D') → E a D → E a D') (hns : ∀ (i : Nat) (o : Oper), ops[i]? = some o → ∀ cs b, o.op ≠ .select cs b) (hoi : ops[i]? = some oi) (U2 : List Nat) : ∀ (U1 : List Nat) (a : Act) (D : Facts),
    (∀ k ∈ U1, ∃ ok, ops[k]? = some ok ∧ Indep ops ok oi k i) → Lx P ops w0 rows pres sps E (U1 ++ i :: U2) a D →
    if Region.wanted oi (yielded ops a.tmps) = true then claim P ops w0 rows pres sps i oi (spAt sps i) a D ∧ ∀ v, dom (spAt sps i) (vals oi a) v → Lx P ops w0 rows pres sps E (U1 ++ U2) (a.put oi.dst v) (ext w0 i oi (spAt sps i) a v ++ D) else Lx P ops w0 rows pres sps E (U1 ++ U2) (a.put oi.dst undef) D
  | [], a, D, _, h => h oi hoi
  | k :: U1, a, D, hin, h => by
    obtain ⟨ok, hok, ap, hik, hki⟩ := hin k (by simp)
    have hin' : ∀ k ∈ U1, ∃ ok, ops[k]? = some ok ∧ Indep ops ok oi k i := fun k hk => hin k (by simp [hk])
    obtain ⟨a1, a2, a3⟩ := Oper.apart_spec ap
    have hk := h ok hok
    have wk : ∀ (a : Act) v, Region.wanted oi (yielded ops (a.put ok.dst v).tmps) = Region.wanted oi (yielded ops a.tmps) := fun a v => wanted_put oi a ok.dst v a1
    have wi : ∀ (a : Act) v, Region.wanted ok (yielded ops (a.put oi.dst v).tmps) = Region.wanted ok (yielded ops a.tmps) := fun a v => wanted_put ok a oi.dst v a3
    have hDi : ∀ v q, waitsT ops i q.1 = true → (q ∈ ext w0 k ok (spAt sps k) a v ++ D ↔ q ∈ D) := fun v q hw => by
      rw [List.mem_append]
      refine ⟨fun h => h.resolve_left fun hq => ?_, .inr⟩
      rw [ext_at _ _ _ _ _ q hq, hik] at hw
      cases hw
    have hDk : ∀ v q, waitsT ops k q.1 = true → (q ∈ D ↔ q ∈ ext w0 i oi (spAt sps i) a v ++ D) := fun v q hw => by
      rw [List.mem_append]
      refine ⟨.inr, fun h => h.resolve_left fun hq => ?_⟩
      rw [ext_at _ _ _ _ _ q hq, hki] at hw
      cases hw
    by_cases hwk : Region.wanted ok (yielded ops a.tmps) = true
    · rw [if_pos hwk] at hk
      obtain ⟨hcl, hnext⟩ := hk
      obtain ⟨v0, hv0⟩ := dom_some (spAt sps k) (vals ok a)
      have h0 := Lx_pull hE hns hoi U2 U1 _ _ hin' (hnext v0 hv0)
      rw [wk] at h0
      by_cases hwi : Region.wanted oi (yielded ops a.tmps) = true
      · rw [if_pos hwi] at h0 ⊢
        refine ⟨claim_congr (hns i oi hoi) (eval_apart ap a v0).1 (put_size _ _ _) (put_defers _ _ _) (hDi v0) h0.1, fun v hv => ?_⟩
        intro ok' hok'
        obtain rfl : ok = ok' := Option.some.inj (hok.symm.trans hok')
        rw [wi, if_pos hwk]
        refine ⟨claim_congr (hns k ok hok) (fun x hx => ((eval_apart ap a v).2 x hx).symm) (put_size _ _ _).symm (put_defers _ _ _).symm (hDk v) hcl, fun u hu => ?_⟩
        rw [vals_congr (eval_apart ap a v).2] at hu
        have h1 := Lx_pull hE hns hoi U2 U1 _ _ hin' (hnext u hu)
        rw [wk, if_pos hwi] at h1
        have h2 := h1.2 v (by rw [vals_congr (eval_apart ap a u).1]; exact hv)
        rw [Act.put_comm a u v a2, ext_congr (eval_apart ap a u).1] at h2
        rw [ext_congr (eval_apart ap a v).2]
        refine Lx_mem hE hns _ _ _ _ (fun q => ?_) h2
        simp only [List.mem_append]
        exact ⟨fun h => by rcases h with h | h | h <;> simp [h], fun h => by rcases h with h | h | h <;> simp [h]⟩
      · rw [if_neg hwi] at h0 ⊢
        intro ok' hok'
        obtain rfl : ok = ok' := Option.some.inj (hok.symm.trans hok')
        rw [wi, if_pos hwk]
        refine ⟨claim_congr (hns k ok hok) (fun x hx => ((eval_apart ap a undef).2 x hx).symm) (put_size _ _ _).symm (put_defers _ _ _).symm (fun _ _ => Iff.rfl) hcl, fun u hu => ?_⟩
        rw [vals_congr (eval_apart ap a undef).2] at hu
        have h1 := Lx_pull hE hns hoi U2 U1 _ _ hin' (hnext u hu)
        rw [wk, if_neg hwi, Act.put_comm a u undef a2] at h1
        rw [ext_congr (eval_apart ap a undef).2]
        exact h1
    · rw [if_neg hwk] at hk
      have h0 := Lx_pull hE hns hoi U2 U1 _ _ hin' hk
      rw [wk] at h0
      by_cases hwi : Region.wanted oi (yielded ops a.tmps) = true
      · rw [if_pos hwi] at h0 ⊢
        refine ⟨claim_congr (hns i oi hoi) (eval_apart ap a undef).1 (put_size _ _ _) (put_defers _ _ _) (fun _ _ => Iff.rfl) h0.1, fun v hv => ?_⟩
        intro ok' hok'
        obtain rfl : ok = ok' := Option.some.inj (hok.symm.trans hok')
        rw [wi, if_neg hwk]
        have h2 := h0.2 v (by rw [vals_congr (eval_apart ap a undef).1]; exact hv)
        rw [Act.put_comm a undef v a2, ext_congr (eval_apart ap a undef).1] at h2
        exact h2
      · rw [if_neg hwi] at h0 ⊢
        intro ok' hok'
        obtain rfl : ok = ok' := Option.some.inj (hok.symm.trans hok')
        rw [wi, if_neg hwk]
        rw [Act.put_comm a undef undef a2] at h0
        exact h0
end
/-- Where a run stands: what is left to do, what holds of what is done, and whose each new block is. -/
structure GoI (P : Program) (ops : Array Oper) (w0 : World) (rows : List (Option Nat)) (pres : Pres) (sps : List Sp) (E : Act → Facts → Prop) (U : List Nat) (listed : Array Bool) (a : Act) (w : World) (D : Facts) (foot : Nat → Foot) (grp : Nat → Nat) : Prop where
  size : listed.size = ops.size
  u : ∀ i, i ∈ U ↔ i < ops.size ∧ listed.getD i false = false
  sorted : U.Pairwise (· < ·)
  lx : Lx P ops w0 rows pres sps E U a D
  far : Far rows w0 w
  facts : ∀ q ∈ D, listed.getD q.1 false = true ∧ Stab q.2 ∧ q.2 (fun k => OldB w0 rows k ∨ foot q.1 k) w
  new_ : ∀ i, listed.getD i false = true → ∀ k, foot i k → k < w.heap.size ∧ ¬ OldB w0 rows k
  old_ : ∀ i, listed.getD i false = true → ∀ k, foot i k → k < w0.heap.size → ∃ m p0, listed.getD m false = true ∧ (m, some k, p0) ∈ pres
  closed : ∀ m j, listed.getD m false = true → waitsT ops m j = true → listed.getD j false = true
  dis : ∀ i j, listed.getD i false = true → listed.getD j false = true → ∀ k, foot i k → foot j k → grp i = grp j
  kept : ∀ k, k < w0.heap.size → (∀ m p0, listed.getD m false = true → (m, some k, p0) ∉ pres) → w.heap[k]? = w0.heap[k]?
  gal : ∀ i T Z, listed.getD i false = true → spAt sps (grp i) = .al T Z → i = grp i ∨ ∃ T' n, spAt sps i = .st (grp i) T' n
  ents : ∀ q ∈ D, ∀ T Z, spAt sps q.1 = .al T Z → ∃ v, q.2 = alP w0.heap.size v T Z.size
  gself : ∀ i T Z, spAt sps i = .al T Z → listed.getD i false = true → grp i = i
structure Once (w0 : World) (rows : List (Option Nat)) (pres : Pres) (sps : List Sp) : Prop where
  st : ∀ i i' j T n T' n', spAt sps i = .st j T n → spAt sps i' = .st j T' n' → i = i'
  wr : ∀ q ∈ pres, ∀ q' ∈ pres, ∀ k, q.2.1 = some k → q'.2.1 = some k → q = q'
  row : ∀ q ∈ pres, ∀ k, q.2.1 = some k → some k ∈ rows ∧ k < w0.heap.size
  at_ : ∀ q ∈ pres, q.2.2 w0
  stab : ∀ q ∈ pres, ∀ w, Agree (fun k => k < w0.heap.size ∧ (some k ∉ rows ∨ some k = q.2.1)) w0 w → q.2.2 w
section
variable {P : Program} {ops : Array Oper} {w0 : World} {rows : List (Option Nat)} {pres : Pres} {sps : List Sp} {E : Act → Facts → Prop} {i : Nat} {o : Oper} {a : Act} {D : Facts} {w w' : World} {U1 U2 : List Nat} {listed : Array Bool} {foot : Nat → Foot} {grp : Nat → Nat} {v : Value}
theorem GoI.next (h : GoI P ops w0 rows pres sps E (U1 ++ i :: U2) listed a w D foot grp) (hdep : ∀ j, waitsT ops i j = true → listed.getD j false = true) (X : Facts) (f : Foot) (g : Nat) (hlx : Lx P ops w0 rows pres sps E (U1 ++ U2) (a.put o.dst v) (X ++ D)) (hfar : Far rows w0 w')
    (hold : ∀ q ∈ D, q.2 (fun k => OldB w0 rows k ∨ foot q.1 k) w') (hX : ∀ q ∈ X, q.1 = i ∧ Stab q.2 ∧ q.2 (fun k => OldB w0 rows k ∨ f k) w') (hsz : w.heap.size ≤ w'.heap.size)
    (hnew : ∀ k, f k → k < w'.heap.size ∧ ¬ OldB w0 rows k) (ho : ∀ k, f k → k < w0.heap.size → (∃ p0, (i, some k, p0) ∈ pres) ∨ ∃ j, listed.getD j false = true ∧ foot j k)
    (hd : ∀ j, listed.getD j false = true → ∀ k, f k → foot j k → g = grp j) (hk : ∀ k, k < w0.heap.size → (∀ p0, (i, some k, p0) ∉ pres) → (∀ m p0, listed.getD m false = true → (m, some k, p0) ∉ pres) → w'.heap[k]? = w.heap[k]?)
    (hg : ∀ T Z, spAt sps g = .al T Z → i = g ∨ ∃ T' n, spAt sps i = .st g T' n) (hs : ∀ T Z, spAt sps i = .al T Z → g = i) (he : ∀ q ∈ X, ∀ T Z, spAt sps i = .al T Z → ∃ v, q.2 = alP w0.heap.size v T Z.size) :
    ∃ D' foot' grp', GoI P ops w0 rows pres sps E (U1 ++ U2) (listed.setIfInBounds i true) (a.put o.dst v) w' D' foot' grp' := by
  obtain ⟨hin, hil⟩ := (h.u i).1 (by simp)
  have his : i < listed.size := by rw [h.size]; exact hin
  have L : ∀ j, (listed.setIfInBounds i true).getD j false = true → j = i ∨ listed.getD j false = true := fun j hj => by
    rw [getD_set his] at hj
    by_cases e : j = i
    · exact .inl e
    · rw [if_neg e] at hj; exact .inr hj
  have L' : ∀ j, listed.getD j false = true → j ≠ i := fun j hj e => by rw [e, hil] at hj; cases hj
  have Lm : ∀ j, listed.getD j false = true → (listed.setIfInBounds i true).getD j false = true := fun j hj => by rw [getD_set his, if_neg (L' j hj)]; exact hj
  have Li : (listed.setIfInBounds i true).getD i false = true := by rw [getD_set his, if_pos rfl]
  have hnin : ∀ j ∈ U1 ++ U2, j ≠ i := fun j hj e => by
    subst e
    have hp := h.sorted
    rw [List.pairwise_append] at hp
    rcases List.mem_append.1 hj with hj | hj
    · exact absurd (hp.2.2 j hj j (by simp)) (by omega)
    · exact absurd ((List.pairwise_cons.1 hp.2.1).1 j hj) (by omega)
  refine ⟨X ++ D, fun j => if j = i then f else foot j, fun j => if j = i then g else grp j, ?_⟩
  constructor
  · rw [Array.size_setIfInBounds]; exact h.size
  · intro j
    rw [getD_set his]
    constructor
    · intro hj
      have hne := hnin j hj
      have := (h.u j).1 (by rcases List.mem_append.1 hj with hj | hj <;> simp [hj])
      rw [if_neg hne]; exact this
    · rintro ⟨h1, h2⟩
      by_cases e : j = i
      · rw [if_pos e] at h2; cases h2
      · rw [if_neg e] at h2
        have := (h.u j).2 ⟨h1, h2⟩
        rcases List.mem_append.1 this with hj | hj
        · simp [hj]
        · rcases List.mem_cons.1 hj with hj | hj
          · exact absurd hj e
          · simp [hj]
  · have hp := h.sorted
    rw [List.pairwise_append] at hp ⊢
    exact ⟨hp.1, (List.pairwise_cons.1 hp.2.1).2, fun x hx y hy => hp.2.2 x hx y (by simp [hy])⟩
  · exact hlx
  · exact hfar
  · intro q hq
    rcases List.mem_append.1 hq with hq | hq
    · obtain ⟨e, h1, h2⟩ := hX q hq
      refine ⟨by rw [e]; exact Li, h1, ?_⟩
      simp only [e, if_true]
      exact h2
    · obtain ⟨h1, h2, _⟩ := h.facts q hq
      refine ⟨Lm _ h1, h2, ?_⟩
      simp only [if_neg (L' _ h1)]
      exact hold q hq
  · intro j hj k hk
    rcases L j hj with e | hj
    · subst e; simp only [if_true] at hk; exact hnew k hk
    · simp only [if_neg (L' j hj)] at hk
      obtain ⟨h1, h2⟩ := h.new_ j hj k hk
      exact ⟨Nat.lt_of_lt_of_le h1 hsz, h2⟩
  · intro j hj k hk hk0
    rcases L j hj with e | hj
    · subst e
      simp only [if_true] at hk
      rcases ho k hk hk0 with ⟨p0, e⟩ | ⟨j', h1, h2⟩
      · exact ⟨j, p0, Li, e⟩
      · obtain ⟨m, p0, h3, h4⟩ := h.old_ j' h1 k h2 hk0
        exact ⟨m, p0, Lm _ h3, h4⟩
    · simp only [if_neg (L' j hj)] at hk
      obtain ⟨m, p0, h3, h4⟩ := h.old_ j hj k hk hk0
      exact ⟨m, p0, Lm _ h3, h4⟩
  · intro m j hm hw
    rcases L m hm with e | hm
    · rw [e] at hw; exact Lm _ (hdep j hw)
    · exact Lm _ (h.closed m j hm hw)
  · intro j j' hj hj' k hk hk'
    rcases L j hj with e | hl
    · rcases L j' hj' with e' | hl'
      · rw [e, e']
      · rw [if_pos e] at hk ⊢
        rw [if_neg (L' j' hl')] at hk' ⊢
        exact hd j' hl' k hk hk'
    · rcases L j' hj' with e' | hl'
      · rw [if_pos e'] at hk' ⊢
        rw [if_neg (L' j hl)] at hk ⊢
        exact (hd j hl k hk' hk).symm
      · rw [if_neg (L' j hl)] at hk ⊢
        rw [if_neg (L' j' hl')] at hk' ⊢
        exact h.dis j j' hl hl' k hk hk'
  · intro k hk0 hm
    rw [hk k hk0 (fun p0 => hm i p0 Li) fun m p0 hl => hm m p0 (Lm m hl)]
    exact h.kept k hk0 fun m p0 hl => hm m p0 (Lm m hl)
  · intro j T Z hj
    rcases L j hj with e | hj
    · subst e; simp only [if_true]; exact hg T Z
    · simp only [if_neg (L' j hj)]; exact h.gal j T Z hj
  · intro q hq T Z hsp
    rcases List.mem_append.1 hq with hq | hq
    · rw [(hX q hq).1] at hsp
      exact he q hq T Z hsp
    · exact h.ents q hq T Z hsp
  · intro j T Z hsp hj
    rcases L j hj with e | hj
    · subst e; simp only [if_true]; exact hs T Z hsp
    · simp only [if_neg (L' j hj)]; exact h.gself j T Z hsp hj
/-- What was known is known behind a step that makes memory alone. -/
theorem GoI.keep (h : GoI P ops w0 rows pres sps E (U1 ++ i :: U2) listed a w D foot grp) (hb : Below w.heap.size w w') : ∀ q ∈ D, q.2 (fun k => OldB w0 rows k ∨ foot q.1 k) w' := fun q hq => by
  obtain ⟨_, h2, h3⟩ := h.facts q hq
  exact h2 _ _ w w' (fun _ h => h) ⟨hb.size, fun k hk _ => hb.block k hk⟩ h3
theorem GoI.pre (once : Once w0 rows pres sps) (h : GoI P ops w0 rows pres sps E (U1 ++ i :: U2) listed a w D foot grp) {q : Nat × Option Nat × (World → Prop)} (hq : q ∈ pres) (hn : listed.getD q.1 false = false) : q.2.2 w :=
  once.stab q hq w ⟨h.far.size, fun k hk hf => by
    rcases hf.2 with hf | hf
    · exact h.far.block k hk hf
    · refine h.kept k hk fun m p0 hm hp => ?_
      have := once.wr q hq _ hp k hf.symm rfl
      rw [this] at hn
      rw [hn] at hm
      cases hm⟩
theorem GoI.have_ (once : Once w0 rows pres sps) (hil : listed.getD i false = false) (h : GoI P ops w0 rows pres sps E (U1 ++ i :: U2) listed a w D foot grp) : Have ops pres i D w := ⟨fun q hq _ => ⟨_, (h.facts q hq).2.2⟩, fun q hq hw => h.pre once hq (by
  cases e : listed.getD q.1 false with
  | false => rfl
  | true => have := h.closed _ _ e hw; rw [hil] at this; cases this)⟩
theorem does_wp {Q : Exit → Act → World → Prop} {K : Act → World → Prop} {post : Value → World → Prop} (h : doesAt P o a w post) (hK : ∀ u w', post u w' → K (a.put o.dst u) w') : o.wp P a w K Q := by
  unfold doesAt Oper.wp at *
  generalize (execOp a.eval o).run P w = r at *
  cases r with
  | ok n w2 =>
    cases n <;> simp only [Oper.upon] at h ⊢
    case value v => obtain ⟨u, e, q⟩ := h; rw [e]; exact hK _ _ q
    case skip => obtain ⟨u, e, q⟩ := h; rw [e]; exact hK _ _ q
    case defer d =>
      obtain ⟨u, e, q⟩ := h
      have e1 := congrArg (fun x : Act => x.defers.length) e
      simp [put_defers] at e1
    case enter f args =>
      refine Calls.mono h ?_
      intro e w3 he
      cases e with
      | returned v => obtain ⟨u, e, q⟩ := he; simp only; rw [e]; exact hK _ _ q
      | panicked c => exact he.elim
      | outgrown => obtain ⟨_, _, hf⟩ := he; exact hf.elim
    case row r args =>
      refine Rows.mono h ?_
      rintro v w3 ⟨u, e, q⟩
      rw [e]; exact hK _ _ q
  | halt x w2 => cases x <;> simp only [Oper.upon] at h
theorem GoI.step {Q : Exit → Act → World → Prop} (once : Once w0 rows pres sps) (hz : ∀ k, OldB w0 rows k → k < w0.heap.size) (ho : ops[i]? = some o) (hdep : ∀ j, waitsT ops i j = true → listed.getD j false = true)
    (hpull : if Region.wanted o (yielded ops a.tmps) = true then claim P ops w0 rows pres sps i o (spAt sps i) a D ∧ ∀ v, dom (spAt sps i) (vals o a) v → Lx P ops w0 rows pres sps E (U1 ++ U2) (a.put o.dst v) (ext w0 i o (spAt sps i) a v ++ D) else Lx P ops w0 rows pres sps E (U1 ++ U2) (a.put o.dst undef) D)
    (h : GoI P ops w0 rows pres sps E (U1 ++ i :: U2) listed a w D foot grp) :
    wpOp P ops Q i (fun a' w' => ∃ D' foot' grp', GoI P ops w0 rows pres sps E (U1 ++ U2) (listed.setIfInBounds i true) a' w' D' foot' grp') a w := by
  have hil : listed.getD i false = false := ((h.u i).1 (by simp)).2
  have hsz0 := h.far.size
  have hhv := h.have_ once hil
  have hne : ∀ j, listed.getD j false = true → j ≠ i := fun j hj e => by rw [e, hil] at hj; cases hj
  have hB : ∀ {w'}, Below w.heap.size w w' → Far rows w0 w' := fun hb => h.far.then_ (T := []) (Far.of_below hb) (fun k hk => by simp at hk)
  unfold wpOp
  rw [ho]
  simp only
  by_cases hw : Region.wanted o (yielded ops a.tmps) = true
  · rw [if_pos hw] at hpull ⊢
    obtain ⟨hcl, hnx⟩ := hpull
    left
    cases hs : spAt sps i with
    | det f =>
      rw [hs] at hcl hnx
      refine does_wp (hcl w h.far hhv) ?_
      rintro u w' ⟨rfl, hb⟩
      exact h.next hdep [] (fun _ => False) i (hnx _ rfl) (hB hb) (h.keep hb) (fun q hq => by simp at hq) hb.size (fun k hk => hk.elim) (fun k hk => hk.elim) (fun _ _ k hk => hk.elim) (fun k hk _ _ => hb.block k (by omega)) (fun T Z _ => .inl rfl) (fun _ _ _ => rfl) (fun q hq => by simp at hq)
    | new r =>
      rw [hs] at hcl hnx
      refine does_wp (hcl.2 w h.far hhv) ?_
      rintro u w' ⟨hb, hr⟩
      refine h.next hdep [(i, r (vals o a) u)] (fun k => w.heap.size ≤ k ∧ k < w'.heap.size) i (hnx u trivial) (hB hb) (h.keep hb) (fun q hq => ?_) hb.size (fun k hk => ⟨hk.2, fun ho => by have := ho.1; omega⟩) (fun k hk h0 => by omega) (fun j hj k hk hf => by have := (h.new_ j hj k hf).1; omega) (fun k hk _ _ => hb.block k (by omega)) (fun T Z _ => .inl rfl) (fun _ _ _ => rfl) (fun q hq T Z e => by rw [hs] at e; cases e)
      rw [List.mem_singleton] at hq
      subst hq
      exact ⟨rfl, hcl.1 _ u, hr _ (fun k hk => .inl hk) (fun k hk => by cases hk) (fun k h1 h2 => .inr ⟨h1, h2⟩)⟩
    | der j r =>
      rw [hs] at hcl hnx
      obtain ⟨h1, h2, h3, h4⟩ := hcl
      have hj := hdep j h2
      refine does_wp (h4 w (fun k => OldB w0 rows k ∨ foot j k) h.far (fun k hk => .inl hk) hhv (fun p hp => (h.facts _ hp).2.2)) ?_
      rintro u w' ⟨rfl, hr⟩
      refine h.next hdep [(i, r (vals o a) u)] (foot j) (grp j) (hnx u trivial) h.far (fun q hq => (h.facts q hq).2.2) (fun q hq => ?_) (Nat.le_refl _) (h.new_ j hj) (fun k hk h0 => .inr ⟨j, hj, hk⟩) (fun j' hj' k hk hk' => h.dis j j' hj hj' k hk hk') (fun k _ _ _ => rfl) (fun T Z e => ?_) (fun T Z e => by rw [hs] at e; cases e) (fun q hq T Z e => by rw [hs] at e; cases e)
      · rw [List.mem_singleton] at hq
        subst hq
        exact ⟨rfl, h1 _ u, hr⟩
      · rcases h.gal j T Z hj e with e1 | ⟨T', n, e1⟩
        · rw [← e1] at e; rw [e] at h3; cases h3
        · rw [e1] at h3; cases h3
    | al T Z =>
      rw [hs] at hcl hnx
      refine alloc_step hcl.1 (hcl.2 w) ?_
      have hb : Below w.heap.size w (w.alloc (.cells Z T)) := (Below.refl _ _).alloc (Nat.le_refl _) _
      have hs1 : (w.alloc (.cells Z T)).heap.size = w.heap.size + 1 := size_alloc' _ _
      refine h.next hdep [(i, alP w0.heap.size (.pointer (some ⟨w.heap.size, 0, none⟩)) T Z.size)] (fun k => k = w.heap.size) i (hnx _ trivial) (hB hb) (h.keep hb) (fun q hq => ?_) hb.size (fun k hk => ⟨by omega, fun ho => by have := ho.1; omega⟩) (fun k hk h0 => by omega) (fun j hj k hk hf => by have := (h.new_ j hj k hf).1; omega) (fun k hk _ _ => hb.block k (by omega)) (fun T Z _ => .inl rfl) (fun _ _ _ => rfl) (fun q hq T' Z' e => ?_)
      · rw [List.mem_singleton] at hq
        subst hq
        exact ⟨rfl, alP_stab _ _ _ _, w.heap.size, rfl, hsz0, .inr rfl, Z, rfl, Blk.new _ _ _⟩
      · rw [List.mem_singleton] at hq
        subst hq
        rw [hs] at e
        injection e with e1 e2
        subst e1 e2
        exact ⟨_, rfl⟩
    | st j T n =>
      rw [hs] at hcl hnx
      obtain ⟨h1, h2, h3, ⟨Z, h4, h5⟩, x, y, h6, h7, h8⟩ := hcl
      have hj := hdep j h1
      obtain ⟨cs, hy, hcs, hone⟩ := h8 w h.far hhv
      obtain ⟨b, hb1, hb2, hb3, c0, hc0, hbk⟩ := (h.facts _ h7).2.2
      have hfj : foot j b := hb3.resolve_left fun ho => by have := ho.1; omega
      have hgj : grp j = j := h.gself j T Z h4 hj
      refine wp_store_row T x y h6 b cs hb1 hy T c0 hbk (by rw [hcs]; exact h3) (hc0.trans hcs.symm) hone ?_
      have hn := hnx undef rfl
      have hext : ext w0 i o (.st j T n) a undef = [(i, stP w0.heap.size (a.eval x) (a.eval y) T)] := by simp only [ext, h6]
      rw [hext] at hn
      have hset : ∀ k, k ≠ b → (w.setRow b cs).heap[k]? = w.heap[k]? := fun k hk => setRow_other _ _ _ _ hk
      have hss : (w.setRow b cs).heap.size = w.heap.size := by simp
      refine h.next hdep [(i, stP w0.heap.size (a.eval x) (a.eval y) T)] (foot j) (grp j) hn ?_ (fun q hq => ?_) (fun q hq => ?_) (by omega) (fun k hk => by rw [hss]; exact h.new_ j hj k hk) (fun k hk h0 => .inr ⟨j, hj, hk⟩) (fun j' hj' k hk hk' => h.dis j j' hj hj' k hk hk') (fun k hk _ _ => hset k (by omega)) (fun T' Z' _ => .inr ⟨T, n, by rw [hgj]; exact hs⟩) (fun T Z e => by rw [hs] at e; cases e) (fun q hq T Z e => by rw [hs] at e; cases e)
      · exact ⟨h.far.os, h.far.tape, h.far.output, by rw [hss]; exact h.far.size, fun k hk hn => (hset k (by omega)).trans (h.far.block k hk hn)⟩
      · obtain ⟨hl, hst, hq2⟩ := h.facts q hq
        by_cases hfb : foot q.1 b
        · have hg := h.dis q.1 j hl hj b hfb hfj
          rw [hgj] at hg
          have hqj : q.1 = j := by
            rcases h.gal q.1 T Z hl (by rw [hg]; exact h4) with e | ⟨T', n', e⟩
            · rw [e, hg]
            · rw [hg] at e
              exact absurd (once.st _ _ _ _ _ _ _ e hs) (hne _ hl)
          obtain ⟨v, hv⟩ := h.ents q hq T Z (by rw [hqj]; exact h4)
          rw [hv] at hq2 ⊢
          obtain ⟨b', e1, e2, e3, c1, hc1, hk1⟩ := hq2
          refine ⟨b', e1, e2, e3, ?_⟩
          by_cases hbb : b' = b
          · subst hbb
            exact ⟨cs, by rw [hcs, h5], setRow_heap _ _ _ _ _ _ hk1⟩
          · exact ⟨c1, hc1, (hset b' hbb).trans hk1⟩
        · refine hst _ _ w _ (fun _ h => h) ⟨by omega, fun k hk hf => hset k fun e => ?_⟩ hq2
          subst e
          rcases hf with hf | hf
          · have := hf.1; omega
          · exact hfb hf
      · rw [List.mem_singleton] at hq
        subst hq
        exact ⟨rfl, stP_stab _ _ _ _, b, cs, hb1, hy, hb2, .inr hfj, setRow_heap _ _ _ _ _ _ hbk⟩
    | wr r =>
      rw [hs] at hcl hnx
      obtain ⟨h1, row, p0, h3, h4⟩ := hcl
      have hnl : ∀ k, some k = row → ∀ m p, listed.getD m false = true → (m, some k, p) ∉ pres := fun k hk m p hm hp => by
        have e := once.wr _ h3 _ hp k hk.symm rfl
        injection e with e _
        exact hne m hm e.symm
      have hrow : ∀ k, some k = row → some k ∈ rows ∧ k < w0.heap.size := fun k hk => once.row _ h3 k hk.symm
      have hp : p0 w := h.pre once h3 hil
      refine does_wp (h4 w h.far hhv hp) ?_
      rintro u w' ⟨hb, hr⟩
      have hblk : ∀ k, k < w.heap.size → some k ≠ row → w'.heap[k]? = w.heap[k]? := fun k hk hn => hb.block k hk hn
      have hoth : ∀ j, listed.getD j false = true → ∀ k, foot j k → some k ≠ row := fun j hj k hf e => by
        obtain ⟨m, p, hm, e1⟩ := h.old_ j hj k hf (hrow k e).2
        exact hnl k e m p hm e1
      refine h.next hdep [(i, r (vals o a) u)] (fun k => (w.heap.size ≤ k ∧ k < w'.heap.size) ∨ some k = row) i (hnx u trivial) ?_ (fun q hq => ?_) (fun q hq => ?_) hb.size (fun k hk => ?_) (fun k hk h0 => ?_) (fun j hj k hk hf => ?_) (fun k hk hn _ => hblk k (by omega) fun e => ?_) (fun T Z _ => .inl rfl) (fun _ _ _ => rfl) (fun q hq T Z e => by rw [hs] at e; cases e)
      · exact ⟨hb.os.trans h.far.os, hb.tape.trans h.far.tape, hb.output.trans h.far.output, Nat.le_trans hsz0 hb.size, fun k hk hn => (hblk k (by omega) fun e => hn (hrow k e).1).trans (h.far.block k hk hn)⟩
      · obtain ⟨hl, hst, hq2⟩ := h.facts q hq
        refine hst _ _ w w' (fun _ h => h) ⟨hb.size, fun k hk hf => hblk k hk fun e => ?_⟩ hq2
        rcases hf with hf | hf
        · exact hf.2 (hrow k e).1
        · exact hoth _ hl k hf e
      · rw [List.mem_singleton] at hq
        subst hq
        exact ⟨rfl, h1 _ u, hr _ (fun k hk => .inl hk) (fun k hk => .inr (.inr hk)) (fun k h1 h2 => .inr (.inl ⟨h1, h2⟩))⟩
      · rcases hk with hk | hk
        · exact ⟨hk.2, fun ho => by have := ho.1; omega⟩
        · exact ⟨by have := (hrow k hk).2; have := hb.size; omega, fun ho => ho.2 (hrow k hk).1⟩
      · rcases hk with hk | hk
        · omega
        · exact .inl ⟨p0, by rw [hk]; exact h3⟩
      · rcases hk with hk | hk
        · have := (h.new_ j hj k hf).1; omega
        · exact absurd hk (hoth j hj k hf)
      · exact hn p0 (by rw [e]; exact h3)
  · rw [if_neg hw] at hpull ⊢
    exact h.next hdep [] (fun _ => False) i hpull h.far (fun q hq => (h.facts q hq).2.2) (fun q hq => by simp at hq) (Nat.le_refl _) (fun k hk => hk.elim) (fun k hk => hk.elim) (fun _ _ k hk => hk.elim) (fun k hk _ _ => rfl) (fun T Z _ => .inl rfl) (fun _ _ _ => rfl) (fun q hq => by simp at hq)
/-- Any two operations are apart, or the later one waits. -/
def pairsB (ops : Array Oper) : Bool := (List.range ops.size).all fun i => (List.range i).all fun k => waitsT ops i k || match ops[k]?, ops[i]? with
  | some x, some y => x.apart ops y
  | _, _ => true
def noSelB (ops : Array Oper) : Bool := ops.all fun o => match o.op with | .select _ _ => false | _ => true
theorem noSel_spec (h : noSelB ops = true) (i : Nat) (o : Oper) (ho : ops[i]? = some o) (cs : Array SelectCase) (b : Bool) : o.op ≠ .select cs b := by
  intro e
  unfold noSelB at h
  rw [Array.all_eq_true'] at h
  have := h o (Array.mem_of_getElem? ho)
  rw [e] at this
  cases this
theorem waits_lt (hac : acyc ops = true) : ∀ (i : Nat) {k : Nat}, waitsT ops i k = true → k < i := by
  intro i
  induction i using Nat.strongRecOn with
  | _ i ih =>
    intro k h
    obtain ⟨o, ho, e, he, hb, h2⟩ := waitsT_spec h
    have hl := acyc_spec hac ho he hb
    rcases h2 with h2 | ⟨_, h2⟩
    · rw [← h2]; exact hl
    · exact Nat.lt_trans (ih e.on hl h2) hl
theorem range_split : ∀ (U : List Nat) (i : Nat), i ∈ U → U.Pairwise (· < ·) → ∃ U1 U2, U = U1 ++ i :: U2 ∧ ∀ k ∈ U1, k < i
  | [], i, h, _ => by simp at h
  | x :: U, i, h, hp => by
    rcases List.mem_cons.1 h with hx | hU
    · subst hx; exact ⟨[], U, rfl, fun k hk => by simp at hk⟩
    · obtain ⟨h1, h2⟩ := List.pairwise_cons.1 hp
      obtain ⟨U1, U2, e, hl⟩ := range_split U i hU h2
      refine ⟨x :: U1, U2, by rw [e]; rfl, fun k hk => ?_⟩
      rcases List.mem_cons.1 hk with hk | hk
      · rw [hk]; exact h1 i hU
      · exact hl k hk
def EndOf (w0 : World) (rows : List (Option Nat)) (Q : Exit → Act → World → Prop) (a : Act) (D : Facts) : Prop := ∀ w, Far rows w0 w → (∀ q ∈ D, ∃ F, q.2 F w) → Q .normal a w
theorem EndOf.mem {Q : Exit → Act → World → Prop} (a : Act) (D D' : Facts) (hD : ∀ q, q ∈ D ↔ q ∈ D') (h : EndOf w0 rows Q a D) : EndOf w0 rows Q a D' := fun w hw hq => h w hw fun q h => hq q ((hD q).1 h)
theorem wpAny_go {Q : Exit → Act → World → Prop} (hac : acyc ops = true) (hap : pairsB ops = true) (hns : noSelB ops = true) (once : Once w0 rows pres sps) :
    ∀ (fuel : Nat) (U : List Nat) (listed : Array Bool) (a : Act) (w : World), (∃ D foot grp, GoI P ops w0 rows pres sps (EndOf w0 rows Q) U listed a w D foot grp) → U.length ≤ fuel → wpAny P .any ops Q fuel listed a w := by
  have nil_end : ∀ listed a w, (∃ D foot grp, GoI P ops w0 rows pres sps (EndOf w0 rows Q) [] listed a w D foot grp) → Region.ready .any ops listed = [] ∧ Q .normal a w := by
    rintro listed a w ⟨D, foot, grp, h⟩
    refine ⟨?_, h.lx w h.far fun q hq => ⟨_, (h.facts q hq).2.2⟩⟩
    rw [List.eq_nil_iff_forall_not_mem]
    intro i hi
    obtain ⟨h1, h2, _⟩ := ready_spec hi
    have := (h.u i).2 ⟨h1, by rw [getD_of_size (by rw [h.size]; exact h1)]; exact h2⟩
    simp at this
  intro fuel
  induction fuel with
  | zero =>
    intro U listed a w h hu
    obtain rfl : U = [] := List.eq_nil_of_length_eq_zero (by omega)
    exact nil_end _ _ _ h
  | succ fuel ih =>
    intro U listed a w h hu
    refine ⟨fun h0 => ?_, fun i hi => ?_⟩
    · obtain ⟨D, foot, grp, hI⟩ := h
      cases U with
      | nil => exact (nil_end _ _ _ ⟨D, foot, grp, hI⟩).2
      | cons x U =>
        obtain ⟨h1, h2⟩ := (hI.u x).1 (by simp)
        have := all_listed hac hI.size h0 x h1
        rw [h2] at this
        cases this
    · obtain ⟨D, foot, grp, hI⟩ := h
      obtain ⟨h1, h2, h3⟩ := ready_spec hi
      have ho : ops[i]? = some ops[i] := Array.getElem?_eq_getElem h1
      have hl : listed.getD i false = false := by rw [getD_of_size (by rw [hI.size]; exact h1)]; exact h2
      obtain ⟨U1, U2, rfl, hlt⟩ := range_split U i ((hI.u i).2 ⟨h1, hl⟩) hI.sorted
      have hdep : ∀ j, waitsT ops i j = true → listed.getD j false = true := fun j hj => by
        obtain ⟨o, ho', e, he, hb, h4⟩ := waitsT_spec hj
        have hl := h3 o ho' e he hb
        rcases h4 with h4 | ⟨_, h4⟩
        · rw [← h4]; exact hl
        · exact hI.closed e.on j hl h4
      have hind : ∀ k ∈ U1, ∃ ok, ops[k]? = some ok ∧ Indep ops ok ops[i] k i := fun k hk => by
        obtain ⟨k1, k2⟩ := (hI.u k).1 (by simp [hk])
        have hki := hlt k hk
        have hik : waitsT ops i k = false := by
          cases hb : waitsT ops i k with
          | false => rfl
          | true => have := hdep k hb; rw [k2] at this; cases this
        refine ⟨ops[k], Array.getElem?_eq_getElem k1, ?_, hik, ?_⟩
        · have := List.all_eq_true.1 (List.all_eq_true.1 hap i (List.mem_range.2 h1)) k (List.mem_range.2 hki)
          rw [hik, Array.getElem?_eq_getElem k1, ho] at this
          simpa using this
        · cases hb : waitsT ops k i with
          | false => rfl
          | true => have := waits_lt hac _ hb; omega
      refine wpOp_mono ?_ (GoI.step once (fun k hk => hk.1) ho hdep (Lx_pull EndOf.mem (noSel_spec hns) ho U2 U1 a D hind hI.lx) hI)
      intro a' w' hn
      refine ih _ _ _ _ hn ?_
      simp only [List.length_append, List.length_cons] at hu ⊢
      omega
theorem wp_region_lx {Q : Exit → Act → World → Prop} {id : Nat} {a0 : Act} {W : World} (hm : P.follows .mixedOrders = true) (hac : acyc ops = true) (hap : pairsB ops = true) (hns : noSelB ops = true) (once : Once W.drew rows pres sps)
    (h : Lx P ops W.drew rows pres sps (EndOf W.drew rows Q) (List.range ops.size) a0 []) : (Code.region id ops true).wp P Q a0 W := by
  refine wp_region_any hm (wpAny_go (w0 := W.drew) (rows := rows) (sps := sps) hac hap hns once _ (List.range ops.size) _ _ _ ⟨[], fun _ _ => False, fun i => i, ?_⟩ (by simp))
  constructor
  · simp
  · intro i
    rw [List.mem_range, getD_none]
    exact ⟨fun h => ⟨h, rfl⟩, fun h => h.1⟩
  · exact List.pairwise_lt_range
  · exact h
  · exact Far.refl _ _
  · intro q hq; simp at hq
  · intro i hi; rw [getD_none] at hi; cases hi
  · intro i hi; rw [getD_none] at hi; cases hi
  · intro i j hi; rw [getD_none] at hi; cases hi
  · intro i j hi; rw [getD_none] at hi; cases hi
  · intro k _ _; rfl
  · intro i T Z hi; rw [getD_none] at hi; cases hi
  · intro q hq; simp at hq
  · intro i T Z _ hi; rfl
end
/- The same by lists: for a walk. -/
section
variable (P : Program) (ops : Array Oper) (w0 : World) (rows : List (Option Nat)) (pres : Pres) (sps : List Sp) (E : Act → Facts → Prop)
def LxL : Nat → List Oper → List Sp → Act → Facts → Prop
  | _, [], _, a, D => E a D
  | i, o :: rest, s :: ss, a, D => if Region.wanted o (yielded ops a.tmps) = true then claim P ops w0 rows pres sps i o s a D ∧ ∀ v, dom s (vals o a) v → LxL (i + 1) rest ss (a.put o.dst v) (ext w0 i o s a v ++ D) else LxL (i + 1) rest ss (a.put o.dst undef) D
  | _, _ :: _, [], _, _ => False
def exSp : Nat → (List Sp → Prop) → Prop
  | 0, Q => Q []
  | n + 1, Q => ∃ s, exSp n fun l => Q (s :: l)
def stsOf (sps : List Sp) : List Nat := sps.filterMap fun s => match s with | .st j _ _ => some j | _ => none
end
section
variable {P : Program} {ops : Array Oper} {w0 : World} {rows : List (Option Nat)} {pres : Pres} {sps : List Sp} {E : Act → Facts → Prop}
theorem Lx_of_list : ∀ (rest : List Oper) (ss : List Sp) (i : Nat) (a : Act) (D : Facts), (∀ k, ops[i + k]? = rest[k]?) → (∀ k, sps[i + k]? = ss[k]?) → LxL P ops w0 rows pres sps E i rest ss a D → Lx P ops w0 rows pres sps E ((List.range rest.length).map (i + ·)) a D
  | [], _, _, _, _, _, _, h => h
  | o :: rest, [], _, _, _, _, _, h => h.elim
  | o :: rest, s :: ss, i, a, D, ho, hs, h => by
    have hsi : spAt sps i = s := by
      have := hs 0
      unfold spAt
      rw [List.getD_eq_getElem?_getD, show sps[i]? = some s from this]
      rfl
    have hoi : ops[i]? = some o := ho 0
    rw [List.length_cons, List.range_succ_eq_map, List.map_cons, List.map_map]
    have key : ∀ a D, LxL P ops w0 rows pres sps E (i + 1) rest ss a D → Lx P ops w0 rows pres sps E ((List.range rest.length).map ((fun x => i + x) ∘ Nat.succ)) a D := fun a D h => by
      have := Lx_of_list rest ss (i + 1) a D (fun k => by have := ho (k + 1); rwa [show i + (k + 1) = i + 1 + k from by omega] at this) (fun k => by have := hs (k + 1); rwa [show i + (k + 1) = i + 1 + k from by omega] at this) h
      rwa [show ((fun x => i + x) ∘ Nat.succ) = fun x => i + 1 + x from funext fun x => by simp; omega]
    intro o' ho'
    obtain rfl : o = o' := Option.some.inj (hoi.symm.trans ho')
    rw [Nat.add_zero, hsi]
    unfold LxL at h
    split
    · rename_i hw
      rw [if_pos hw] at h
      exact ⟨h.1, fun v hv => key _ _ (h.2 v hv)⟩
    · rename_i hw
      rw [if_neg hw] at h
      exact key _ _ h
theorem nodup_at {α β : Type} {f : α → Option β} : ∀ {l : List α} {i j : Nat} {x y : α} {z : β}, (l.filterMap f).Nodup → l[i]? = some x → l[j]? = some y → f x = some z → f y = some z → i = j
  | [], i, _, _, _, _, _, h, _, _, _ => by simp at h
  | u :: l, i, j, x, y, z, hn, hi, hj, hx, hy => by
    have mem : ∀ {k : Nat} {v : α}, l[k]? = some v → f v = some z → z ∈ l.filterMap f := fun hk hv => List.mem_filterMap.2 ⟨_, List.mem_of_getElem? hk, hv⟩
    cases i with
    | zero =>
      cases j with
      | zero => rfl
      | succ j =>
        simp only [List.getElem?_cons_zero, Option.some.injEq, List.getElem?_cons_succ] at hi hj
        subst hi
        rw [List.filterMap_cons, hx] at hn
        exact absurd (mem hj hy) (List.nodup_cons.1 hn).1
    | succ i =>
      cases j with
      | zero =>
        simp only [List.getElem?_cons_zero, Option.some.injEq, List.getElem?_cons_succ] at hi hj
        subst hj
        rw [List.filterMap_cons, hy] at hn
        exact absurd (mem hi hx) (List.nodup_cons.1 hn).1
      | succ j =>
        simp only [List.getElem?_cons_succ] at hi hj
        have hn' : (l.filterMap f).Nodup := by
          rw [List.filterMap_cons] at hn
          split at hn
          · exact hn
          · exact (List.nodup_cons.1 hn).2
        rw [nodup_at hn' hi hj hx hy]
theorem spAt_some {i : Nat} {s : Sp} (h : spAt sps i = s) (hne : s ≠ .det fun _ => undef) : sps[i]? = some s := by
  unfold spAt at h
  rw [List.getD_eq_getElem?_getD] at h
  cases e : sps[i]? with
  | none => rw [e] at h; exact absurd h.symm hne
  | some x => rw [e] at h; rw [← h]; rfl
theorem once_of (h1 : (stsOf sps).Nodup) (h2 : ∀ q ∈ pres, ∀ q' ∈ pres, ∀ k, q.2.1 = some k → q'.2.1 = some k → q = q') (h3 : ∀ q ∈ pres, ∀ k, q.2.1 = some k → some k ∈ rows ∧ k < w0.heap.size) (h4 : ∀ q ∈ pres, q.2.2 w0)
    (h5 : ∀ q ∈ pres, ∀ w, Agree (fun k => k < w0.heap.size ∧ (some k ∉ rows ∨ some k = q.2.1)) w0 w → q.2.2 w) : Once w0 rows pres sps :=
  ⟨fun i i' j T n T' n' e e' => nodup_at h1 (spAt_some e (by simp)) (spAt_some e' (by simp)) (z := j) rfl rfl, h2, h3, h4, h5⟩
theorem exSp_spec : ∀ (n : Nat) (Q : List Sp → Prop), exSp n Q → ∃ l, Q l
  | 0, Q, h => ⟨[], h⟩
  | n + 1, Q, ⟨s, h⟩ => by
    obtain ⟨l, hl⟩ := exSp_spec n _ h
    exact ⟨s :: l, hl⟩
end
end Go.Proofs.YtnehabcopjgklaaDoor
/- Small laws for the walk of a region by XGo's law. No condition; no program. -/
namespace Go.Proofs.YtnehabcopjgklaaDoor
open Go.RowKit
section
variable {P : Program} {ops : Array Oper} {w0 : World} {rows : List (Option Nat)} {pres : Pres} {sps : List Sp} {E : Act → Facts → Prop} {i : Nat} {o : Oper} {rest : List Oper} {s : Sp} {ss : List Sp} {a : Act} {D : Facts} {w w' : World}
theorem does_quiet {V : Value} (h : Oper.quietUpon P (Below w.heap.size w) w V ((execOp a.eval o).run P w)) : doesAt P o a w fun u w' => u = V ∧ Below w.heap.size w w' := by
  unfold doesAt Oper.wp
  generalize (execOp a.eval o).run P w = r at *
  cases r with
  | ok n w2 =>
    cases n <;> simp only [Oper.quietUpon] at h <;> simp only [Oper.upon]
    case value v => obtain ⟨rfl, rfl⟩ := h; exact ⟨_, rfl, rfl, Below.refl _ _⟩
    case skip => obtain ⟨rfl, rfl⟩ := h; exact ⟨_, rfl, rfl, Below.refl _ _⟩
    case enter f args =>
      obtain ⟨rfl, hc⟩ := h
      refine Calls.mono hc ?_
      rintro e w3 ⟨rfl, hb⟩
      exact ⟨_, rfl, rfl, hb⟩
  | halt x w2 => cases x <;> simp only [Oper.quietUpon] at h
theorem lx_ex (hw : Region.wanted o (yielded ops a.tmps) = true) (h : ∃ V, s = .det (fun _ => V) ∧ (∀ w, Far rows w0 w → Have ops pres i D w → Oper.quietUpon P (Below w.heap.size w) w V ((execOp a.eval o).run P w)) ∧ LxL P ops w0 rows pres sps E (i + 1) rest ss (a.put o.dst V) D) : LxL P ops w0 rows pres sps E i (o :: rest) (s :: ss) a D := by
  obtain ⟨V, rfl, h1, h2⟩ := h
  unfold LxL
  rw [if_pos hw]
  exact ⟨fun w hw hh => does_quiet (h1 w hw hh), fun v hv => by rw [show v = V from hv]; exact h2⟩
theorem lx_pass (hw : Region.wanted o (yielded ops a.tmps) = false) (hs : s = .det fun _ => undef) (h : LxL P ops w0 rows pres sps E (i + 1) rest ss (a.put o.dst undef) D) : LxL P ops w0 rows pres sps E i (o :: rest) (s :: ss) a D := by
  unfold LxL
  rw [hw]
  exact h
theorem lx_new (r : List Value → Value → Foot → World → Prop) (hs : s = .new r) (hw : Region.wanted o (yielded ops a.tmps) = true) (hst : ∀ ρ v, Stab (r ρ v)) (hc : ∀ w, Far rows w0 w → Have ops pres i D w → doesAt P o a w fun u w' => Below w.heap.size w w' ∧ NewR w0 rows (r (vals o a)) none w u w') (h : ∀ v, LxL P ops w0 rows pres sps E (i + 1) rest ss (a.put o.dst v) ((i, r (vals o a) v) :: D)) : LxL P ops w0 rows pres sps E i (o :: rest) (s :: ss) a D := by
  subst hs
  unfold LxL
  rw [if_pos hw]
  exact ⟨⟨hst, hc⟩, fun v _ => h v⟩
theorem lx_der (j : Nat) (r : List Value → Value → Foot → World → Prop) (hs : s = .der j r) (hw : Region.wanted o (yielded ops a.tmps) = true) (hst : ∀ ρ v, Stab (r ρ v)) (hj : waitsT ops i j = true) (hv : isVal (spAt sps j) = true)
    (hc : ∀ (w : World) (F : Foot), Far rows w0 w → (∀ k, OldB w0 rows k → F k) → Have ops pres i D w → (∀ p, (j, p) ∈ D → p F w) → doesAt P o a w fun u w' => w' = w ∧ r (vals o a) u F w) (h : ∀ v, LxL P ops w0 rows pres sps E (i + 1) rest ss (a.put o.dst v) ((i, r (vals o a) v) :: D)) : LxL P ops w0 rows pres sps E i (o :: rest) (s :: ss) a D := by
  subst hs
  unfold LxL
  rw [if_pos hw]
  exact ⟨⟨hst, hj, hv, hc⟩, fun v _ => h v⟩
theorem lx_al {d : Option Tmp} {rt : TypeId} {pos : String} {af : Array Edge} (T : TypeId) (Z : Array Value) (hz : ∀ w, (zeroValue T).run P w = .ok (.agg Z) w) (hs : s = .al T Z) (h : ∀ v, LxL P ops w0 rows pres sps E (i + 1) rest ss (a.put d v) ((i, alP w0.heap.size v T Z.size) :: D)) :
    LxL P ops w0 rows pres sps E i ({ dst := d, op := .alloc T, type := rt, pos := pos, after := af, guard := none } :: rest) (s :: ss) a D := by
  subst hs
  unfold LxL
  rw [if_pos (by simp [Region.wanted])]
  exact ⟨⟨rfl, hz⟩, fun v _ => h v⟩
theorem lx_st {rt : TypeId} {pos : String} {af : Array Edge} {x y : Operand} (j : Nat) (T : TypeId) (n : Nat) (hs : s = .st j T n) (hj : waitsT ops i j = true) (hn : (P.info? T).map (·.size) = some n) (hZ : ∃ Z : Array Value, spAt sps j = .al T Z ∧ Z.size = n) (hD : (j, alP w0.heap.size (a.eval x) T n) ∈ D)
    (hy : ∀ w, Far rows w0 w → Have ops pres i D w → ∃ cs : Array Value, a.eval y = .agg cs ∧ cs.size = n ∧ cs.all (·.oneCell') = true) (h : LxL P ops w0 rows pres sps E (i + 1) rest ss a ((i, stP w0.heap.size (a.eval x) (a.eval y) T) :: D)) :
    LxL P ops w0 rows pres sps E i ({ dst := none, op := .store T x y, type := rt, pos := pos, after := af, guard := none } :: rest) (s :: ss) a D := by
  subst hs
  unfold LxL
  rw [if_pos (by simp [Region.wanted])]
  exact ⟨⟨hj, rfl, hn, hZ, x, y, rfl, hD, hy⟩, fun v _ => h⟩
theorem lx_wr (row : Option Nat) (p0 : World → Prop) (r : List Value → Value → Foot → World → Prop) (hs : s = .wr r) (hp : (i, row, p0) ∈ pres) (hw : Region.wanted o (yielded ops a.tmps) = true) (hst : ∀ ρ v, Stab (r ρ v))
    (hc : ∀ w, Far rows w0 w → Have ops pres i D w → p0 w → doesAt P o a w fun u w' => w.grownBy w' row ∧ NewR w0 rows (r (vals o a)) row w u w') (h : ∀ v, LxL P ops w0 rows pres sps E (i + 1) rest ss (a.put o.dst v) ((i, r (vals o a) v) :: D)) : LxL P ops w0 rows pres sps E i (o :: rest) (s :: ss) a D := by
  subst hs
  unfold LxL
  rw [if_pos hw]
  exact ⟨⟨hst, row, p0, hp, hc⟩, fun v _ => h v⟩
theorem LxL_leaf : ∀ (l : List Oper) (ss : List Sp) (i : Nat) (a : Act) (D : Facts), LxL P ops w0 rows pres sps E i l ss a D → ∃ a' D', E a' D'
  | [], [], _, a, D, h => ⟨a, D, h⟩
  | [], _ :: _, _, a, D, h => ⟨a, D, h⟩
  | o :: l, [], _, _, _, h => h.elim
  | o :: l, s :: ss, i, a, D, h => by
    unfold LxL at h
    split at h
    · obtain ⟨v, hv⟩ := dom_some s (vals o a)
      exact LxL_leaf l ss _ _ _ (h.2 v hv)
    · exact LxL_leaf l ss _ _ _ h
theorem LxL_mono {E' : Act → Facts → Prop} (hE : ∀ a D, E a D → E' a D) : ∀ (l : List Oper) (ss : List Sp) (i : Nat) (a : Act) (D : Facts), LxL P ops w0 rows pres sps E i l ss a D → LxL P ops w0 rows pres sps E' i l ss a D
  | [], [], _, a, D, h => hE _ _ h
  | [], _ :: _, _, a, D, h => hE _ _ h
  | o :: l, [], _, _, _, h => h.elim
  | o :: l, s :: ss, i, a, D, h => by
    unfold LxL at h ⊢
    split at h
    · rename_i hw
      rw [if_pos hw]
      exact ⟨h.1, fun v hv => LxL_mono hE l ss _ _ _ (h.2 v hv)⟩
    · rename_i hw
      rw [if_neg hw]
      exact LxL_mono hE l ss _ _ _ h
/-- The k-th thing that is known. -/
theorem Have.at (h : Have ops pres i D w) (k : Nat) {j : Nat} {p : Foot → World → Prop} (hk : D[k]? = some (j, p)) (hq : waitsT ops i j = true) : ∃ F, p F w := h.fact _ (List.mem_of_getElem? hk) hq
theorem Have.was (h : Have ops pres i D w) (k : Nat) {j : Nat} {row : Option Nat} {p : World → Prop} (hk : pres[k]? = some (j, row, p)) (hq : waitsT ops j i = true) : p w := h.pre _ (List.mem_of_getElem? hk) hq
theorem far_nil {W : World} (h : Far [] W.drew w) : Below W.heap.size W w := ⟨h.os, h.tape, h.output, h.size, fun k hk => h.block k hk (by simp)⟩
theorem far_drew {W : World} (h : Far rows W.drew w) : Far rows W w := ⟨h.os, h.tape, h.output, h.size, h.block⟩
end
/-- What is asked of the blocks that are written. -/
structure PreOk (w0 : World) (pres : Pres) : Prop where
  wr : ∀ q ∈ pres, ∀ q' ∈ pres, ∀ k, q.2.1 = some k → q'.2.1 = some k → q = q'
  lt : ∀ q ∈ pres, ∀ k, q.2.1 = some k → k < w0.heap.size
  at_ : ∀ q ∈ pres, q.2.2 w0
  stab : ∀ q ∈ pres, ∀ w, w0.heap.size ≤ w.heap.size → (∀ k, q.2.1 = some k → w.heap[k]? = w0.heap[k]?) → q.2.2 w
theorem PreOk.nil (w0 : World) : PreOk w0 [] := ⟨fun q h => by simp at h, fun q h => by simp at h, fun q h => by simp at h, fun q h => by simp at h⟩
theorem PreOk.cons {w0 : World} {pres : Pres} {i : Nat} {row : Option Nat} {p : World → Prop} (h : PreOk w0 pres) (hn : ∀ q ∈ pres, ∀ k, row = some k → q.2.1 ≠ some k) (hl : ∀ k, row = some k → k < w0.heap.size) (hp : p w0)
    (hs : ∀ w, w0.heap.size ≤ w.heap.size → (∀ k, row = some k → w.heap[k]? = w0.heap[k]?) → p w) : PreOk w0 ((i, row, p) :: pres) := by
  refine ⟨fun q hq q' hq' k e e' => ?_, fun q hq => ?_, fun q hq => ?_, fun q hq => ?_⟩
  · rcases List.mem_cons.1 hq with hq | hq
    · rcases List.mem_cons.1 hq' with hq' | hq'
      · rw [hq, hq']
      · rw [hq] at e; exact absurd e' (hn q' hq' k e)
    · rcases List.mem_cons.1 hq' with hq' | hq'
      · rw [hq'] at e'; exact absurd e (hn q hq k e')
      · exact h.wr q hq q' hq' k e e'
  · rcases List.mem_cons.1 hq with hq | hq
    · rw [hq]; exact hl
    · exact h.lt q hq
  · rcases List.mem_cons.1 hq with hq | hq
    · rw [hq]; exact hp
    · exact h.at_ q hq
  · rcases List.mem_cons.1 hq with hq | hq
    · rw [hq]; exact hs
    · exact h.stab q hq
def rowsOfP (pres : Pres) : List (Option Nat) := pres.map (·.2.1)
section
variable {P : Program} {ops : Array Oper} {W : World} {pres : Pres} {sps : List Sp} {E : Act → Facts → Prop} {i : Nat} {o : Oper} {rest : List Oper} {s : Sp} {ss : List Sp} {a : Act} {D : Facts}
theorem PreOk.once (h : PreOk W pres) (h1 : (stsOf sps).Nodup) : Once W.drew (rowsOfP pres) pres sps :=
  once_of h1 h.wr (fun q hq k e => ⟨List.mem_map.2 ⟨q, hq, e⟩, h.lt q hq k e⟩) (fun q hq => h.stab q hq _ (Nat.le_refl _) fun _ _ => rfl) (fun q hq w ha => h.stab q hq w ha.size fun k e => ha.same k (h.lt q hq k e) ⟨h.lt q hq k e, .inr e.symm⟩)
def EndP (W : World) (pres : Pres) (sps : List Sp) (Q : Exit → Act → World → Prop) (a : Act) (D : Facts) : Prop := (stsOf sps).Nodup ∧ ∀ w, Far (rowsOfP pres) W w → (∀ q ∈ D, ∃ F, q.2 F w) → Q .normal a w
theorem wp_region_goP {Q : Exit → Act → World → Prop} {id : Nat} {a0 : Act} {l : List Oper} (n : Nat) (pres : Pres) (hp : PreOk W pres) (hm : P.follows .mixedOrders = true) (hac : acyc l.toArray = true) (hap : pairsB l.toArray = true) (hns : noSelB l.toArray = true)
    (h : exSp n fun sps => LxL P l.toArray W.drew (rowsOfP pres) pres sps (EndP W pres sps Q) 0 l sps a0 []) : (Code.region id l.toArray true).wp P Q a0 W := by
  obtain ⟨sps, h1⟩ := exSp_spec n _ h
  obtain ⟨_, _, h2, _⟩ := LxL_leaf _ _ _ _ _ h1
  refine wp_region_lx (rows := rowsOfP pres) (pres := pres) hm hac hap hns (hp.once h2) ?_
  have := Lx_of_list l sps 0 a0 [] (fun k => by simp) (fun k => by simp) (LxL_mono (E' := EndOf W.drew (rowsOfP pres) Q) (fun a D he w hw hq => he.2 w (far_drew hw) hq) _ _ _ _ _ h1)
  simpa using this
theorem lxP_nil {Q : Exit → Act → World → Prop} (h1 : (stsOf sps).Nodup) (h : ∀ w, Far (rowsOfP pres) W w → (∀ q ∈ D, ∃ F, q.2 F w) → Q .normal a w) : LxL P ops W.drew (rowsOfP pres) pres sps (EndP W pres sps Q) i [] [] a D := ⟨h1, h⟩
/- Where no block that was there is written. -/
def End0 (W : World) (sps : List Sp) (Q : Exit → Act → World → Prop) (a : Act) (D : Facts) : Prop := (stsOf sps).Nodup ∧ ∀ w, Below W.heap.size W w → (∀ q ∈ D, ∃ F, q.2 F w) → Q .normal a w
theorem wp_region_go0 {Q : Exit → Act → World → Prop} {id : Nat} {a0 : Act} {l : List Oper} (n : Nat) (hm : P.follows .mixedOrders = true) (hac : acyc l.toArray = true) (hap : pairsB l.toArray = true) (hns : noSelB l.toArray = true)
    (h : exSp n fun sps => LxL P l.toArray W.drew [] [] sps (End0 W sps Q) 0 l sps a0 []) : (Code.region id l.toArray true).wp P Q a0 W := by
  obtain ⟨sps, h1⟩ := exSp_spec n _ h
  obtain ⟨_, _, h2, _⟩ := LxL_leaf _ _ _ _ _ h1
  refine wp_region_lx (rows := []) (pres := []) hm hac hap hns ((PreOk.nil W).once h2) ?_
  have := Lx_of_list l sps 0 a0 [] (fun k => by simp) (fun k => by simp) (LxL_mono (E' := EndOf W.drew [] Q) (fun a D he w hw hq => he.2 w (far_nil hw) hq) _ _ _ _ _ h1)
  simpa using this
theorem lx0_ex (hw : Region.wanted o (yielded ops a.tmps) = true) (h : ∃ V, s = .det (fun _ => V) ∧ (∀ w, Below W.heap.size W w → Have ops [] i D w → Oper.quietUpon P (Below w.heap.size w) w V ((execOp a.eval o).run P w)) ∧ LxL P ops W.drew [] [] sps E (i + 1) rest ss (a.put o.dst V) D) : LxL P ops W.drew [] [] sps E i (o :: rest) (s :: ss) a D := by
  obtain ⟨V, h1, h2, h3⟩ := h
  exact lx_ex hw ⟨V, h1, fun w hw => h2 w (far_nil hw), h3⟩
theorem lx0_pass (hw : Region.wanted o (yielded ops a.tmps) = false) (hs : s = .det fun _ => undef) (h : LxL P ops W.drew [] [] sps E (i + 1) rest ss (a.put o.dst undef) D) : LxL P ops W.drew [] [] sps E i (o :: rest) (s :: ss) a D := lx_pass hw hs h
theorem lx0_nil {Q : Exit → Act → World → Prop} (h1 : (stsOf sps).Nodup) (h : ∀ w, Below W.heap.size W w → (∀ q ∈ D, ∃ F, q.2 F w) → Q .normal a w) : LxL P ops W.drew [] [] sps (End0 W sps Q) i [] [] a D := ⟨h1, h⟩
theorem lx0_new (r : Value → Foot → World → Prop) (hs : s = .new fun _ => r) (hw : Region.wanted o (yielded ops a.tmps) = true) (hst : ∀ v, Stab (r v)) (hc : ∀ w, Below W.heap.size W w → Have ops [] i D w → doesAt P o a w fun u w' => Below w.heap.size w w' ∧ NewR W.drew [] r none w u w')
    (h : ∀ v, LxL P ops W.drew [] [] sps E (i + 1) rest ss (a.put o.dst v) ((i, r v) :: D)) : LxL P ops W.drew [] [] sps E i (o :: rest) (s :: ss) a D := lx_new (fun _ => r) hs hw (fun _ => hst) (fun w hw => hc w (far_nil hw)) h
/-- A value that is handed on; a part of a tuple. -/
theorem lx_move {w0 : World} {rows : List (Option Nat)} {d : Option Tmp} {rt : TypeId} {pos : String} {af : Array Edge} {x : Operand} (hs : s = .det fun ρ => ρ.headD undef) (h : LxL P ops w0 rows pres sps E (i + 1) rest ss (a.put d (a.eval x)) D) :
    LxL P ops w0 rows pres sps E i ({ dst := d, op := .move x, type := rt, pos := pos, after := af, guard := none } :: rest) (s :: ss) a D := by
  subst hs
  unfold LxL
  rw [if_pos (by simp [Region.wanted])]
  have hv : (vals { dst := d, op := .move x, type := rt, pos := pos, after := af, guard := none } a).headD undef = a.eval x := rfl
  exact ⟨fun w hw hh => does_val rfl ⟨hv.symm, Below.refl _ _⟩, fun v hv' => by rw [show v = a.eval x from hv'.trans hv]; exact h⟩
theorem lx_assign {w0 : World} {rows : List (Option Nat)} {d : Option Tmp} {rt : TypeId} {pos : String} {af : Array Edge} {x : Operand} (hs : s = .det fun ρ => ρ.headD undef) (h : LxL P ops w0 rows pres sps E (i + 1) rest ss (a.put d (a.eval x)) D) :
    LxL P ops w0 rows pres sps E i ({ dst := d, op := .assign x, type := rt, pos := pos, after := af, guard := none } :: rest) (s :: ss) a D := by
  subst hs
  unfold LxL
  rw [if_pos (by simp [Region.wanted])]
  have hv : (vals { dst := d, op := .assign x, type := rt, pos := pos, after := af, guard := none } a).headD undef = a.eval x := rfl
  exact ⟨fun w hw hh => does_val rfl ⟨hv.symm, Below.refl _ _⟩, fun v hv' => by rw [show v = a.eval x from hv'.trans hv]; exact h⟩
def extrV (k : Nat) : Value → Value | .tuple xs => xs.getD k undef | _ => undef
theorem lx_extr {w0 : World} {rows : List (Option Nat)} {d : Option Tmp} {rt : TypeId} {pos : String} {af : Array Edge} {x : Operand} {k : Nat} (hs : s = .det fun ρ => extrV k (ρ.headD undef)) (hc : ∀ w, Far rows w0 w → Have ops pres i D w → ∃ xs : Array Value, a.eval x = .tuple xs ∧ k < xs.size) (h : LxL P ops w0 rows pres sps E (i + 1) rest ss (a.put d (extrV k (a.eval x))) D) :
    LxL P ops w0 rows pres sps E i ({ dst := d, op := .extract x k, type := rt, pos := pos, after := af, guard := none } :: rest) (s :: ss) a D := by
  subst hs
  unfold LxL
  rw [if_pos (by simp [Region.wanted])]
  have hv : extrV k ((vals { dst := d, op := .extract x k, type := rt, pos := pos, after := af, guard := none } a).headD undef) = extrV k (a.eval x) := rfl
  refine ⟨fun w hw hh => ?_, fun v hv' => by rw [show v = extrV k (a.eval x) from hv'.trans hv]; exact h⟩
  obtain ⟨xs, hx, hk⟩ := hc w hw hh
  refine does_val (v := extrV k (a.eval x)) ?_ ⟨hv.symm, Below.refl _ _⟩
  unfold execOp
  simp only [hx, Instr.extract, Array.getElem?_eq_getElem hk, Sem.run_bind, Sem.run_pure, Result.andThen_ok]
  simp [extrV, Array.getD, hk]
theorem lx_move' {w0 : World} {rows : List (Option Nat)} {d : Option Tmp} {rt : TypeId} {pos : String} {af : Array Edge} {x : Operand} (hs : s = .det fun ρ => ρ.headD undef) (h : ∃ v, a.eval x = v ∧ LxL P ops w0 rows pres sps E (i + 1) rest ss (a.put d v) D) :
    LxL P ops w0 rows pres sps E i ({ dst := d, op := .move x, type := rt, pos := pos, after := af, guard := none } :: rest) (s :: ss) a D := by
  obtain ⟨_, rfl, h⟩ := h
  exact lx_move hs h
theorem lx_assign' {w0 : World} {rows : List (Option Nat)} {d : Option Tmp} {rt : TypeId} {pos : String} {af : Array Edge} {x : Operand} (hs : s = .det fun ρ => ρ.headD undef) (h : ∃ v, a.eval x = v ∧ LxL P ops w0 rows pres sps E (i + 1) rest ss (a.put d v) D) :
    LxL P ops w0 rows pres sps E i ({ dst := d, op := .assign x, type := rt, pos := pos, after := af, guard := none } :: rest) (s :: ss) a D := by
  obtain ⟨_, rfl, h⟩ := h
  exact lx_assign hs h
theorem lx_extr' {w0 : World} {rows : List (Option Nat)} {d : Option Tmp} {rt : TypeId} {pos : String} {af : Array Edge} {x : Operand} {k : Nat} (hs : s = .det fun ρ => extrV k (ρ.headD undef)) (h : ∃ v, a.eval x = v ∧ (∀ w, Far rows w0 w → Have ops pres i D w → ∃ xs : Array Value, v = .tuple xs ∧ k < xs.size) ∧ LxL P ops w0 rows pres sps E (i + 1) rest ss (a.put d (extrV k v)) D) :
    LxL P ops w0 rows pres sps E i ({ dst := d, op := .extract x k, type := rt, pos := pos, after := af, guard := none } :: rest) (s :: ss) a D := by
  obtain ⟨_, rfl, hc, h⟩ := h
  exact lx_extr hs hc h
theorem lx_st' {w0 : World} {rows : List (Option Nat)} {rt : TypeId} {pos : String} {af : Array Edge} {x y : Operand} (j : Nat) (T : TypeId) (Z : Array Value) (hn : (P.info? T).map (·.size) = some Z.size) (hj : waitsT ops i j = true) (hZ : spAt sps j = .al T Z) (hs : s = .st j T Z.size)
    (h : ∃ vx vy, a.eval x = vx ∧ a.eval y = vy ∧ (j, alP w0.heap.size vx T Z.size) ∈ D ∧ (∀ w, Far rows w0 w → Have ops pres i D w → ∃ cs : Array Value, vy = .agg cs ∧ cs.size = Z.size ∧ cs.all (·.oneCell') = true) ∧ LxL P ops w0 rows pres sps E (i + 1) rest ss a ((i, stP w0.heap.size vx vy T) :: D)) :
    LxL P ops w0 rows pres sps E i ({ dst := none, op := .store T x y, type := rt, pos := pos, after := af, guard := none } :: rest) (s :: ss) a D := by
  obtain ⟨_, _, rfl, rfl, hD, hy, h⟩ := h
  exact lx_st j T Z.size hs hj hn ⟨Z, hZ, rfl⟩ hD hy h
theorem extr2_0 (x y : Value) : extrV 0 (.tuple #[x, y]) = x := rfl
theorem extr2_1 (x y : Value) : extrV 1 (.tuple #[x, y]) = y := rfl
theorem extr3_0 (x y z : Value) : extrV 0 (.tuple #[x, y, z]) = x := rfl
theorem extr3_1 (x y z : Value) : extrV 1 (.tuple #[x, y, z]) = y := rfl
theorem extr3_2 (x y z : Value) : extrV 2 (.tuple #[x, y, z]) = z := rfl
end
theorem stab_pure (p : Value → Prop) (v : Value) : Stab (fun _ _ => p v) := fun _ _ _ _ _ _ h => h
/-- A slice of the call's own. -/
def ownR (B : Nat) (e : TypeId) (size n : Nat) (xs : List Value) (v : Value) (F : Foot) (w : World) : Prop := w.ownsRow B e size v n xs ∧ ∀ k, v.ownBlock = some k → F k
theorem own_same {w w' : World} {B : Nat} {e : TypeId} {size n : Nat} {v : Value} {xs : List Value} (h : w.ownsRow B e size v n xs) (hs : ∀ k, v.ownBlock = some k → w'.heap[k]? = w.heap[k]?) : w'.ownsRow B e size v n xs := by
  refine ⟨h.1, ?_⟩
  rcases h.2 with hn | ⟨g, cap, cur, rfl, hb, hgg, rest⟩
  · exact .inl hn
  · exact .inr ⟨g, cap, cur, rfl, hb, (hs g rfl).trans hgg, rest⟩
theorem own_down {w : World} {B B' : Nat} {e : TypeId} {size n : Nat} {v : Value} {xs : List Value} (h : w.ownsRow B e size v n xs) (hb : B' ≤ B) : w.ownsRow B' e size v n xs := by
  refine ⟨h.1, ?_⟩
  rcases h.2 with hn | ⟨g, cap, cur, rfl, hg, rest⟩
  · exact .inl hn
  · exact .inr ⟨g, cap, cur, rfl, Nat.le_trans hb hg, rest⟩
theorem ownR_stab (B : Nat) (e : TypeId) (size n : Nat) (xs : List Value) (v : Value) : Stab (ownR B e size n xs v) := fun F F' w w' hf ha ⟨h1, h2⟩ =>
  ⟨own_same h1 fun k hk => ha.same k (World.ownsRow.lt h1 k hk).2 (h2 k hk), fun k hk => hf k (h2 k hk)⟩
theorem ownR_new {B : Nat} {e : TypeId} {size n : Nat} {xs : List Value} {v : Value} {w w' : World} {w0 : World} {rows : List (Option Nat)} (hB : B ≤ w.heap.size) (h : w'.ownsRow w.heap.size e size v n xs) : NewR w0 rows (ownR B e size n xs) none w v w' := fun F _ _ h3 =>
  ⟨own_down h hB, fun k hk => h3 k (World.ownsRow.lt h k hk).1 (World.ownsRow.lt h k hk).2⟩
/-- Two slices of unlike elements lie apart. -/
theorem own_ne {w : World} {B B' : Nat} {e e' : TypeId} {size size' n n' : Nat} {v v' : Value} {xs xs' : List Value} (h : w.ownsRow B e size v n xs) (h' : w.ownsRow B' e' size' v' n' xs') (hne : e ≠ e') (k : Nat) (hk : v.ownBlock = some k) : v'.ownBlock ≠ some k := by
  intro hk'
  rcases h.2 with ⟨rfl, _⟩ | ⟨g, cap, cur, rfl, _, hg, _⟩
  · simp [Value.ownBlock] at hk
  · rcases h'.2 with ⟨rfl, _⟩ | ⟨g', cap', cur', rfl, _, hg', _⟩
    · simp [Value.ownBlock] at hk'
    · have e1 : g = k := by simpa [Value.ownBlock] using hk
      have e2 : g' = k := by simpa [Value.ownBlock] using hk'
      rw [e1] at hg
      rw [e2, hg] at hg'
      injection hg' with hg'
      injection hg' with _ ht
      exact hne ht
end Go.Proofs.YtnehabcopjgklaaDoor
/- The walks of layer 11's law: As, knows. Condition: the table of constants is as the program lays it. -/
namespace Go.Proofs.YtnehabcopjgklaaDoor
open Go.RowKit
attribute [local go_sem ↓] ldvI_eq ldvS_eq
set_option maxRecDepth 100000 in
set_option maxHeartbeats 4000000 in
theorem as_calls11 {w : World} {base p : Nat} {vl vm : Value} {es : List DiL} (hs : StoAt w base p vl (es.map (·.st))) (hm : DocSt w vm es) :
    Calls Tryd.prog 9 #[.pointer (some ⟨p, 0, none⟩), .agg #[vm]] w fun e w' => e = .returned (.int .i64 1) ∧ Below w.heap.size w w' := by
  obtain ⟨W1, hW1⟩ : ∃ W1, w.alloc (.cells #[vm] 30) = W1 := ⟨_, rfl⟩
  have s1 : Blk W1 w.heap.size 30 #[vm] := by rw [← hW1]; exact Blk.new _ _ _
  have b1 : Below w.heap.size w W1 := by rw [← hW1]; exact (Below.refl _ _).alloc (Nat.le_refl _) _
  have hsid := fun W (hW : Below W1.heap.size W1 W) => stoIds_calls (hs.below (bthen b1 b1.size hW))
  have hmid := fun W (hW : Below W1.heap.size W1 W) => docIds_calls (hm.below (bthen b1 b1.size hW))
  have hok : ∀ x ∈ (es.map (·.st)).map StL.id, x.length = 32 := fun x hx => by
    obtain ⟨y, hy, rfl⟩ := List.mem_map.1 hx
    exact (hs.ok.ok y hy).1
  have hsm := fun va vb W => refSame02_calls ((es.map (·.st)).map StL.id) hok va vb W
  have hln := fun W (hW : Below W1.heap.size W1 W) => stoLen_calls (hs.below (bthen b1 b1.size hW))
  have hgt := fun (x : DiL) (hx : x ∈ es) W (hW : Below W1.heap.size W1 W) => stoGet_calls (hs.below (bthen b1 b1.size hW)) x.st.id (hm.each x hx).id
  have hgv : ∀ x ∈ es, getV (es.map (·.st)) x.st.id = .tuple #[.string (B x.st.text), .bool true] := fun x hx => by
    unfold getV
    rw [getS_self hs.ok (List.mem_map.2 ⟨x, hx, rfl⟩)]
  have heach := hm.each
  generalize (es.map (·.st)).map StL.id = IL at hsid hmid hsm hok
  have l1 := fun W (hW : Below W1.heap.size W1 W) => run_ldvS (s1.below hW s1.lt)
  rw [List.length_map] at hln
  have hfew := hm.few
  obtain ⟨A, cap, rfl, hcap1, hcap2, hat⟩ := hm.at_
  have c1 : ∀ W, Below W1.heap.size W1 W → W.cell? ⟨w.heap.size, 0, none⟩ = some (.slice A es.length cap) := fun W hW => (s1.below hW s1.lt).cell 0
  clear hs hm
  go_enter Tryd.func9, Tryd.ntmps9
  go_wp2
  refine wp_region_go0 6 (by kernel_rfl) (by kernel_rfl) (by kernel_rfl) (by kernel_rfl) ?_
  simp only [exSp]
  iterate 6 apply Exists.intro
  repeat
    first
      | ((with_reducible apply lx0_ex)
         · (go_simp; done)
         apply Exists.intro
         apply And.intro
         · apply Eq.refl
         apply And.intro
         · intro W hW hD
           first
             | (obtain ⟨F1, o1, _⟩ := hD.at 0 rfl (by kernel_rfl)
                obtain ⟨F2, o2, _⟩ := hD.at 1 rfl (by kernel_rfl)
                have hc := hsm _ _ W (SliceAt.of_own (fun e h => idC_len (hok e h)) o2) (SliceAt.of_own (fun e h => idC_len (hok e h)) o1)
                go_simp
                with_reducible exact hc)
             | (have q0 := l1 W hW
                go_simp
                rfl)
         simp only [Act.put, List.setIfInBounds_toArray, List.set_cons_zero, List.set_cons_succ])
      | ((with_reducible apply lx0_pass)
         · (first | rfl | (go_simp; done))
         · apply Eq.refl
         simp only [Act.put, List.setIfInBounds_toArray, List.set_cons_zero, List.set_cons_succ])
      | ((with_reducible refine lx0_new (ownR W1.heap.size 24 32 IL.length (rowsOf idC IL)) rfl ?_ (ownR_stab _ _ _ _ _) ?_ ?_)
         · (go_simp; done)
         · intro W hW hD
           unfold doesAt Oper.wp execOp
           go_simp
           first
             | (with_reducible refine (hsid W hW).mono ?_)
             | (with_reducible refine (hmid W hW).mono ?_)
           rintro e w' ⟨v, rfl, ho, hb⟩
           exact ⟨hb, ownR_new hW.size ho⟩
         intro v
         simp only [Act.put, List.setIfInBounds_toArray, List.set_cons_zero, List.set_cons_succ])
  refine lx0_nil ?_ fun w5 hW5 hD5 => ?_
  · exact List.nodup_nil
  clear hsid hmid hsm hok l1 hD5
  go_wp2
  refine wp_region_go0 10 (by kernel_rfl) (by kernel_rfl) (by kernel_rfl) (by kernel_rfl) ?_
  simp only [exSp]
  iterate 10 apply Exists.intro
  repeat
    first
      | ((with_reducible apply lx0_ex)
         · (go_simp; done)
         apply Exists.intro
         apply And.intro
         · apply Eq.refl
         apply And.intro
         · intro W hW hD
           have q0 := c1 W (bthen hW5 hW5.size hW)
           have q1 := (hln W (bthen hW5 hW5.size hW)).mono fun e w' (h : e = .returned (.int .i64 es.length) ∧ w' = W) => (⟨h.1, h.2 ▸ Below.refl _ _⟩ : e = .returned (.int .i64 es.length) ∧ Below W.heap.size W w')
           go_simp
           first
             | rfl
             | (with_reducible exact q1)
         simp only [Act.put, List.setIfInBounds_toArray, List.set_cons_zero, List.set_cons_succ])
      | ((with_reducible apply lx0_pass)
         · (first | rfl | (go_simp; done))
         · apply Eq.refl
         simp only [Act.put, List.setIfInBounds_toArray, List.set_cons_zero, List.set_cons_succ])
  refine lx0_nil ?_ fun w6 hW6 hD6 => ?_
  · exact List.nodup_nil
  clear hln hD6
  have b6 := bthen b1 b1.size (bthen hW5 hW5.size hW6)
  have b16 := bthen hW5 hW5.size hW6
  go_wp2
  go_loopw [6] (fun i wr => ∃ k : Nat, i = .int .i64 k ∧ k ≤ es.length ∧ Below W1.heap.size W1 wr) (fun i _ => es.length - (intOf i).toNat)
  case atStart => exact ⟨0, rfl, by omega, b16⟩
  case round =>
    obtain ⟨k, rfl, hk, hbel⟩ := hrel
    have c2 := c1 _ hbel
    by_cases hlt : k < es.length
    · have hki : (k : Int) < (es.length : Int) := by omega
      obtain ⟨ga, oa, rfl, hga, hca⟩ := hat (by omega)
      obtain ⟨x, hx⟩ : ∃ x, es[k]? = some x := ⟨_, List.getElem?_eq_getElem hlt⟩
      have hxm := List.mem_of_getElem? hx
      have hxi := (heach x hxm).id
      have hbr := bthen b1 b1.size hbel
      have hxr := rangeAt_below (hca k x hx) hga hbr
      have ldx := run_ldvI_at (dit_id hxr) hxi
      have hg := hgt x hxm _ hbel
      rw [hgv x hxm] at hg
      have hg := Lib.hid hg
      have htx := fun W (hW : Below W1.heap.size W1 W) => dit_text (rangeAt_below (hca k x hx) hga (bthen b1 b1.size hW)) hxi
      clear hx hat hca heach hgt hgv hxm hxr
      go_wp2_with (first
        | ((with_reducible refine hg.out.mono ?_); rintro e w2 ⟨rfl, hb2⟩
           have b2 := bthen hbel hbel.size hb2
           have t2 := htx _ b2
           have c3 := c1 _ b2))
      all_goals try (exfalso; omega)
      go_roundw
      case rel => exact ⟨k + 1, by go_num, by omega, b2⟩
      case measure => simp [intOf]; omega
    · have hki : ¬ (k : Int) < (es.length : Int) := by omega
      clear hat heach hgt hgv
      go_wp2
      go_ret
      exact ⟨rfl, bthen b1 b1.size hbel⟩
end Go.Proofs.YtnehabcopjgklaaDoor
/- Layer 11's document: which blocks a store uses; what leaves it as it was. No condition. -/
namespace Go.Proofs.YtnehabcopjgklaaDoor
open Go.RowKit
def DocUse (vm : Value) (es : List DiL) (k : Nat) : Prop := vm.ownBlock = some k ∨ ∃ e ∈ es, e.ve.ownBlock = some k ∨ e.vp.ownBlock = some k
section
variable {w w' : World} {vm vm' : Value} {es es' : List DiL} {k g B : Nat}
theorem DocSt.lt (h : DocSt w vm es) (hk : DocUse vm es k) : k < w.heap.size := by
  rcases hk with hk | ⟨e, he, hk | hk⟩
  · exact (World.ownsRow.lt h.own k hk).2
  · exact (World.ownsRow.lt (h.each e he).oe k hk).2
  · exact (World.ownsRow.lt (h.each e he).op k hk).2
theorem DocSt.same (h : DocSt w vm es) (hs : ∀ k, DocUse vm es k → w'.heap[k]? = w.heap[k]?) : DocSt w' vm es :=
  ⟨own_same h.own fun k hk => hs k (.inl hk), fun e he => ⟨(h.each e he).dec, (h.each e he).id, (h.each e he).ok, own_same (h.each e he).oe fun k hk => hs k (.inr ⟨e, he, .inl hk⟩), own_same (h.each e he).op fun k hk => hs k (.inr ⟨e, he, .inr hk⟩)⟩, h.ok⟩
theorem DocSt.far {S : List (Option Nat)} (h : DocSt w vm es) (hf : Far S w w') (hn : ∀ k, some k ∈ S → ¬ DocUse vm es k) : DocSt w' vm es := h.same fun k hk => hf.block k (h.lt hk) fun e => hn k e hk
theorem DocSt.grown {row : Option Nat} (h : DocSt w vm es) (hf : w.grownBy w' row) (hn : ∀ k, row = some k → ¬ DocUse vm es k) : DocSt w' vm es := h.same fun k hk => hf.block k (h.lt hk) fun e => hn k e.symm hk
theorem DocSt.blk_ne {T : TypeId} {cs : Array Value} (h : DocSt w vm es) (hb : Blk w g T cs) (h1 : 57 ≠ T) (h2 : 76 ≠ T) (h3 : 24 ≠ T) : ¬ DocUse vm es g := by
  rintro (hk | ⟨e, he, hk | hk⟩)
  · exact own_blk_ne h.own hb h1 hk.symm
  · exact own_blk_ne (h.each e he).oe hb h2 hk.symm
  · exact own_blk_ne (h.each e he).op hb h3 hk.symm
theorem DocSt.row (h : DocSt w vm es) (hn : ¬ DocUse vm es g) (cs : Array Value) : DocSt (w.setRow g cs) vm es := h.same fun k hk => setRow_other _ _ _ _ fun e => hn (e ▸ hk)
/-- A slice of ids lies apart from a store. -/
def Apart (v vm : Value) (es : List DiL) : Prop := ∀ k, v.ownBlock = some k → ¬ DocUse vm es k
theorem Apart.with_ {v : Value} {ids : List Txt} (h : Apart v vm es) (hv : OwnIds w B v ids) (hv' : OwnIds w' B v ids) (hd : DocSt w' vm' es') (ho : ∀ e ∈ es', OldOr w.heap.size es e) : Apart v vm' es' := by
  intro k hk hu
  have hlt := (World.ownsRow.lt hv k hk).2
  rcases hu with hu | ⟨e, he, hu⟩
  · exact own_ne hv' hd.own (by decide) k hk hu
  · rcases ho e he with h1 | ⟨h1, h2⟩
    · exact h k hk (.inr ⟨e, h1, hu⟩)
    · rcases hu with hu | hu
      · have := h1 k hu; omega
      · have := h2 k hu; omega
theorem Apart.newer {v v' : Value} (h : Apart v vm es) (hd : DocSt w vm es) (hn : Newer w v v') : Apart v' vm es := by
  intro k hk hu
  rcases hn with hn | hn
  · exact h k (hn ▸ hk) hu
  · have := hn k hk
    have := hd.lt hu
    omega
end
theorem putS_len (s : List StL) (t : Txt) : (putS s t).length ≤ s.length + 1 := by
  unfold putS
  split
  · omega
  · split
    · omega
    · rename_i hh
      rw [putS_eq s (by simpa using hh)]
      exact putK_len
end Go.Proofs.YtnehabcopjgklaaDoor
/- The walks of layer 11's law: knows, Of. Condition: the table of constants is as the program lays it. -/
namespace Go.Proofs.YtnehabcopjgklaaDoor
open Go.RowKit
attribute [local go_sem ↓] ldvI_eq ldvS_eq
def knT : Txt := [1, 2, 104, 105]
theorem kn_dec11 : ∃ o, decO knT = some o ∧ o.kind = 1 := ⟨_, rfl, rfl⟩
theorem kn_none : decO [120] = none := rfl
set_option maxRecDepth 100000 in
set_option maxHeartbeats 4000000 in
theorem knows_calls11 (w : World) (hK : TabK w) : Calls Tryd.prog 6 #[] w fun e w' => e = .returned (.bool true) ∧ Below w.heap.size w w' := by
  obtain ⟨o, ho, hok⟩ := kn_dec11
  have hI : StIs ⟨shaOf knT, knT⟩ := ⟨rfl, o, ho⟩
  have hp1 : putS [] knT = [⟨shaOf knT, knT⟩] := by rw [show knT = (StL.text ⟨shaOf knT, knT⟩) from rfl, hI.putS]; rfl
  have hp2 : ∀ s, putS s [120] = s := fun s => by unfold putS; rw [kn_none]
  have hi1 : putI knT = shaOf knT := hI.putI
  have hc1 : putC knT = 0 := hI.putC
  have hi2 : putI [120] = noId := by unfold putI; rw [kn_none]; rfl
  have hc2 : putC [120] = 2 := by unfold putC; rw [kn_none]
  have hk1 : kindS [⟨shaOf knT, knT⟩] (shaOf knT) = 1 := by
    unfold kindS
    rw [show getS [⟨shaOf knT, knT⟩] (shaOf knT) = some ⟨shaOf knT, knT⟩ by unfold getS; rw [List.find?_cons]; simp]
    simp only [ho, hok]
  have hnw := Lib.hid (stoNew_calls w)
  have hP1 := fun W p vl (hK : TabK W) (h : StoAt W w.heap.size p vl []) (hB : w.heap.size ≤ W.heap.size) => stoPut_calls hB h knT (by decide) hK (by simp)
  have hP2 := fun W p vl s (hK : TabK W) (h : StoAt W w.heap.size p vl s) (hB : w.heap.size ≤ W.heap.size) (hs : s.length < 500000) => stoPut_calls hB h [120] (by decide) hK hs
  rw [hp1, hi1, hc1] at hP1
  simp only [hp2, hi2, hc2] at hP2
  have hl32 := shaOf_length knT
  have hsum := fun W => refSum_calls knT W (by decide)
  have hzI := zeroIdV
  have hZ32 : (u8s noId).size = 32 := by rw [u8s_size, noId_len]
  have hn1 := u8s_one noId
  have hs32 : (u8s (shaOf knT)).size = 32 := by rw [u8s_size, hl32]
  have hs1 := u8s_one (shaOf knT)
  obtain ⟨SH, hSH⟩ : ∃ SH, shaOf knT = SH := ⟨_, rfl⟩
  rw [hSH] at hP1 hk1 hl32 hsum hs32 hs1
  have hkn : knT = [1, 2, 104, 105] := rfl
  rw [hkn] at hP1 hk1 hsum
  have hP1 : ∀ W p vl, TabK W → StoAt W w.heap.size p vl [] → w.heap.size ≤ W.heap.size → Calls Tryd.prog 7 #[.pointer (some ⟨p, 0, none⟩), .string ⟨#[1, 2, 104, 105]⟩] W fun e w' => e = .returned (.tuple #[.agg (u8s SH), .int .i64 0]) ∧ PutAt W w.heap.size p vl [⟨SH, [1, 2, 104, 105]⟩] w' := fun W p vl a b c => hP1 W p vl a b c
  have hP2 : ∀ W p vl s, TabK W → StoAt W w.heap.size p vl s → w.heap.size ≤ W.heap.size → s.length < 500000 → Calls Tryd.prog 7 #[.pointer (some ⟨p, 0, none⟩), .string ⟨#[120]⟩] W fun e w' => e = .returned (.tuple #[.agg (u8s noId), .int .i64 2]) ∧ PutAt W w.heap.size p vl s w' := fun W p vl s a b c d => hP2 W p vl s a b c d
  have hsum : ∀ W, Calls Tryd.prog 23 #[.string ⟨#[1, 2, 104, 105]⟩] W fun e w' => e = .returned (.agg (u8s SH)) ∧ Below W.heap.size W w' := hsum
  clear hp1 hp2 hi1 hc1 hi2 hc2 hI ho hok hSH hkn
  go_enter Tryd.func6, Tryd.ntmps6
  go_upto_region 6 with (first
    | ((with_reducible refine hnw.out.mono ?_); rintro e w1 ⟨rfl, s1, b1⟩
       have k1 := hK.below b1)
    | ((with_reducible refine (hP1 _ _ _ k1 s1 b1.size).mono ?_); rintro e w2 ⟨rfl, vl2, s2, f2, n2⟩
       have hvl0 : ∀ k, (Value.slice none 0 0).ownBlock = some k → w.heap.size ≤ k := fun k hk => by simp [Value.ownBlock] at hk
       have b2 : Below w.heap.size w w2 := b1.trans (f2.below b1.size (fun k hk => by
         simp only [List.mem_cons, List.not_mem_nil, or_false] at hk
         rcases hk with hk | hk
         · injection hk with hk; omega
         · exact hvl0 k hk.symm)))
    | ((with_reducible refine lit_new 24 (.tmp 2) (.tmp 12) (u8s SH) 32 sz32 hs32 hs1 _ ?_ ?_ ?_ ?_)
       · first | exact hZ32 | rfl
       · rfl
       · rfl
       intro W3 i3 hbl3
       have b3 := bthen b2 b2.size hbl3
       have s3 := s2.below hbl3
       have k3 := hK.below b3)
    | ((with_reducible refine (hP2 _ _ _ _ k3 s3 b3.size (by simp)).mono ?_); rintro e w4 ⟨rfl, vl4, s4, f4, n4⟩
       have hS4 : ∀ k, some k ∈ [some w.heap.size, vl2.ownBlock] → w.heap.size ≤ k := fun k hk => by
         simp only [List.mem_cons, List.not_mem_nil, or_false] at hk
         rcases hk with hk | hk
         · injection hk with hk; omega
         · exact (World.ownsRow.lt s3.own k hk.symm).1
       have b4 : Below w.heap.size w w4 := b3.trans (f4.below b3.size hS4)
       have i4 : Blk w4 w2.heap.size 24 (u8s SH) := f4.blk i3 (by
         simp only [List.mem_cons, List.not_mem_nil, or_false, not_or]
         refine ⟨fun e => ?_, own_blk_ne s3.own i3 (by decide)⟩
         injection e with e
         exact Blk.ne_ (e ▸ i3) s3.blk (by decide) rfl))
    | ((with_reducible refine lit_new 24 (.tmp 4) (.tmp 17) (u8s noId) 32 sz32 hZ32 hn1 _ ?_ ?_ ?_ ?_)
       · first | exact hZ32 | rfl
       · rfl
       · rfl
       intro W5 i5 hbl5
       have b5 := bthen b4 b4.size hbl5
       have s5 := s4.below hbl5
       have i55 := i4.below hbl5 i4.lt))
  all_goals try (exfalso; omega)
  have hid := fun W (hW : Below W5.heap.size W5 W) => run_ldvI_at (range_blk (i55.below hW i55.lt)) hl32
  have hkd := fun W (hW : Below W5.heap.size W5 W) => stoKind_calls (s5.below hW) SH hl32
  rw [hk1] at hkd
  have hln := fun W (hW : Below W5.heap.size W5 W) => (stoLen_calls (s5.below hW)).mono fun e w' (h : e = .returned (.int .i64 1) ∧ w' = W) => (⟨h.1, h.2 ▸ Below.refl _ _⟩ : e = .returned (.int .i64 1) ∧ Below W.heap.size W w')
  have heq := fun W => run_eql_id W SH SH hl32 hl32
  simp only [decide_true] at heq
  clear hP1 hP2 hnw hk1
  go_wp2
  refine wp_region_go0 23 (by kernel_rfl) (by kernel_rfl) (by kernel_rfl) (by kernel_rfl) ?_
  simp only [exSp]
  iterate 23 apply Exists.intro
  repeat
    first
      | ((with_reducible apply lx0_ex)
         · (go_simp; done)
         apply Exists.intro
         apply And.intro
         · apply Eq.refl
         apply And.intro
         · intro W hW hD
           have q0 := hid W hW
           have q1 := hsum W
           have q2 := hkd W hW
           have q3 := hln W hW
           have q4 := heq W
           go_simp
           first
             | rfl
             | (with_reducible exact q1)
             | (with_reducible exact q2)
             | (with_reducible exact q3)
         simp only [Act.put, List.setIfInBounds_toArray, List.set_cons_zero, List.set_cons_succ])
      | ((with_reducible apply lx0_pass)
         · (first | rfl | (go_simp; done))
         · apply Eq.refl
         simp only [Act.put, List.setIfInBounds_toArray, List.set_cons_zero, List.set_cons_succ])
  refine lx0_nil ?_ fun w6 hW6 hD6 => ?_
  · exact List.nodup_nil
  go_wp2
  go_ret
  exact ⟨rfl, bthen b5 b5.size hW6⟩
/-- A store that is put together out of the document's. -/
def OfR (w : World) (L : List StL) (e : Ending) (w' : World) : Prop := ∃ p vl, e = .returned (.pointer (some ⟨p, 0, none⟩)) ∧ w.heap.size ≤ p ∧ StoAt w' w.heap.size p vl L
set_option maxRecDepth 100000 in
set_option maxHeartbeats 8000000 in
theorem of_calls11 {w : World} {vm : Value} {es : List DiL} (hm : DocSt w vm es) (hf : es.length < 490000) (hK : TabK w) :
    Calls Tryd.prog 19 #[.agg #[vm]] w fun e w' => OfR w (es.map (·.st)) e w' ∧ Below w.heap.size w w' := by
  obtain ⟨W1, hW1⟩ : ∃ W1, w.alloc (.cells #[vm] 30) = W1 := ⟨_, rfl⟩
  have s1 : Blk W1 w.heap.size 30 #[vm] := by rw [← hW1]; exact Blk.new _ _ _
  have b1 : Below w.heap.size w W1 := by rw [← hW1]; exact (Below.refl _ _).alloc (Nat.le_refl _) _
  have hlt0 := s1.lt
  have hnw := Lib.hid (stoNew_calls W1)
  have hzI := zeroIdV
  have hZ32 : (u8s noId).size = 32 := by rw [u8s_size, noId_len]
  have hok := hm.ok
  have heach := hm.each
  have hmat := hm.at_
  obtain ⟨L, hL⟩ : ∃ L, es.map (·.st) = L := ⟨_, rfl⟩
  have hLl : L.length = es.length := by rw [← hL, List.length_map]
  rw [hL] at hok
  have hLk : ∀ (k : Nat) (x : DiL), es[k]? = some x → L[k]? = some x.st := fun k x hx => by rw [← hL, List.getElem?_map, hx]; rfl
  rw [hL]
  have hLl := Lib.hid hLl
  have hLk := Lib.hid hLk
  obtain ⟨A, cap, rfl, hcap1, hcap2, hat⟩ := hmat
  clear hL
  go_enter Tryd.func19, Tryd.ntmps19
  go_wp2_with (first
    | ((with_reducible refine hnw.out.mono ?_); rintro e w2 ⟨rfl, s2, b12⟩))
  have hpl : W1.heap.size < w2.heap.size := s2.lt
  go_loopw [4] (fun vi wr => ∃ (k : Nat) (vl : Value), vi = .int .i64 k ∧ k ≤ es.length ∧ StoAt wr W1.heap.size W1.heap.size vl (L.take k) ∧ Below W1.heap.size W1 wr) (fun vi _ => es.length - (intOf vi).toNat)
  case atStart => exact ⟨0, _, rfl, by omega, by rw [List.take_zero]; exact s2, b12⟩
  case round =>
    obtain ⟨k, vl, rfl, hk, hS, hbel⟩ := hrel
    have hbr := bthen b1 b1.size hbel
    have cr : wr.cell? ⟨w.heap.size, 0, none⟩ = some (.slice A es.length cap) := (s1.below hbel hlt0).cell 0
    by_cases hlt : k < es.length
    · have hki : (k : Int) < (es.length : Int) := by omega
      obtain ⟨ga, oa, rfl, hga, hca⟩ := hat (by omega)
      obtain ⟨x, hx⟩ : ∃ x, es[k]? = some x := ⟨_, List.getElem?_eq_getElem hlt⟩
      have hxm := List.mem_of_getElem? hx
      have hxo := heach x hxm
      have hxi := hxo.id
      have hLx := hLk.out k x hx
      have hIs := hok.each x.st (List.mem_of_getElem? hLx)
      have htx := dit_text (rangeAt_below (hca k x hx) hga hbr) hxi
      have hKr := hK.below hbr
      have htl := (decO_len hxo.dec).2
      have htk : (L.take k).length < 500000 := by have := hLl.out; rw [List.length_take]; omega
      have hpt := stoPut_calls hbel.size hS x.st.text (by omega) hKr htk
      rw [hIs.putI, hIs.putC, putS_rise hok hLx] at hpt
      have hpt := Lib.hid hpt
      have hid32 : (u8s x.st.id).size = 32 := by rw [u8s_size, hxi]
      have hid1 := u8s_one x.st.id
      have heq := fun W => run_neq_id W x.st.id x.st.id hxi hxi
      simp only [decide_true, Bool.not_true] at heq
      have hxr := dit_id (hca k x hx)
      clear hx hat hca heach hLx hIs htk hLk hxo hxm
      go_upto_region 8 with (first
        | ((with_reducible refine hpt.out.mono ?_); rintro e w3 ⟨rfl, vl3, s3, f3, n3⟩
           have hS3 : ∀ k, some k ∈ [some W1.heap.size, vl.ownBlock] → W1.heap.size ≤ k := fun k hk => by
             simp only [List.mem_cons, List.not_mem_nil, or_false] at hk
             rcases hk with hk | hk
             · injection hk with hk; omega
             · exact (World.ownsRow.lt hS.own k hk.symm).1
           have b3 : Below W1.heap.size W1 w3 := hbel.trans (f3.below hbel.size hS3))
        | ((with_reducible refine lit_new 24 (.tmp 5) (.tmp 26) (u8s x.st.id) 32 sz32 hid32 hid1 _ ?_ ?_ ?_ ?_)
           · first | exact hZ32 | rfl
           · rfl
           · rfl
           intro W4 i4 hbl4
           have b4 := bthen b3 b3.size hbl4
           have s4 := s3.below hbl4))
      have fI := fun W (hW : Below W4.heap.size W4 W) => run_ldvI_at (range_blk (i4.below hW i4.lt)) hxi
      have fX := fun W (hW : Below W4.heap.size W4 W) => run_ldvI_at (rangeAt_below hxr hga (bthen b1 b1.size (bthen b4 b4.size hW))) hxi
      have fC : ∀ W, Below W4.heap.size W4 W → W.cell? ⟨w.heap.size, 0, none⟩ = some (.slice (some ⟨ga, oa, none⟩) es.length cap) := fun W hW => (s1.below (bthen b4 b4.size hW) hlt0).cell 0
      go_wp2
      refine wp_region_go0 12 (by kernel_rfl) (by kernel_rfl) (by kernel_rfl) (by kernel_rfl) ?_
      simp only [exSp]
      iterate 12 apply Exists.intro
      repeat
        first
          | ((with_reducible apply lx0_ex)
             · (go_simp; done)
             apply Exists.intro
             apply And.intro
             · apply Eq.refl
             apply And.intro
             · intro W hW hD
               have q0 := fI W hW
               have q1 := fX W hW
               have q2 := fC W hW
               have q4 := heq W
               go_simp
               rfl
             simp only [Act.put, List.setIfInBounds_toArray, List.set_cons_zero, List.set_cons_succ])
          | ((with_reducible apply lx0_pass)
             · (first | rfl | (go_simp; done))
             · apply Eq.refl
             simp only [Act.put, List.setIfInBounds_toArray, List.set_cons_zero, List.set_cons_succ])
      refine lx0_nil ?_ fun w5 hW5 hD5 => ?_
      · exact List.nodup_nil
      have b5 := bthen b4 b4.size hW5
      have s5 := s4.below hW5
      go_wp2
      go_roundw
      case rel => exact ⟨k + 1, _, by go_num, by omega, s5, b5⟩
      case measure => simp [intOf]; omega
    · have hki : ¬ (k : Int) < (es.length : Int) := by omega
      obtain rfl : k = es.length := by omega
      rw [← hLl.out, List.take_length] at hS
      clear hat heach hLk
      go_wp2
      go_ret
      exact ⟨⟨_, vl, rfl, Nat.le_of_lt hlt0, hS.blk, own_down hS.own (Nat.le_of_lt hlt0), hS.ok⟩, hbr⟩
end Go.Proofs.YtnehabcopjgklaaDoor
/- Arguments that are slices of structs, in the walk's words. No condition; no program. -/
namespace Go.Proofs.YtnehabcopjgklaaDoor
open Go.ChangeShapes Go.WideShapes Go.ChangeAt Go.RowKit
section
variable {H : Type} {enc : TypeId × Value → H} {P : Program} {w : World} {base : Nat} {sp : Nat → Bool} {held : Bool}
open Go.Deep in
theorem open_elems {α : Type} (en : α → List Value) (k : Nat) (hk0 : 0 < k) (Ok : α → Prop) {t e : TypeId} {fuel : Nat} {v : Value} {x : DataW H × List MemPlace} (ht : P.underlying t = some (.slice e)) (hk : P.cellsOf e = k)
    (hen : ∀ y, Ok y → (en y).length = k) (key : ∀ fuel cs x, DataW.trod enc P w base sp held fuel e cs = some x → cs.length = k → ∃ y : α, cs = en y ∧ Ok y) (h : DataW.trod enc P w base sp held fuel t [v] = some x) :
    ∃ l : List α, SliceAt w k en v l ∧ ∀ y ∈ l, Ok y := by
  rcases open_slice ht h with ⟨h0, _⟩ | ⟨a, len, cap, m, n, D, Pl, hcs, hb, hl, hm, hmm, hx, hi⟩
  · injection h0 with h0
    subst h0
    exact ⟨[], SliceAt.nil, fun y hy => by simp at hy⟩
  · injection hcs with hcs
    subst hcs
    have hlm : len ≤ m := by rw [hmm]; split <;> omega
    have per : ∀ i, i < len → ∃ y : α, (∀ j u, (en y)[j]? = some u → w.cell? ((a.add (i * k)).add j) = some u) ∧ Ok y := by
      intro i hil
      obtain ⟨cs', hc, ht'⟩ := hi i (by omega)
      rw [hk] at hc
      obtain ⟨_, hcl, hat⟩ := World.cells?_some hc
      obtain ⟨y, rfl, hok⟩ := key _ _ _ ht' hcl
      refine ⟨y, fun j u hu => ?_, hok⟩
      have hj := (List.getElem?_eq_some_iff.1 hu).1
      rw [hat j (by omega)]
      exact hu
    obtain ⟨l, hll, hp⟩ := list_of len _ per
    subst hll
    have hcm : cap ≤ 9223372036854775807 := by unfold maxLen at hm; omega
    refine ⟨l, ⟨some a, cap, rfl, hl, hcm, fun h0 => ?_⟩, fun y hy => ?_⟩
    · have hy0 := (hp 0 h0).1
      have hlen0 := hen _ (hp 0 h0).2
      have hc0 := hy0 0 _ (List.getElem?_eq_getElem (by omega))
      simp only [Nat.zero_mul] at hc0
      have e00 : (a.add 0).add 0 = a := by simp [Addr.add]
      rw [e00] at hc0
      obtain ⟨ha, hlt⟩ := addr_form hc0
      refine ⟨a.block, a.off, by rw [← ha], hlt, fun i y hy j u hu => ?_⟩
      obtain ⟨hi', he⟩ := List.getElem?_eq_some_iff.1 hy
      have hc := (hp i hi').1 j u (by rw [he]; exact hu)
      rw [ha] at hc
      simp only [addr_add] at hc
      exact hc
    · obtain ⟨i, hi', rfl⟩ := List.getElem_of_mem hy
      exact (hp i hi').2
end
end Go.Proofs.YtnehabcopjgklaaDoor
/- An argument that is an array of bytes, in the walk's words. No condition. -/
namespace Go.Proofs.YtnehabcopjgklaaDoor
open Go.ChangeShapes Go.WideShapes Go.ChangeAt Go.RowKit
theorem trod_bytes {H : Type} {enc : TypeId × Value → H} {P : Program} {w : World} {base : Nat} {sp : Nat → Bool} {held : Bool} {fuel : Nat} {t e : TypeId} {n : Nat} {cs : List Value} {x : DataW H × List MemPlace}
    (ht : P.underlying t = some (.array n e)) (he : P.underlying e = some (.int .u8)) (hce : P.cellsOf e = 1) (hct : P.cellsOf t = n)
    (h : DataW.trod enc P w base sp held fuel t cs = some x) : ∃ l : List UInt8, l.length = n ∧ cs = l.map u8v := by
  cases fuel with
  | zero => simp [DataW.trod] at h
  | succ fuel =>
    simp only [DataW.trod, ht, hce, hct, Nat.mul_one] at h
    split at h
    · rename_i hl
      obtain ⟨xs, hm, _⟩ := Option.map_eq_some_iff.1 h
      have key : ∀ i, i < n → ∃ c : UInt8, cs[i]? = some (u8v c) := by
        intro i hi
        obtain ⟨b, _, hf⟩ := Lib.mapM_at hm i i (by simp [hi])
        obtain ⟨z, hc, _, hw⟩ := DataW.trod_int he hf
        have h1 : cs[i]? = some (.int .u8 z) := by
          have := congrArg (·[0]?) hc
          simpa [List.getElem?_take, List.getElem?_drop] using this
        have hb := bounds_u8 hw
        refine ⟨UInt8.ofNat z.toNat, ?_⟩
        rw [h1, u8v, ofNat_toNat_u8 _ (by omega), Int.toNat_of_nonneg hb.1]
      obtain ⟨l, hll, hp⟩ := list_of n (fun i c => cs[i]? = some (u8v c)) key
      refine ⟨l, hll, List.ext_getElem? fun i => ?_⟩
      rcases Nat.lt_or_ge i n with hi | hi
      · rw [hp i (by omega), List.getElem?_map, List.getElem?_eq_getElem (show i < l.length by omega)]
        rfl
      · rw [List.getElem?_eq_none (by omega), List.getElem?_eq_none (by simp; omega)]
    · cases h
set_option maxRecDepth 100000 in
/-- What an argument of type Id is. -/
theorem open_id {H : Type} {enc : TypeId × Value → H} {w : World} {base : Nat} {v : Value} {d : DataW H} {p : List MemPlace}
    (hv : Value.okWide Tryd.prog w .any base 24 v) (h : DataW.Trod enc Tryd.prog w 0 (fun _ => true) true 24 v d p) :
    ∃ l : List UInt8, l.length = 32 ∧ v = .agg (u8s l) := by
  simp only [Value.okWide, Tryd.underlying24] at hv
  obtain ⟨cs, rfl, _, _⟩ := hv
  obtain ⟨fuel, hf⟩ := h
  obtain ⟨l, hl, hc⟩ := trod_bytes Tryd.underlying24 Tryd.underlying5 (by kernel_rfl) (by kernel_rfl) hf
  refine ⟨l, hl, ?_⟩
  congr 1
  apply Array.ext'
  simpa [u8s, Value.cells] using hc
end Go.Proofs.YtnehabcopjgklaaDoor
