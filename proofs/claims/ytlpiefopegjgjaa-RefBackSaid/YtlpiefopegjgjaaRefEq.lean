/- == and != on refs; the walk of layer 9's reference: Same. No condition. -/
import Derived.Test.YtlpiefopegjgjaaRefZ
import Derived.Laws.StructEq
namespace Go.Proofs.Ytlpiefopegjgjaa
open Go.RowKit
theorem refFields : ∃ f0 f1, (Try.prog.fieldsOf 54).toList = [f0, f1] ∧ f0.name = "Name" ∧ f0.type = 9 ∧ f0.offset = 0 ∧ f1.name = "Id" ∧ f1.type = 37 ∧ f1.offset = 1 := by
  have h : (Try.prog.fieldsOf 54).toList.map (fun f => (f.name, f.type, f.offset)) = [("Name", 9, 0), ("Id", 37, 1)] := by kernel_rfl
  generalize (Try.prog.fieldsOf 54).toList = fs at h
  cases fs with
  | nil => simp at h
  | cons f0 fs =>
    cases fs with
    | nil => simp at h
    | cons f1 fs =>
      cases fs with
      | nil =>
        simp only [List.map_cons, List.map_nil, List.cons.injEq, Prod.mk.injEq, and_true] at h
        exact ⟨f0, f1, rfl, h.1.1, h.1.2.1, h.1.2.2, h.2.1, h.2.2.1, h.2.2.2⟩
      | cons f2 fs => simp at h
theorem run_part_rname (r : RefL) (w : World) : (part 9 (refC r).toArray 0).run Try.prog w = .ok (.string (B r.name)) w :=
  run_part_plain w (by kernel_rfl) rfl
theorem run_part_rid (r : RefL) (hr : RefOk r) (w : World) : (part 37 (refC r).toArray 1).run Try.prog w = .ok (.agg (u8s r.id)) w := by
  have hs := sz32
  cases hi : Try.prog.info? 37 with
  | none => rw [hi] at hs; cases hs
  | some i =>
    rw [hi] at hs
    have hs : i.size = 32 := by simpa using hs
    have hu := run_underlying (w := w) Try.underlying37
    have he : (List.take 32 (refC r).tail).toArray = u8s r.id := by
      have h32 := hr.1
      show (List.take 32 (r.id.map u8v)).toArray = _
      rw [List.take_of_length_le (by simp; omega)]
      rfl
    simp [part, hu, sizeOf, typeInfo, hi, hs, he]
theorem RefL.ext_iff' (a b : RefL) : a = b ↔ a.name = b.name ∧ a.id = b.id := by
  cases a; cases b; simp
instance : DecidableEq RefL := fun a b => decidable_of_iff _ (RefL.ext_iff' a b).symm
theorem run_equalIn_ref (a b : RefL) (ha : RefOk a) (hb : RefOk b) (w : World) : (Op.equalIn 10000 54 (.agg (refC a).toArray) (.agg (refC b).toArray)).run Try.prog w = .ok (decide (a = b)) w := by
  obtain ⟨f0, f1, hf, n0, t0, o0, n1, t1, o1⟩ := refFields
  rw [run_equalIn_agg w 9999 _ _ _ (by kernel_rfl) (by kernel_rfl), hf]
  have h1 := run_equalIn_string (P := Try.prog) w 9998 9 (B a.name) (B b.name) Try.underlying9
  have h2 := run_equalIn_bytes w 9997 Try.underlying37 (by kernel_rfl) Try.underlying5 (by kernel_rfl) (Option.isSome_iff_exists.1 (by kernel_rfl)) a.id b.id ha.1 hb.1
  simp only [Op.eqFields, n0, t0, o0, n1, t1, o1, Sem.run_bind, run_part_rname, run_part_rid a ha, run_part_rid b hb, Result.andThen_ok]
  simp only [h1, h2, toList_B, Result.andThen_ok, ne_eq, reduceCtorEq, not_false_eq_true, if_true, Sem.run_ite, Sem.run_bind, Sem.run_pure, run_part_rname, run_part_rid a ha, run_part_rid b hb]
  have e1 : ("Name" = "_") = False := eq_false (by decide)
  have e2 : ("Id" = "_") = False := eq_false (by decide)
  simp only [e1, e2, not_false_eq_true, if_true]
  by_cases hn : a.name = b.name
  · by_cases hi : a.id = b.id
    · have : a = b := (RefL.ext_iff' a b).2 ⟨hn, hi⟩
      subst this
      simp
    · have : ¬ a = b := fun h => hi (by rw [h])
      simp [hn, hi, this]
  · have : ¬ a = b := fun h => hn (by rw [h])
    simp [hn, this]
theorem quiet_neq_ref {C : World → Prop} {W : World} {a : Act} {d : Option Tmp} {rt t' : TypeId} {pos : String} {af : Array Edge} {gd : Option (Nat × Bool)} {x y : Operand} (p q : RefL) (hp : RefOk p) (hq : RefOk q) {b : Bool} (hb : (!decide (p = q)) = b)
    (hx : a.eval x = .agg (refC p).toArray) (hy : a.eval y = .agg (refC q).toArray) : Oper.quietUpon Try.prog C W (.bool b) ((execOp a.eval { dst := d, op := .binOp .neq 54 x y t', type := rt, pos := pos, after := af, guard := gd }).run Try.prog W) := by
  subst hb
  unfold execOp
  simp only [hx, hy, Sem.run_bind, run_eqGuard_agg _ _ _ _ _ _ _ Try.eqGuardType54, run_neq_struct, run_equalIn_ref p q hp hq, Result.andThen_ok]
  exact ⟨rfl, rfl⟩
/-- What lies there while two lists of refs are looked at. -/
structure SmC (w : World) (ga oa gb ob : Nat) (a b : List RefL) (w' : World) : Prop where
  a_ : ∀ j y, a[j]? = some y → w'.rangeAt ga (oa + j * 33) (refC y)
  b_ : ∀ j y, b[j]? = some y → w'.rangeAt gb (ob + j * 33) (refC y)
  bel : Below w.heap.size w w'
theorem SmC.drew {w : World} {ga oa gb ob : Nat} {a b : List RefL} {w' : World} (h : SmC w ga oa gb ob a b w') : SmC w ga oa gb ob a b w'.drew := ⟨h.a_, h.b_, h.bel.drew⟩
theorem take_more {a b : List RefL} {k : Nat} {x : RefL} (h : a.take k = b.take k) (hx : a[k]? = some x) (hy : b[k]? = some x) : a.take (k + 1) = b.take (k + 1) := by
  rw [List.take_add_one, List.take_add_one, h, hx, hy]
set_option maxRecDepth 100000 in
set_option maxHeartbeats 2000000 in
theorem same_calls (a b : List RefL) (hoka : RefsOk a) (hokb : RefsOk b) (va vb : Value) (w : World) (ha : Refs w va a) (hb : Refs w vb b) :
    Calls Try.prog 13 #[va, vb] w fun e w' => e = .returned (.bool (decide (a = b))) ∧ Below w.heap.size w w' := by
  have hla := ha.len
  have hlb := hb.len
  obtain ⟨A, capa, rfl, ha1, ha2, hata⟩ := ha
  obtain ⟨B', capb, rfl, hb1, hb2, hatb⟩ := hb
  by_cases hl : a.length = b.length
  · have hli : (a.length : Int) = (b.length : Int) := by omega
    go_enter Try.func13, Try.ntmps13
    go_wp2
    go_loopw [5] (fun i wr => ∃ k : Nat, i = .int .i64 k ∧ k ≤ a.length ∧ Hid (a.take k = b.take k) ∧ Below w.heap.size w wr) (fun i _ => a.length - (intOf i).toNat)
    case atStart => exact ⟨0, rfl, by omega, rfl, Below.refl _ _⟩
    case round =>
      obtain ⟨k, rfl, hk, hall, hbel⟩ := hrel
      by_cases hlt : k < a.length
      · have hki : (k : Int) < (a.length : Int) := by omega
        have hkb : (k : Int) < (b.length : Int) := by omega
        obtain ⟨ga, oa, rfl, hga, hca⟩ := hata (by omega)
        obtain ⟨gb, ob, rfl, hgb, hcb⟩ := hatb (by omega)
        obtain ⟨x, hx⟩ : ∃ x, a[k]? = some x := ⟨_, List.getElem?_eq_getElem hlt⟩
        obtain ⟨y, hy⟩ : ∃ y, b[k]? = some y := ⟨_, List.getElem?_eq_getElem (by omega)⟩
        have hxok : RefOk x := hoka x (List.mem_of_getElem? hx)
        have hyok : RefOk y := hokb y (List.mem_of_getElem? hy)
        have hxh := Lib.hid hx
        have hyh := Lib.hid hy
        have hS : SmC w ga oa gb ob a b wr := ⟨fun j z hz => rangeAt_below (hca j z hz) hga hbel, fun j z hz => rangeAt_below (hcb j z hz) hgb hbel, hbel⟩
        clear hx hy hata hatb hca hcb hbel hli
        by_cases he : x = y
        · have hne : Hid ((!decide (x = y)) = false) := by show _ = _; rw [decide_eq_true he]; rfl
          have hst : Hid (a.take (k + 1) = b.take (k + 1)) := take_more hall.out hxh.out (he ▸ hyh.out)
          clear he
          go_wp2
          refine wp_region_class (C := SmC w ga oa gb ob a b) (by kernel_rfl) (by kernel_rfl) hS.drew ?_
          repeat
            first
              | ((with_reducible refine wpQuiet_ex ?_ ?_)
                 · (go_simp; done)
                 apply Exists.intro
                 refine ⟨fun W hW => ?_, ?_⟩
                 · first
                     | exact quiet_load_mid _ _ rfl ga (oa + k * 33) rfl (refC x) _ (hW.a_ k x hxh.out) Try.underlying54 rfl (sizedRef hxok) rfl
                     | exact quiet_load_mid _ _ rfl gb (ob + k * 33) rfl (refC y) _ (hW.b_ k y hyh.out) Try.underlying54 rfl (sizedRef hyok) rfl
                     | ((with_reducible refine quiet_neq_ref x y hxok hyok hne.out ?_ ?_) <;> rfl)
                     | (go_simp
                        first
                          | rfl)
                 simp only [Act.put, List.setIfInBounds_toArray, List.set_cons_zero, List.set_cons_succ])
              | ((with_reducible refine wpQuiet_pass ?_ ?_)
                 · (first | rfl | (go_simp; done))
                 simp only [Act.put, List.setIfInBounds_toArray, List.set_cons_zero, List.set_cons_succ])
          with_reducible refine wpQuiet_nil ?_
          intro w5 hW5
          go_wp2
          go_roundw
          case rel => exact ⟨k + 1, by go_num, by omega, hst, hW5.bel⟩
          case measure => simp [intOf]; omega
        · have hne : Hid ((!decide (x = y)) = true) := by show _ = _; rw [decide_eq_false he]; rfl
          have hno : Hid (decide (a = b) = false) := by
            rw [Hid, decide_eq_false_iff_not]
            intro hab
            subst hab
            have := hxh.out.symm.trans hyh.out
            exact he (by injection this)
          clear he
          go_wp2
          refine wp_region_class (C := SmC w ga oa gb ob a b) (by kernel_rfl) (by kernel_rfl) hS.drew ?_
          repeat
            first
              | ((with_reducible refine wpQuiet_ex ?_ ?_)
                 · (go_simp; done)
                 apply Exists.intro
                 refine ⟨fun W hW => ?_, ?_⟩
                 · first
                     | exact quiet_load_mid _ _ rfl ga (oa + k * 33) rfl (refC x) _ (hW.a_ k x hxh.out) Try.underlying54 rfl (sizedRef hxok) rfl
                     | exact quiet_load_mid _ _ rfl gb (ob + k * 33) rfl (refC y) _ (hW.b_ k y hyh.out) Try.underlying54 rfl (sizedRef hyok) rfl
                     | ((with_reducible refine quiet_neq_ref x y hxok hyok hne.out ?_ ?_) <;> rfl)
                     | (go_simp
                        first
                          | rfl)
                 simp only [Act.put, List.setIfInBounds_toArray, List.set_cons_zero, List.set_cons_succ])
              | ((with_reducible refine wpQuiet_pass ?_ ?_)
                 · (first | rfl | (go_simp; done))
                 simp only [Act.put, List.setIfInBounds_toArray, List.set_cons_zero, List.set_cons_succ])
          with_reducible refine wpQuiet_nil ?_
          intro w5 hW5
          go_wp2
          go_ret
          exact ⟨by rw [hno.out]; rfl, hW5.bel⟩
      · have hki : ¬ (k : Int) < (a.length : Int) := by omega
        have hyes : Hid (decide (a = b) = true) := by
          have := hall.out
          rw [List.take_of_length_le (by omega), List.take_of_length_le (by omega)] at this
          rw [Hid, decide_eq_true_iff]
          exact this
        clear hall hata hatb hli
        go_wp2
        go_ret
        exact ⟨by rw [hyes.out]; rfl, hbel⟩
  · have hli : ¬ (a.length : Int) = (b.length : Int) := by omega
    have hno : Hid (decide (a = b) = false) := by
      rw [Hid, decide_eq_false_iff_not]
      intro hab
      exact hl (by rw [hab])
    clear hata hatb hl
    go_enter Try.func13, Try.ntmps13
    go_wp2
    go_ret
    exact ⟨by rw [hno.out]; rfl, Below.refl _ _⟩
end Go.Proofs.Ytlpiefopegjgjaa
