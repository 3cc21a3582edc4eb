/- == on links; the walk of layer 4: knapsackref04.SameLinks at equal lists. No condition. -/
import Derived.Test.YtlanconcbpdneaaLinkR
namespace Go.Proofs.Ytlanconcbpdneaa
open Go.RowKit
theorem linkFields : ∃ f0 f1, (Try.prog.fieldsOf 59).toList = [f0, f1] ∧ f0.name = "Id" ∧ f0.type = 24 ∧ f0.offset = 0 ∧ f1.name = "Kind" ∧ f1.type = 3 ∧ f1.offset = 32 := by
  have h : (Try.prog.fieldsOf 59).toList.map (fun f => (f.name, f.type, f.offset)) = [("Id", 24, 0), ("Kind", 3, 32)] := by kernel_rfl
  generalize (Try.prog.fieldsOf 59).toList = fs at h
  cases fs with
  | nil => simp at h
  | cons f0 fs =>
    cases fs with
    | nil => simp at h
    | cons f1 fs =>
      cases fs with
      | nil =>
        simp only [List.map_cons, List.map_nil, List.cons.injEq, Prod.mk.injEq, and_true] at h
        exact ⟨f0, f1, rfl, h.1.1, h.1.2.1, h.1.2.2, h.2.1, h.2.2.1, h.2.2.2⟩
      | cons f2 fs => simp at h
theorem run_part_lkind (r : LinkL) (hr : r.id.length = 32) (w : World) : (part 3 (linkC r).toArray 32).run Try.prog w = .ok (.int .i64 r.kind) w :=
  run_part_plain w (by kernel_rfl) (by
    show (linkC r).toArray[32]? = some (.int .i64 r.kind)
    rw [List.getElem?_toArray]
    unfold linkC
    rw [List.getElem?_append_right (by rw [u8s_len, hr]; omega), u8s_len, hr]
    rfl)
theorem run_part_lid (r : LinkL) (hr : r.id.length = 32) (w : World) : (part 24 (linkC r).toArray 0).run Try.prog w = .ok (.agg (u8s r.id)) w := by
  have hs := sz32
  cases hi : Try.prog.info? 24 with
  | none => rw [hi] at hs; cases hs
  | some i =>
    rw [hi] at hs
    have hs : i.size = 32 := by simpa using hs
    have hu := run_underlying (w := w) Try.underlying24
    have he : (List.take 32 (linkC r)).toArray = u8s r.id := by
      unfold linkC
      rw [List.take_append_of_le_length (by rw [u8s_len, hr]; omega), List.take_of_length_le (by rw [u8s_len, hr]; omega)]
    simp [part, hu, sizeOf, typeInfo, hi, hs, he]
theorem run_equalIn_link (a : LinkL) (ha : a.id.length = 32) (w : World) : (Op.equalIn 10000 59 (.agg (linkC a).toArray) (.agg (linkC a).toArray)).run Try.prog w = .ok true w := by
  obtain ⟨f0, f1, hf, n0, t0, o0, n1, t1, o1⟩ := linkFields
  rw [run_equalIn_agg w 9999 _ _ _ (by kernel_rfl) (by kernel_rfl), hf]
  have h1 := run_equalIn_int (P := Try.prog) w 9997 3 .i64 .i64 a.kind a.kind Try.underlying3
  have h1' := run_equalIn_int (P := Try.prog) w 9998 3 .i64 .i64 a.kind a.kind Try.underlying3
  have h2 := run_equalIn_bytes w 9997 Try.underlying24 (by kernel_rfl) Try.underlying5 (by kernel_rfl) (Option.isSome_iff_exists.1 (by kernel_rfl)) a.id a.id ha ha
  have h2' := run_equalIn_bytes w 9996 Try.underlying24 (by kernel_rfl) Try.underlying5 (by kernel_rfl) (Option.isSome_iff_exists.1 (by kernel_rfl)) a.id a.id ha ha
  simp only [Op.eqFields, n0, t0, o0, n1, t1, o1, Sem.run_bind, run_part_lkind a ha, run_part_lid a ha, Result.andThen_ok]
  have e1 : ("Id" = "_") = False := eq_false (by decide)
  have e2 : ("Kind" = "_") = False := eq_false (by decide)
  simp only [e1, e2, h1, h1', h2, h2', Result.andThen_ok, ne_eq, reduceCtorEq, not_false_eq_true, if_true, Sem.run_ite, Sem.run_bind, Sem.run_pure, run_part_lkind a ha, run_part_lid a ha, decide_true, beq_self_eq_true]
  rfl
theorem quiet_neq_link {C : World → Prop} {W : World} {a : Act} {d : Option Tmp} {rt t' : TypeId} {pos : String} {af : Array Edge} {gd : Option (Nat × Bool)} {x y : Operand} (p : LinkL) (hp : p.id.length = 32)
    (hx : a.eval x = .agg (linkC p).toArray) (hy : a.eval y = .agg (linkC p).toArray) : Oper.quietUpon Try.prog C W (.bool false) ((execOp a.eval { dst := d, op := .binOp .neq 59 x y t', type := rt, pos := pos, after := af, guard := gd }).run Try.prog W) := by
  unfold execOp
  simp only [hx, hy, Sem.run_bind, run_eqGuard_agg _ _ _ _ _ _ _ Try.eqGuardType59, run_neq_struct, run_equalIn_link p hp, Result.andThen_ok]
  exact ⟨rfl, rfl⟩
/-- What lies there while two lists of links are looked at. -/
structure SmlC (w : World) (ga oa gb ob : Nat) (l : List LinkL) (w' : World) : Prop where
  a_ : ∀ j y, l[j]? = some y → w'.rangeAt ga (oa + j * 33) (linkC y)
  b_ : ∀ j y, l[j]? = some y → w'.rangeAt gb (ob + j * 33) (linkC y)
  bel : Below w.heap.size w w'
theorem SmlC.drew {w : World} {ga oa gb ob : Nat} {l : List LinkL} {w' : World} (h : SmlC w ga oa gb ob l w') : SmlC w ga oa gb ob l w'.drew := ⟨h.a_, h.b_, h.bel.drew⟩
set_option maxRecDepth 100000 in
set_option maxHeartbeats 2000000 in
theorem sameLinks_calls (l : List LinkL) (hok : ∀ x ∈ l, LinkOk x) (va vb : Value) (w : World) (ha : Links w va l) (hb : Links w vb l) :
    Calls Try.prog 13 #[va, vb] w fun e w' => e = .returned (.bool true) ∧ Below w.heap.size w w' := by
  have hla := ha.len
  obtain ⟨A, capa, rfl, ha1, ha2, hata⟩ := ha
  obtain ⟨B', capb, rfl, hb1, hb2, hatb⟩ := hb
  go_enter Try.func13, Try.ntmps13
  go_wp2
  go_loopw [5] (fun i wr => ∃ k : Nat, i = .int .i64 k ∧ k ≤ l.length ∧ Below w.heap.size w wr) (fun i _ => l.length - (intOf i).toNat)
  case atStart => exact ⟨0, rfl, by omega, Below.refl _ _⟩
  case round =>
    obtain ⟨k, rfl, hk, hbel⟩ := hrel
    by_cases hlt : k < l.length
    · have hki : (k : Int) < (l.length : Int) := by omega
      obtain ⟨ga, oa, rfl, hga, hca⟩ := hata (by omega)
      obtain ⟨gb, ob, rfl, hgb, hcb⟩ := hatb (by omega)
      obtain ⟨x, hx⟩ : ∃ x, l[k]? = some x := ⟨_, List.getElem?_eq_getElem hlt⟩
      have hxi : x.id.length = 32 := hok x (List.mem_of_getElem? hx)
      have hsz : (Try.prog.info? 59).map (·.size) = some (linkC x).length := by rw [linkC_len hxi]; kernel_rfl
      have hxh := Lib.hid hx
      have hS : SmlC w ga oa gb ob l wr := ⟨fun j z hz => rangeAt_below (hca j z hz) hga hbel, fun j z hz => rangeAt_below (hcb j z hz) hgb hbel, hbel⟩
      clear hx hata hatb hca hcb hbel
      go_wp2
      refine wp_region_class (C := SmlC w ga oa gb ob l) (by kernel_rfl) (by kernel_rfl) hS.drew ?_
      repeat
        first
          | ((with_reducible refine wpQuiet_ex ?_ ?_)
             · (go_simp; done)
             apply Exists.intro
             refine ⟨fun W hW => ?_, ?_⟩
             · first
                 | exact quiet_load_mid _ _ rfl ga (oa + k * 33) rfl (linkC x) _ (hW.a_ k x hxh.out) Try.underlying59 rfl hsz rfl
                 | exact quiet_load_mid _ _ rfl gb (ob + k * 33) rfl (linkC x) _ (hW.b_ k x hxh.out) Try.underlying59 rfl hsz rfl
                 | ((with_reducible refine quiet_neq_link x hxi ?_ ?_) <;> rfl)
                 | (go_simp
                    first
                      | rfl)
             simp only [Act.put, List.setIfInBounds_toArray, List.set_cons_zero, List.set_cons_succ])
          | ((with_reducible refine wpQuiet_pass ?_ ?_)
             · (first | rfl | (go_simp; done))
             simp only [Act.put, List.setIfInBounds_toArray, List.set_cons_zero, List.set_cons_succ])
      with_reducible refine wpQuiet_nil ?_
      intro w5 hW5
      go_wp2
      go_roundw
      case rel => exact ⟨k + 1, by go_num, by omega, hW5.bel⟩
      case measure => simp [intOf]; omega
    · have hki : ¬ (k : Int) < (l.length : Int) := by omega
      clear hata hatb
      go_wp2
      go_ret
      exact ⟨rfl, hbel⟩
end Go.Proofs.Ytlanconcbpdneaa
