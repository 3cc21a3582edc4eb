/- The walks of layer 9's law: few, short, knows. No condition. -/
import Derived.Test.YtlpiefopegjgjaaRefL
import Derived.Test.YtlpiefopegjgjaaRefEq
namespace Go.Proofs.Ytlpiefopegjgjaa
open Go.RowKit
def FewB (n k : Nat) (e : Ending) : Prop := ∃ b, e = .returned (.bool b) ∧ (b = true → k ≤ n)
set_option maxRecDepth 100000 in
set_option maxHeartbeats 1000000 in
theorem few_calls (l : List RefL) (v : Value) (w : World) (hv : Refs w v l) :
    Calls Try.prog 7 #[v] w fun e w' => FewB 70 l.length e ∧ w = w' := by
  have hlen := hv.len
  obtain ⟨A, cap, rfl, hcap1, hcap2, hat⟩ := hv
  go_enter Try.func7, Try.ntmps7
  go_wp2
  go_loop [3] (fun i => ∃ k : Nat, i = .int .i64 k ∧ k ≤ l.length) (fun i => l.length - (intOf i).toNat)
  case atStart => exact ⟨0, rfl, by omega⟩
  case round =>
    obtain ⟨k, rfl, hk⟩ := hrel
    by_cases hlt : k < l.length
    · have hki : (k : Int) < (l.length : Int) := by omega
      by_cases h70 : k < 70
      · have h70i : (k : Int) < 70 := by omega
        obtain ⟨gs, os, rfl, hgs, hcell⟩ := hat (by omega)
        obtain ⟨x, hx⟩ : ∃ x, l[k]? = some x := ⟨_, List.getElem?_eq_getElem hlt⟩
        have c0 := range_name (hcell k x hx)
        clear hx hcell hat
        by_cases hl : 100 < x.name.length
        · have hli : (100 : Int) < (x.name.length : Int) := by omega
          go_wp2
          go_ret
          exact ⟨⟨_, rfl, fun h => by cases h⟩, rfl⟩
        · have hli : ¬ (100 : Int) < (x.name.length : Int) := by omega
          go_wp2
          go_round
          case rel => exact ⟨k + 1, by go_num, by omega⟩
          case measure => simp [intOf]; omega
      · have h70i : ¬ (k : Int) < 70 := by omega
        clear hat
        go_wp2
        go_ret
        exact ⟨⟨_, rfl, fun h => by simp at h; omega⟩, rfl⟩
    · have hki : ¬ (k : Int) < (l.length : Int) := by omega
      clear hat
      go_wp2
      go_ret
      exact ⟨⟨_, rfl, fun h => by simp at h; omega⟩, rfl⟩
set_option maxRecDepth 100000 in
set_option maxHeartbeats 1000000 in
theorem short_calls (l : List UpdL) (v : Value) (w : World) (hv : Upds w v l) :
    Calls Try.prog 8 #[v] w fun e w' => FewB 30 l.length e ∧ w = w' := by
  have hlen := hv.len
  obtain ⟨A, cap, rfl, hcap1, hcap2, hat⟩ := hv
  go_enter Try.func8, Try.ntmps8
  go_wp2
  go_loop [3] (fun i => ∃ k : Nat, i = .int .i64 k ∧ k ≤ l.length) (fun i => l.length - (intOf i).toNat)
  case atStart => exact ⟨0, rfl, by omega⟩
  case round =>
    obtain ⟨k, rfl, hk⟩ := hrel
    by_cases hlt : k < l.length
    · have hki : (k : Int) < (l.length : Int) := by omega
      by_cases h70 : k < 30
      · have h70i : (k : Int) < 30 := by omega
        obtain ⟨gs, os, rfl, hgs, hcell⟩ := hat (by omega)
        obtain ⟨x, hx⟩ : ∃ x, l[k]? = some x := ⟨_, List.getElem?_eq_getElem hlt⟩
        have c0 := range_uname (hcell k x hx)
        clear hx hcell hat
        by_cases hl : 100 < x.name.length
        · have hli : (100 : Int) < (x.name.length : Int) := by omega
          go_wp2
          go_ret
          exact ⟨⟨_, rfl, fun h => by cases h⟩, rfl⟩
        · have hli : ¬ (100 : Int) < (x.name.length : Int) := by omega
          go_wp2
          go_round
          case rel => exact ⟨k + 1, by go_num, by omega⟩
          case measure => simp [intOf]; omega
      · have h70i : ¬ (k : Int) < 30 := by omega
        clear hat
        go_wp2
        go_ret
        exact ⟨⟨_, rfl, fun h => by simp at h; omega⟩, rfl⟩
    · have hki : ¬ (k : Int) < (l.length : Int) := by omega
      clear hat
      go_wp2
      go_ret
      exact ⟨⟨_, rfl, fun h => by simp at h; omega⟩, rfl⟩
theorem own_one_ref {w : World} {base : Nat} {v : Value} {r : RefL} (hr : RefOk r) (h : OwnRefs w base v [r]) : ∃ g cap, v = .slice (some ⟨g, 0, none⟩) 1 cap ∧ g < w.heap.size ∧ w.rangeAt g 0 (refC r) := by
  rcases Row.of_own (refK (l := [r]) (fun x hx => by simp at hx; subst hx; exact hr)) h with ⟨_, h0⟩ | ⟨g, cap, rfl, hg, hrow⟩
  · cases h0
  · have := hrow.at_ 0 r rfl
    rw [Nat.zero_mul] at this
    exact ⟨g, cap, rfl, hrow.lt, this⟩
theorem own_one_nat {w : World} {base n : Nat} {e : TypeId} {v : Value} (h : OwnNs w base e v [n]) : ∃ g cap, v = .slice (some ⟨g, 0, none⟩) 1 cap ∧ g < w.heap.size ∧ w.cell? ⟨g, 0, none⟩ = some (.int .i64 n) := by
  rcases Row.of_own (natK [n]) h with ⟨_, h0⟩ | ⟨g, cap, rfl, hg, hrow⟩
  · cases h0
  · exact ⟨g, cap, rfl, hrow.lt, Row.nat_at hrow (i := 0) rfl⟩
theorem lit_build {P : Program} {w : World} {ops : Array Oper} {rest : List Oper} {a : Act} {Q : Exit → Act → World → Prop} {d : Option Tmp} {T rt : TypeId} {pos : String} {af : Array Edge} {fs : Array (Nat × Operand)} (vals : List (Nat × Value)) (cs : Array Value) (hb : P.built T vals = some cs)
    (hv : (fs.map fun (i, x) => (i, a.eval x)).toList = vals) (h : wpList P ops Q rest (a.put d (.agg cs)) w) : wpList P ops Q ({ dst := d, op := .build T fs, type := rt, pos := pos, after := af, guard := none } :: rest) a w :=
  wpList_plain rfl fun _ hK => wp_build _ _ rfl (by rw [hv, hb]; rfl) (by rw [hv, hb]; exact hK _ _ h)
theorem lit_build1 {P : Program} {w : World} {ops : Array Oper} {rest : List Oper} {a : Act} {Q : Exit → Act → World → Prop} {d : Option Tmp} {T rt : TypeId} {pos : String} {af : Array Edge} {i0 : Nat} {x0 : Operand} {v0 : Value} {cs : Array Value} (hb : P.built T [(i0, v0)] = some cs)
    (h0 : a.eval x0 = v0) (h : wpList P ops Q rest (a.put d (.agg cs)) w) : wpList P ops Q ({ dst := d, op := .build T #[(i0, x0)], type := rt, pos := pos, after := af, guard := none } :: rest) a w :=
  lit_build [(i0, v0)] cs hb (by simp [h0]) h
theorem lit_build2 {P : Program} {w : World} {ops : Array Oper} {rest : List Oper} {a : Act} {Q : Exit → Act → World → Prop} {d : Option Tmp} {T rt : TypeId} {pos : String} {af : Array Edge} {i0 i1 : Nat} {x0 x1 : Operand} {v0 v1 : Value} {cs : Array Value} (hb : P.built T [(i0, v0), (i1, v1)] = some cs)
    (h0 : a.eval x0 = v0) (h1 : a.eval x1 = v1) (h : wpList P ops Q rest (a.put d (.agg cs)) w) : wpList P ops Q ({ dst := d, op := .build T #[(i0, x0), (i1, x1)], type := rt, pos := pos, after := af, guard := none } :: rest) a w :=
  lit_build [(i0, v0), (i1, v1)] cs hb (by simp [h0, h1]) h
theorem lit_build3 {P : Program} {w : World} {ops : Array Oper} {rest : List Oper} {a : Act} {Q : Exit → Act → World → Prop} {d : Option Tmp} {T rt : TypeId} {pos : String} {af : Array Edge} {i0 i1 i2 : Nat} {x0 x1 x2 : Operand} {v0 v1 v2 : Value} {cs : Array Value} (hb : P.built T [(i0, v0), (i1, v1), (i2, v2)] = some cs)
    (h0 : a.eval x0 = v0) (h1 : a.eval x1 = v1) (h2 : a.eval x2 = v2) (h : wpList P ops Q rest (a.put d (.agg cs)) w) : wpList P ops Q ({ dst := d, op := .build T #[(i0, x0), (i1, x1), (i2, x2)], type := rt, pos := pos, after := af, guard := none } :: rest) a w :=
  lit_build [(i0, v0), (i1, v1), (i2, v2)] cs hb (by simp [h0, h1, h2]) h
theorem lit_slice_upd {w : World} {ops : Array Oper} {rest : List Oper} {a : Act} {Q : Exit → Act → World → Prop} {d : Option Tmp} {rt : TypeId} {pos : String} {af : Array Edge} (x : Operand) (r : UpdL) (hr : UpdOk r) (hx : a.eval x = .agg (updC r).toArray)
    (h : wpList Try.prog ops Q rest (a.put d (.slice (some ⟨w.heap.size, 0, none⟩) 1 1)) (w.alloc (.cells (updC r).toArray 39))) :
    wpList Try.prog ops Q ({ dst := d, op := .buildSlice 23 1 #[(0, x)], type := rt, pos := pos, after := af, guard := none } :: rest) a w :=
  wpList_plain rfl fun _ hK => by
    have e : ((#[(0, x)] : Array (Nat × Operand)).map fun (i, x) => (i, a.eval x)) = #[(0, .agg (updC r).toArray)] := by simp [hx]
    have hrun : (Instr.buildSlice 23 1 #[(0, .agg (updC r).toArray)]).run Try.prog w = .ok (.slice (some ⟨w.heap.size, 0, none⟩) 1 1) (w.alloc (.cells (updC r).toArray 39)) := by
      obtain ⟨it, hi, hz, hs, hb⟩ := info_parts (P := Try.prog) (e := 39) (z := .agg (updC ⟨[], List.replicate 32 0, List.replicate 32 0⟩).toArray) (size := 65) (bytes := 80) (by kernel_rfl)
      refine run_buildSlice w _ _ 1 _ _ it _ Try.underlying23 hi hz (by rw [hs]; omega) (by rw [hs]; omega) ?_
      rw [hs]
      have := Great.fill_whole (s := 65) (by omega) [Value.agg (updC r).toArray] ((Array.range (1 * 65)).map ((updC ⟨[], List.replicate 32 0, List.replicate 32 0⟩).toArray[· % (updC ⟨[], List.replicate 32 0, List.replicate 32 0⟩).toArray.size]!)) (by
        intro v hv
        simp at hv
        subst hv
        show (updC r).toArray.size = 65
        rw [List.size_toArray, updC_len hr]) (by simp)
      simpa [Value.cells] using this
    unfold Oper.wp execOp
    simp only [Sem.run_bind, e, hrun, Result.andThen_ok]
    exact hK _ _ h
def idK (n : UInt8) : List UInt8 := n :: List.replicate 31 0
theorem idK_len (n : UInt8) : (idK n).length = 32 := by simp [idK]
def R1 : RefL := ⟨[97], idK 1⟩
def U1 : UpdL := ⟨[97], List.replicate 32 0, idK 1⟩
def U2 : UpdL := ⟨[97], idK 2, idK 3⟩
theorem R1_ok : RefOk R1 := ⟨idK_len 1, by simp [R1]⟩
theorem U1_ok : UpdOk U1 := ⟨by simp [U1], idK_len 1, by simp [U1]⟩
theorem U2_ok : UpdOk U2 := ⟨idK_len 2, idK_len 3, by simp [U2]⟩
theorem built1 : Try.prog.built 37 [(0, .int .u8 1)] = some (u8s (idK 1)) := by kernel_rfl
theorem built2 : Try.prog.built 37 [(0, .int .u8 2)] = some (u8s (idK 2)) := by kernel_rfl
theorem built3 : Try.prog.built 37 [(0, .int .u8 3)] = some (u8s (idK 3)) := by kernel_rfl
theorem builtU1 : Try.prog.built 39 [(0, .string ⟨#[97]⟩), (2, .agg (u8s (idK 1)))] = some (updC U1).toArray := by kernel_rfl
theorem builtU2 : Try.prog.built 39 [(0, .string ⟨#[97]⟩), (1, .agg (u8s (idK 2))), (2, .agg (u8s (idK 3)))] = some (updC U2).toArray := by kernel_rfl
theorem builtR1 : Try.prog.built 54 [(0, .string ⟨#[97]⟩), (1, .agg (u8s (idK 1)))] = some (refC R1).toArray := by kernel_rfl
theorem know1 : fineL [] = true ∧ resU [] [U1] true = [R1] ∧ toldU [] [U1] true = [0] := ⟨by kernel_rfl, by kernel_rfl, by kernel_rfl⟩
theorem know2 : fineL [R1] = true ∧ toldU [R1] [U2] false = [10] := ⟨by kernel_rfl, by kernel_rfl⟩
theorem refs_blk {w : World} {g : Nat} {r : RefL} (h : Blk w g 54 (refC r).toArray) : Refs w (.slice (some ⟨g, 0, none⟩) 1 1) [r] :=
  ⟨_, 1, rfl, by simp, by omega, fun _ => ⟨g, 0, rfl, h.lt, fun i x hx => by
    match i, hx with
    | 0, hx => simp at hx; subst hx; exact range_blkRef h⟩⟩
theorem upds_blk {w : World} {g : Nat} {r : UpdL} (h : Blk w g 39 (updC r).toArray) : Upds w (.slice (some ⟨g, 0, none⟩) 1 1) [r] :=
  ⟨_, 1, rfl, by simp, by omega, fun _ => ⟨g, 0, rfl, h.lt, fun i x hx => by
    match i, hx with
    | 0, hx => simp at hx; subst hx; exact range_blkUpd h⟩⟩
end Go.Proofs.Ytlpiefopegjgjaa
