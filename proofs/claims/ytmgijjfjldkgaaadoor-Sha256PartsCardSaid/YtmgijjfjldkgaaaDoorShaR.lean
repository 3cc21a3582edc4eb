/- The plain law of layer 2 (sha256): rounds, blocks, the sum of a text. No condition; no program. -/
import Derived.Test.YtmgijjfjldkgaaaDoorShaP
namespace Go.Proofs.YtmgijjfjldkgaaaDoor
open Go.RowKit

/-- Eight words. -/
structure H8 where
  a : Nat
  b : Nat
  c : Nat
  d : Nat
  e : Nat
  f : Nat
  g : Nat
  h : Nat
def H8.list (s : H8) : List Nat := [s.a, s.b, s.c, s.d, s.e, s.f, s.g, s.h]
structure H8.Fit (s : H8) : Prop where
  a : s.a < 4294967296
  b : s.b < 4294967296
  c : s.c < 4294967296
  d : s.d < 4294967296
  e : s.e < 4294967296
  f : s.f < 4294967296
  g : s.g < 4294967296
  h : s.h < 4294967296
def rndX (s : H8) (k w : Nat) : Nat := (s.h + sum1 s.e + ((s.e &&& s.f) ^^^ ((4294967295 ^^^ s.e) &&& s.g)) + k + w) % 4294967296
def rndY (s : H8) : Nat := (sum0 s.a + ((s.a &&& s.b) ^^^ (s.a &&& s.c) ^^^ (s.b &&& s.c))) % 4294967296
/-- One round. -/
def rnd (s : H8) (k w : Nat) : H8 := ⟨(rndX s k w + rndY s) % 4294967296, s.a, s.b, s.c, (s.d + rndX s k w) % 4294967296, s.e, s.f, s.g⟩
theorem rnd_fit {s : H8} (h : s.Fit) (k w : Nat) : (rnd s k w).Fit :=
  ⟨Nat.mod_lt _ (by omega), h.a, h.b, h.c, Nat.mod_lt _ (by omega), h.e, h.f, h.g⟩
/-- The constants. -/
def K256 : List Nat := [1116352408, 1899447441, 3049323471, 3921009573, 961987163, 1508970993, 2453635748, 2870763221, 3624381080, 310598401, 607225278, 1426881987, 1925078388, 2162078206, 2614888103, 3248222580, 3835390401, 4022224774, 264347078, 604807628, 770255983, 1249150122, 1555081692, 1996064986, 2554220882, 2821834349, 2952996808, 3210313671, 3336571891, 3584528711, 113926993, 338241895, 666307205, 773529912, 1294757372, 1396182291, 1695183700, 1986661051, 2177026350, 2456956037, 2730485921, 2820302411, 3259730800, 3345764771, 3516065817, 3600352804, 4094571909, 275423344, 430227734, 506948616, 659060556, 883997877, 958139571, 1322822218, 1537002063, 1747873779, 1955562222, 2024104815, 2227730452, 2361852424, 2428436474, 2756734187, 3204031479, 3329325298]
theorem K256_length : K256.length = 64 := rfl
theorem K256_fit : Fit32 K256 := by
  intro i
  rcases Nat.lt_or_ge i 64 with h | h
  · have : ∀ j : Fin 64, K256.getD j.val 0 < 4294967296 := by decide +kernel
    exact this ⟨i, h⟩
  · rw [List.getD, List.getElem?_eq_none (by rw [K256_length]; exact h)]
    decide
/-- Behind t rounds. -/
def after (ws : List Nat) (s : H8) : Nat → H8
  | 0 => s
  | t + 1 => rnd (after ws s t) (K256.getD t 0) (ws.getD t 0)
theorem after_fit {ws : List Nat} {s : H8} (h : s.Fit) : ∀ t, (after ws s t).Fit
  | 0 => h
  | t + 1 => rnd_fit (after_fit h t) _ _
def add32 (x y : Nat) : Nat := (x + y) % 4294967296
def H8.plus (v s : H8) : H8 := ⟨add32 v.a s.a, add32 v.b s.b, add32 v.c s.c, add32 v.d s.d, add32 v.e s.e, add32 v.f s.f, add32 v.g s.g, add32 v.h s.h⟩
/-- Behind a block. -/
def blockOf (s : H8) (b : List UInt8) : H8 := (after (wordsOf b) s 64).plus s
theorem plus_list (v s : H8) : (v.plus s).list = List.zipWith add32 v.list s.list := rfl
/-- ... of which i words are added. -/
def mixed (v s : List Nat) (i : Nat) : List Nat := (List.zipWith add32 v s).take i ++ v.drop i
theorem mixed_zero (v s : List Nat) : mixed v s 0 = v := rfl
theorem mixed_length (v s : List Nat) (h : s.length = v.length) (i : Nat) (hi : i ≤ v.length) : (mixed v s i).length = v.length := by
  simp [mixed, h]; omega
theorem mixed_get (v s : List Nat) (h : s.length = v.length) (i : Nat) (hi : i < v.length) : (mixed v s i).getD i 0 = v.getD i 0 := by
  have hl : ((List.zipWith add32 v s).take i).length = i := by simp [h]; omega
  simp only [mixed, List.getD]
  rw [List.getElem?_append_right (by omega), hl, Nat.sub_self, List.getElem?_drop, Nat.add_zero]
theorem mixed_step (v s : List Nat) (h : s.length = v.length) (i : Nat) (hi : i < v.length) : (mixed v s i).set i (add32 (v.getD i 0) (s.getD i 0)) = mixed v s (i + 1) := by
  have hl : ((List.zipWith add32 v s).take i).length = i := by simp [h]; omega
  have hz : i < (List.zipWith add32 v s).length := by simp [h]; omega
  unfold mixed
  rw [List.set_append_right _ _ (by omega), hl, Nat.sub_self, List.drop_eq_getElem_cons hi, List.set_cons_zero, List.take_add_one, List.getElem?_eq_getElem hz, List.getElem_zipWith, List.append_assoc]
  simp [List.getD, List.getElem?_eq_getElem hi, List.getElem?_eq_getElem (show i < s.length by omega)]
theorem mixed_all (v s : H8) : mixed v.list s.list 8 = (v.plus s).list := rfl
theorem add32_lt (x y : Nat) : add32 x y < 4294967296 := Nat.mod_lt _ (by omega)
theorem plus_fit (v s : H8) : (v.plus s).Fit := ⟨add32_lt _ _, add32_lt _ _, add32_lt _ _, add32_lt _ _, add32_lt _ _, add32_lt _ _, add32_lt _ _, add32_lt _ _⟩
/-- The first words. -/
def H0 : H8 := ⟨1779033703, 3144134277, 1013904242, 2773480762, 1359893119, 2600822924, 528734635, 1541459225⟩
theorem H0_fit : H0.Fit := by constructor <;> decide
/-- The padding behind n bytes. -/
def padLen (n : Nat) : Nat := (128 - 8 - (n + 1) % 64) % 64
def lenBytes (n : Nat) : List UInt8 := (List.range 8).map fun i => (8 * n / 2 ^ (56 - 8 * i) % 256).toUInt8
def padded (l : List UInt8) : List UInt8 := l ++ [128] ++ List.replicate (padLen l.length) 0 ++ lenBytes l.length
/-- All blocks. -/
def blocks : Nat → H8 → List UInt8 → H8
  | 0, s, _ => s
  | n + 1, s, l => blocks n (blockOf s (l.take 64)) (l.drop 64)
def stateOf (l : List UInt8) : H8 := blocks ((padded l).length / 64) H0 (padded l)
/-- The sum of a text: its 32 bytes. -/
def idOf (s : H8) : List UInt8 := (List.range 32).map fun i => (s.list.getD (i / 4) 0 / 2 ^ (24 - 8 * (i % 4)) % 256).toUInt8
def shaOf (l : List UInt8) : List UInt8 := idOf (stateOf l)
theorem shaOf_length (l : List UInt8) : (shaOf l).length = 32 := by simp [shaOf, idOf]
set_option maxRecDepth 100000 in
theorem sha_abc : (shaOf [97, 98, 99]).take 4 = [186, 120, 22, 191] := by decide +kernel
end Go.Proofs.YtmgijjfjldkgaaaDoor
