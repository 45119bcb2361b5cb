/- Bits, the highest first: the plain part. -/
import Derived.Test.YtoeekjddeknmbaaGreatTryTab
import Derived.Test.YtoeekjddeknmbaaGreatAl4
import Derived.Test.YtoeekjddeknmbaaGreatBaseX
set_option linter.unusedSimpArgs false
set_option linter.unusedVariables false
open Go Go.AL
namespace Go.Proofs.YtoeekjddeknmbaaGreat
def bitsOf (v : Nat) : Nat → List Bool
 | 0 => []
 | n + 1 => bitsOf (v / 2) n ++ [v % 2 == 1]
theorem bitsOf_len (v n : Nat) : (bitsOf v n).length = n := by
 induction n generalizing v with
 | zero => rfl
 | succ n ih => simp [bitsOf, ih]
theorem bitsOf_get (v n k : Nat) (h : k < n) : (bitsOf v n).getD k false = v.testBit (n - 1 - k) := by
 induction n generalizing v with
 | zero => omega
 | succ n ih =>
   simp only [bitsOf]
   by_cases hk : k < n
   ·rw [List.getD_eq_getElem?_getD, List.getElem?_append_left (by rw [bitsOf_len]; exact hk), ← List.getD_eq_getElem?_getD, ih _ hk, Nat.testBit_div_two]
    congr 1; omega
   ·have : k = n := by omega
    subst this
    rw [List.getD_eq_getElem?_getD, List.getElem?_append_right (by rw [bitsOf_len]; exact Nat.le_refl _), bitsOf_len]
    simp
    rw [Bool.eq_iff_iff]
    simp
def byteAt (bits : List Bool) (i : Nat) : Nat :=
 128 * (bits.getD (8 * i) false).toNat + 64 * (bits.getD (8 * i + 1) false).toNat + 32 * (bits.getD (8 * i + 2) false).toNat + 16 * (bits.getD (8 * i + 3) false).toNat +
 8 * (bits.getD (8 * i + 4) false).toNat + 4 * (bits.getD (8 * i + 5) false).toNat + 2 * (bits.getD (8 * i + 6) false).toNat + (bits.getD (8 * i + 7) false).toNat
theorem byteAt_lt (bits : List Bool) (i : Nat) : byteAt bits i < 256 := by
 unfold byteAt
 have h := fun k => Bool.toNat_le (bits.getD k false)
 have := h (8 * i); have := h (8 * i + 1); have := h (8 * i + 2); have := h (8 * i + 3); have := h (8 * i + 4); have := h (8 * i + 5); have := h (8 * i + 6); have := h (8 * i + 7)
 omega
def nby (n : Nat) : Nat := (n + 7) / 8
def pack (bits : List Bool) : List Int := (List.range (nby bits.length)).map fun i => (byteAt bits i : Int)
theorem pack_len (bits : List Bool) : (pack bits).length = nby bits.length := by simp [pack]
theorem pack_get (bits : List Bool) (i : Nat) (h : i < nby bits.length) : (pack bits).getD i 0 = byteAt bits i := by simp [pack, List.getD, h]
theorem getD_snoc (bits : List Bool) (b : Bool) (k : Nat) : (bits ++ [b]).getD k false = if k = bits.length then b else bits.getD k false := by
 rw [List.getD_eq_getElem?_getD, List.getD_eq_getElem?_getD, List.getElem?_append]
 split
 ·rw [if_neg (by omega)]
 ·split
  ·rename_i h; subst h; simp
  ·rw [List.getElem?_eq_none (by simp; omega), List.getElem?_eq_none (by omega)]
theorem getD_out (bits : List Bool) (k : Nat) (h : bits.length ≤ k) : bits.getD k false = false := by
 rw [List.getD_eq_getElem?_getD, List.getElem?_eq_none h]; rfl
theorem byteAt_snoc (bits : List Bool) (b : Bool) (i : Nat) : byteAt (bits ++ [b]) i = byteAt bits i + (if i = bits.length / 8 then b.toNat * 2 ^ (7 - bits.length % 8) else 0) := by
 have h := getD_out bits
 unfold byteAt
 simp only [getD_snoc]
 by_cases hi : i = bits.length / 8
 ·rw [if_pos hi]
  have hr : bits.length % 8 < 8 := Nat.mod_lt _ (by decide)
  have hn : bits.length = 8 * i + bits.length % 8 := by omega
  obtain ⟨r, hre⟩ : ∃ r, r = bits.length % 8 := ⟨_, rfl⟩
  rw [← hre] at hn hr ⊢
  have e : ∀ j, (8 * i + j = bits.length) = (j = r) := fun j => propext ⟨fun h => by omega, fun h => by omega⟩
  have e0 : (8 * i = bits.length) = (0 = r) := propext ⟨fun h => by omega, fun h => by omega⟩
  simp only [e, e0]
  have hz : ∀ j, r ≤ j → (bits.getD (8 * i + j) false).toNat = 0 := fun j hj => by rw [h _ (by omega)]; rfl
  have hz0 : r = 0 → (bits.getD (8 * i) false).toNat = 0 := fun hj => by rw [h _ (by omega)]; rfl
  clear e e0 hi hn h
  match r, hr with
  | 0, _ => simp only [Nat.reduceEqDiff, reduceIte, Nat.reduceSub, Nat.reducePow, Nat.reduceAdd]; simp only [hz0 rfl, hz 1 (by omega), hz 2 (by omega), hz 3 (by omega), hz 4 (by omega), hz 5 (by omega), hz 6 (by omega), hz 7 (by omega)]; omega
  | 1, _ => simp only [Nat.reduceEqDiff, reduceIte, Nat.reduceSub, Nat.reducePow, Nat.reduceAdd]; simp only [hz 1 (by omega), hz 2 (by omega), hz 3 (by omega), hz 4 (by omega), hz 5 (by omega), hz 6 (by omega), hz 7 (by omega)]; omega
  | 2, _ => simp only [Nat.reduceEqDiff, reduceIte, Nat.reduceSub, Nat.reducePow, Nat.reduceAdd]; simp only [hz 2 (by omega), hz 3 (by omega), hz 4 (by omega), hz 5 (by omega), hz 6 (by omega), hz 7 (by omega)]; omega
  | 3, _ => simp only [Nat.reduceEqDiff, reduceIte, Nat.reduceSub, Nat.reducePow, Nat.reduceAdd]; simp only [hz 3 (by omega), hz 4 (by omega), hz 5 (by omega), hz 6 (by omega), hz 7 (by omega)]; omega
  | 4, _ => simp only [Nat.reduceEqDiff, reduceIte, Nat.reduceSub, Nat.reducePow, Nat.reduceAdd]; simp only [hz 4 (by omega), hz 5 (by omega), hz 6 (by omega), hz 7 (by omega)]; omega
  | 5, _ => simp only [Nat.reduceEqDiff, reduceIte, Nat.reduceSub, Nat.reducePow, Nat.reduceAdd]; simp only [hz 5 (by omega), hz 6 (by omega), hz 7 (by omega)]; omega
  | 6, _ => simp only [Nat.reduceEqDiff, reduceIte, Nat.reduceSub, Nat.reducePow, Nat.reduceAdd]; simp only [hz 6 (by omega), hz 7 (by omega)]; omega
  | 7, _ => simp only [Nat.reduceEqDiff, reduceIte, Nat.reduceSub, Nat.reducePow, Nat.reduceAdd]; simp only [hz 7 (by omega)]; omega
 ·rw [if_neg hi]
  have e : ∀ j, j < 8 → ¬ (8 * i + j = bits.length) := fun j hj => by omega
  have e0 := e 0 (by omega); have e1 := e 1 (by omega); have e2 := e 2 (by omega); have e3 := e 3 (by omega); have e4 := e 4 (by omega); have e5 := e 5 (by omega); have e6 := e 6 (by omega); have e7 := e 7 (by omega)
  rw [Nat.add_zero] at e0
  simp only [e0, e1, e2, e3, e4, e5, e6, e7, if_false, Nat.add_zero]
theorem byteAt_low (bits : List Bool) : ∃ a, byteAt bits (bits.length / 8) = 2 ^ (8 - bits.length % 8) * a := by
 have h := getD_out bits
 have hr : bits.length % 8 < 8 := Nat.mod_lt _ (by decide)
 have hn : bits.length = 8 * (bits.length / 8) + bits.length % 8 := by omega
 obtain ⟨i, hi⟩ : ∃ i, i = bits.length / 8 := ⟨_, rfl⟩
 obtain ⟨r, hre⟩ : ∃ r, r = bits.length % 8 := ⟨_, rfl⟩
 rw [← hre, ← hi] at hn
 rw [← hre] at hr ⊢
 rw [← hi]
 have hz : ∀ j, r ≤ j → (bits.getD (8 * i + j) false).toNat = 0 := fun j hj => by rw [h _ (by omega)]; rfl
 have hz0 : r = 0 → (bits.getD (8 * i) false).toNat = 0 := fun hj => by rw [h _ (by omega)]; rfl
 unfold byteAt
 clear hi hre hn h
 match r, hr with
 | 0, _ => exact ⟨0, by rw [hz0 rfl, hz 1 (by omega), hz 2 (by omega), hz 3 (by omega), hz 4 (by omega), hz 5 (by omega), hz 6 (by omega), hz 7 (by omega)]⟩
 | 1, _ => exact ⟨_, by rw [hz 1 (by omega), hz 2 (by omega), hz 3 (by omega), hz 4 (by omega), hz 5 (by omega), hz 6 (by omega), hz 7 (by omega)]; rfl⟩
 | 2, _ => exact ⟨2 * (bits.getD (8 * i) false).toNat + (bits.getD (8 * i + 1) false).toNat, by rw [hz 2 (by omega), hz 3 (by omega), hz 4 (by omega), hz 5 (by omega), hz 6 (by omega), hz 7 (by omega)]; omega⟩
 | 3, _ => exact ⟨4 * (bits.getD (8 * i) false).toNat + 2 * (bits.getD (8 * i + 1) false).toNat + (bits.getD (8 * i + 2) false).toNat, by rw [hz 3 (by omega), hz 4 (by omega), hz 5 (by omega), hz 6 (by omega), hz 7 (by omega)]; omega⟩
 | 4, _ => exact ⟨8 * (bits.getD (8 * i) false).toNat + 4 * (bits.getD (8 * i + 1) false).toNat + 2 * (bits.getD (8 * i + 2) false).toNat + (bits.getD (8 * i + 3) false).toNat, by rw [hz 4 (by omega), hz 5 (by omega), hz 6 (by omega), hz 7 (by omega)]; omega⟩
 | 5, _ => exact ⟨16 * (bits.getD (8 * i) false).toNat + 8 * (bits.getD (8 * i + 1) false).toNat + 4 * (bits.getD (8 * i + 2) false).toNat + 2 * (bits.getD (8 * i + 3) false).toNat + (bits.getD (8 * i + 4) false).toNat, by rw [hz 5 (by omega), hz 6 (by omega), hz 7 (by omega)]; omega⟩
 | 6, _ => exact ⟨32 * (bits.getD (8 * i) false).toNat + 16 * (bits.getD (8 * i + 1) false).toNat + 8 * (bits.getD (8 * i + 2) false).toNat + 4 * (bits.getD (8 * i + 3) false).toNat + 2 * (bits.getD (8 * i + 4) false).toNat + (bits.getD (8 * i + 5) false).toNat, by rw [hz 6 (by omega), hz 7 (by omega)]; omega⟩
 | 7, _ => exact ⟨64 * (bits.getD (8 * i) false).toNat + 32 * (bits.getD (8 * i + 1) false).toNat + 16 * (bits.getD (8 * i + 2) false).toNat + 8 * (bits.getD (8 * i + 3) false).toNat + 4 * (bits.getD (8 * i + 4) false).toNat + 2 * (bits.getD (8 * i + 5) false).toNat + (bits.getD (8 * i + 6) false).toNat, by rw [hz 7 (by omega)]; omega⟩
def room1 (bits : List Bool) : List Int := if bits.length % 8 = 0 then pack bits ++ [0] else pack bits
theorem room1_len (bits : List Bool) : (room1 bits).length = bits.length / 8 + 1 := by
 unfold room1
 split <;> simp [pack_len, nby] <;> omega
theorem room1_get (bits : List Bool) : (room1 bits).getD (bits.length / 8) 0 = byteAt bits (bits.length / 8) := by
 unfold room1
 split
 ·rename_i h
  have e : (pack bits).length = bits.length / 8 := by rw [pack_len, nby]; omega
  rw [List.getD_eq_getElem?_getD, List.getElem?_append_right (by omega), e]
  have hz := getD_out bits
  simp only [byteAt]
  rw [hz _ (by omega), hz _ (by omega), hz _ (by omega), hz _ (by omega), hz _ (by omega), hz _ (by omega), hz _ (by omega), hz _ (by omega)]
  simp
 ·rename_i h
  exact pack_get _ _ (by rw [nby]; omega)
theorem ilist_ext {l m : List Int} (h1 : l.length = m.length) (h2 : ∀ i, i < l.length → l.getD i 0 = m.getD i 0) : l = m := by
 refine List.ext_getElem h1 fun i hi hi' => ?_
 have := h2 i hi
 simpa [List.getD, hi, hi'] using this
theorem pack_snoc (bits : List Bool) (b : Bool) : pack (bits ++ [b]) = (room1 bits).set (bits.length / 8) (byteAt bits (bits.length / 8) + b.toNat * 2 ^ (7 - bits.length % 8) : Nat) := by
 refine ilist_ext ?_ fun i hi => ?_
 ·rw [List.length_set, room1_len, pack_len, nby, List.length_append, List.length_singleton]; omega
 ·rw [pack_len] at hi
  rw [pack_get _ _ hi, byteAt_snoc]
  rw [nby, List.length_append, List.length_singleton] at hi
  rw [List.getD_eq_getElem?_getD, List.getElem?_set]
  by_cases h : bits.length / 8 = i
  ·subst h
   rw [if_pos rfl, if_pos rfl, if_pos (by rw [room1_len]; omega)]
   rfl
  ·rw [if_neg h, if_neg (Ne.symm h), ← List.getD_eq_getElem?_getD]
   have : (room1 bits).getD i 0 = (pack bits).getD i 0 := by
    unfold room1
    split
    ·rw [List.getD_eq_getElem?_getD, List.getElem?_append_left (by rw [pack_len, nby]; omega), List.getD_eq_getElem?_getD]
    ·rfl
   rw [this, pack_get _ _ (by rw [nby]; omega)]
   rfl
theorem pack_snoc_false (bits : List Bool) : pack (bits ++ [false]) = room1 bits := by
 rw [pack_snoc]
 refine ilist_ext (by simp) fun i hi => ?_
 rw [List.getD_eq_getElem?_getD, List.getElem?_set]
 by_cases h : bits.length / 8 = i
 ·subst h
  rw [if_pos rfl, if_pos (by rw [room1_len]; omega), room1_get]
  simp
 ·rw [if_neg h, List.getD_eq_getElem?_getD]
/- Small laws of bits and whole numbers. -/
set_option maxHeartbeats 4000000
set_option maxRecDepth 20000
theorem wrapu8 {n : Int} (h1 : 0 ≤ n) (h2 : n < 256) : IntKind.wrap .u8 n = n := by
 have : IntKind.wrap .u8 n = n % 256 := rfl
 rw [this]; omega
theorem or_low (k : IntKind) (i a b : Nat) (hb : b < 2 ^ i) (ha : 2 ^ i * a + b < 2 ^ k.bits) : (BitVec.ofInt k.bits ((2 ^ i * a : Nat) : Int) ||| BitVec.ofInt k.bits (b : Int)).toNat = 2 ^ i * a + b := by
 rw [BitVec.ofInt_natCast, BitVec.ofInt_natCast, BitVec.toNat_or, BitVec.toNat_ofNat, BitVec.toNat_ofNat, Nat.mod_eq_of_lt (by omega), Nat.mod_eq_of_lt (by omega), Nat.two_pow_add_eq_or_of_lt hb]
theorem wrapu64 {n : Int} (h1 : 0 ≤ n) (h2 : n < 18446744073709551616) : IntKind.wrap .u64 n = n := by
 have : IntKind.wrap .u64 n = n % 18446744073709551616 := rfl
 rw [this]; omega
theorem shr_nat (k : IntKind) (v i : Nat) (hi : i ≤ k.bits) : rI2 .shr k (v : Int) (i : Int) = ((v / 2 ^ i : Nat) : Int) := by
 show (v : Int).fdiv (2 ^ (min (i : Int).toNat k.bits)) = _
 rw [show min (i : Int).toNat k.bits = i by simp; omega, Int.fdiv_eq_ediv_of_nonneg _ (by exact Int.pow_nonneg (by decide))]
 simp
theorem and1_nat (v : Nat) (h : v < 18446744073709551616) : rI2 .and .u64 (v : Int) 1 = ((v % 2 : Nat) : Int) := by
 show IntKind.wrap .u64 (((BitVec.ofInt 64 (v : Int) &&& BitVec.ofInt 64 1).toNat : Nat) : Int) = _
 rw [BitVec.toNat_and, show (BitVec.ofInt 64 1).toNat = 1 by decide, BitVec.ofInt_natCast, BitVec.toNat_ofNat, Nat.and_one_is_mod, Nat.mod_mod_of_dvd _ (by decide)]
 exact wrapu64 (by omega) (by omega)
theorem take_snoc (l : List Bool) (k : Nat) (h : k < l.length) : l.take (k + 1) = l.take k ++ [l.getD k false] := by
 rw [List.take_add_one]
 simp [List.getD, h]
/- A Reader's contracts. -/
def rd (bs : List Int) (at_ fail : Int) : Heap := [.box [.ls (.il .u8 bs) .any, .int .i64 at_, .int .i64 fail]]
/- A Reader's contracts, 2. -/
end Go.Proofs.YtoeekjddeknmbaaGreat
