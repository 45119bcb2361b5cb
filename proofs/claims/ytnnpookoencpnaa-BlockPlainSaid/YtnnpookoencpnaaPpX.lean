/- Bits, the highest first: the plain part. -/
import Derived.Test.YtnnpookoencpnaaTryTab
import Derived.Test.YtnnpookoencpnaaAl4
import Derived.Test.YtnnpookoencpnaaRkY
import Derived.Test.YtnnpookoencpnaaBase
import Derived.Test.YtnnpookoencpnaaRkX

set_option linter.unusedSimpArgs false
set_option linter.unusedVariables false
open Go Go.AL
namespace Go.Proofs.Ytnnpookoencpnaa
/-- The bits of a number, the highest first. -/
def bitsOf (v : Nat) : Nat → List Bool
  | 0 => []
  | n + 1 => bitsOf (v / 2) n ++ [v % 2 == 1]
theorem bitsOf_len (v n : Nat) : (bitsOf v n).length = n := by
  induction n generalizing v with
  | zero => rfl
  | succ n ih => simp [bitsOf, ih]
theorem bitsOf_get (v n k : Nat) (h : k < n) : (bitsOf v n).getD k false = v.testBit (n - 1 - k) := by
  induction n generalizing v with
  | zero => omega
  | succ n ih =>
    simp only [bitsOf]
    by_cases hk : k < n
    · rw [List.getD_eq_getElem?_getD, List.getElem?_append_left (by rw [bitsOf_len]; exact hk), ← List.getD_eq_getElem?_getD, ih _ hk, Nat.testBit_div_two]
      congr 1; omega
    · have : k = n := by omega
      subst this
      rw [List.getD_eq_getElem?_getD, List.getElem?_append_right (by rw [bitsOf_len]; exact Nat.le_refl _), bitsOf_len]
      simp
      rw [Bool.eq_iff_iff]
      simp
theorem snocRec {p : List Bool → Prop} (h0 : p []) (h1 : ∀ l b, p l → p (l ++ [b])) (l : List Bool) : p l := by
  have : ∀ l : List Bool, p l.reverse := fun l => by
    induction l with
    | nil => exact h0
    | cons b l ih => rw [List.reverse_cons]; exact h1 _ _ ih
  have := this l.reverse
  rwa [List.reverse_reverse] at this
/-- The number of bits. -/
def num (l : List Bool) : Nat := l.foldl (fun a b => 2 * a + b.toNat) 0
theorem num_snoc (l : List Bool) (b : Bool) : num (l ++ [b]) = 2 * num l + b.toNat := by simp [num]
theorem num_lt : ∀ l : List Bool, num l < 2 ^ l.length := fun l => by
  refine snocRec (p := fun l => num l < 2 ^ l.length) ?_ (fun l b ih => ?_) l
  · simp [num]
  ·
    rw [num_snoc, List.length_append, List.length_singleton, Nat.pow_succ]
    cases b <;> simp <;> omega
theorem num_bitsOf (v n : Nat) : num (bitsOf v n) = v % 2 ^ n := by
  induction n generalizing v with
  | zero => simp [bitsOf, num, Nat.mod_one]
  | succ n ih =>
    simp only [bitsOf]
    rw [num_snoc, ih, Nat.pow_succ, Nat.mul_comm (2 ^ n) 2, Nat.mod_mul]
    have : (v % 2 == 1).toNat = v % 2 := by rcases Nat.mod_two_eq_zero_or_one v with h | h <;> simp [h]
    rw [this]; omega
theorem bitsOf_num : ∀ l : List Bool, bitsOf (num l) l.length = l := fun l => by
  refine snocRec (p := fun l => bitsOf (num l) l.length = l) ?_ (fun l b ih => ?_) l
  · rfl
  ·
    rw [List.length_append, List.length_singleton]
    simp only [bitsOf]
    rw [num_snoc]
    have h1 : (2 * num l + b.toNat) / 2 = num l := by cases b <;> simp <;> omega
    have h2 : ((2 * num l + b.toNat) % 2 == 1) = b := by cases b <;> simp <;> omega
    rw [h1, h2, ih]
theorem num_append (l m : List Bool) : num (l ++ m) = num l * 2 ^ m.length + num m := by
  refine snocRec (p := fun m => num (l ++ m) = num l * 2 ^ m.length + num m) ?_ (fun m b ih => ?_) m
  · simp [num]
  ·
    rw [← List.append_assoc, num_snoc, num_snoc, ih, List.length_append, List.length_singleton, Nat.pow_succ]
    have : num l * (2 ^ m.length * 2) = 2 * (num l * 2 ^ m.length) := by rw [← Nat.mul_assoc, Nat.mul_comm]
    rw [this]; omega
/-- The byte at a place. -/
def byteAt (bits : List Bool) (i : Nat) : Nat :=
  128 * (bits.getD (8 * i) false).toNat + 64 * (bits.getD (8 * i + 1) false).toNat + 32 * (bits.getD (8 * i + 2) false).toNat + 16 * (bits.getD (8 * i + 3) false).toNat +
  8 * (bits.getD (8 * i + 4) false).toNat + 4 * (bits.getD (8 * i + 5) false).toNat + 2 * (bits.getD (8 * i + 6) false).toNat + (bits.getD (8 * i + 7) false).toNat
theorem byteAt_lt (bits : List Bool) (i : Nat) : byteAt bits i < 256 := by
  unfold byteAt
  have h := fun k => Bool.toNat_le (bits.getD k false)
  have := h (8 * i); have := h (8 * i + 1); have := h (8 * i + 2); have := h (8 * i + 3); have := h (8 * i + 4); have := h (8 * i + 5); have := h (8 * i + 6); have := h (8 * i + 7)
  omega
/-- How many bytes. -/
def nby (n : Nat) : Nat := (n + 7) / 8
/-- Bits as bytes. -/
def pack (bits : List Bool) : List Int := (List.range (nby bits.length)).map fun i => (byteAt bits i : Int)
theorem pack_len (bits : List Bool) : (pack bits).length = nby bits.length := by simp [pack]
theorem pack_get (bits : List Bool) (i : Nat) (h : i < nby bits.length) : (pack bits).getD i 0 = byteAt bits i := by simp [pack, List.getD, h]
theorem getD_snoc (bits : List Bool) (b : Bool) (k : Nat) : (bits ++ [b]).getD k false = if k = bits.length then b else bits.getD k false := by
  rw [List.getD_eq_getElem?_getD, List.getD_eq_getElem?_getD, List.getElem?_append]
  split
  · rw [if_neg (by omega)]
  · split
    · rename_i h; subst h; simp
    · rw [List.getElem?_eq_none (by simp; omega), List.getElem?_eq_none (by omega)]
theorem getD_out (bits : List Bool) (k : Nat) (h : bits.length ≤ k) : bits.getD k false = false := by
  rw [List.getD_eq_getElem?_getD, List.getElem?_eq_none h]; rfl
/-- What a bit more does to a byte. -/
theorem byteAt_snoc (bits : List Bool) (b : Bool) (i : Nat) : byteAt (bits ++ [b]) i = byteAt bits i + (if i = bits.length / 8 then b.toNat * 2 ^ (7 - bits.length % 8) else 0) := by
  have h := getD_out bits
  unfold byteAt
  simp only [getD_snoc]
  by_cases hi : i = bits.length / 8
  · rw [if_pos hi]
    have hr : bits.length % 8 < 8 := Nat.mod_lt _ (by decide)
    have hn : bits.length = 8 * i + bits.length % 8 := by omega
    obtain ⟨r, hre⟩ : ∃ r, r = bits.length % 8 := ⟨_, rfl⟩
    rw [← hre] at hn hr ⊢
    have e : ∀ j, (8 * i + j = bits.length) = (j = r) := fun j => propext ⟨fun h => by omega, fun h => by omega⟩
    have e0 : (8 * i = bits.length) = (0 = r) := propext ⟨fun h => by omega, fun h => by omega⟩
    simp only [e, e0]
    have hz : ∀ j, r ≤ j → (bits.getD (8 * i + j) false).toNat = 0 := fun j hj => by rw [h _ (by omega)]; rfl
    have hz0 : r = 0 → (bits.getD (8 * i) false).toNat = 0 := fun hj => by rw [h _ (by omega)]; rfl
    clear e e0 hi hn h
    match r, hr with
    | 0, _ => simp only [Nat.reduceEqDiff, reduceIte, Nat.reduceSub, Nat.reducePow, Nat.reduceAdd]; simp only [hz0 rfl, hz 1 (by omega), hz 2 (by omega), hz 3 (by omega), hz 4 (by omega), hz 5 (by omega), hz 6 (by omega), hz 7 (by omega)]; omega
    | 1, _ => simp only [Nat.reduceEqDiff, reduceIte, Nat.reduceSub, Nat.reducePow, Nat.reduceAdd]; simp only [hz 1 (by omega), hz 2 (by omega), hz 3 (by omega), hz 4 (by omega), hz 5 (by omega), hz 6 (by omega), hz 7 (by omega)]; omega
    | 2, _ => simp only [Nat.reduceEqDiff, reduceIte, Nat.reduceSub, Nat.reducePow, Nat.reduceAdd]; simp only [hz 2 (by omega), hz 3 (by omega), hz 4 (by omega), hz 5 (by omega), hz 6 (by omega), hz 7 (by omega)]; omega
    | 3, _ => simp only [Nat.reduceEqDiff, reduceIte, Nat.reduceSub, Nat.reducePow, Nat.reduceAdd]; simp only [hz 3 (by omega), hz 4 (by omega), hz 5 (by omega), hz 6 (by omega), hz 7 (by omega)]; omega
    | 4, _ => simp only [Nat.reduceEqDiff, reduceIte, Nat.reduceSub, Nat.reducePow, Nat.reduceAdd]; simp only [hz 4 (by omega), hz 5 (by omega), hz 6 (by omega), hz 7 (by omega)]; omega
    | 5, _ => simp only [Nat.reduceEqDiff, reduceIte, Nat.reduceSub, Nat.reducePow, Nat.reduceAdd]; simp only [hz 5 (by omega), hz 6 (by omega), hz 7 (by omega)]; omega
    | 6, _ => simp only [Nat.reduceEqDiff, reduceIte, Nat.reduceSub, Nat.reducePow, Nat.reduceAdd]; simp only [hz 6 (by omega), hz 7 (by omega)]; omega
    | 7, _ => simp only [Nat.reduceEqDiff, reduceIte, Nat.reduceSub, Nat.reducePow, Nat.reduceAdd]; simp only [hz 7 (by omega)]; omega
  · rw [if_neg hi]
    have e : ∀ j, j < 8 → ¬ (8 * i + j = bits.length) := fun j hj => by omega
    have e0 := e 0 (by omega); have e1 := e 1 (by omega); have e2 := e 2 (by omega); have e3 := e 3 (by omega); have e4 := e 4 (by omega); have e5 := e 5 (by omega); have e6 := e 6 (by omega); have e7 := e 7 (by omega)
    rw [Nat.add_zero] at e0
    simp only [e0, e1, e2, e3, e4, e5, e6, e7, if_false, Nat.add_zero]
/-- The low bits of the byte that is under way are 0. -/
theorem byteAt_low (bits : List Bool) : ∃ a, byteAt bits (bits.length / 8) = 2 ^ (8 - bits.length % 8) * a := by
  have h := getD_out bits
  have hr : bits.length % 8 < 8 := Nat.mod_lt _ (by decide)
  have hn : bits.length = 8 * (bits.length / 8) + bits.length % 8 := by omega
  obtain ⟨i, hi⟩ : ∃ i, i = bits.length / 8 := ⟨_, rfl⟩
  obtain ⟨r, hre⟩ : ∃ r, r = bits.length % 8 := ⟨_, rfl⟩
  rw [← hre, ← hi] at hn
  rw [← hre] at hr ⊢
  rw [← hi]
  have hz : ∀ j, r ≤ j → (bits.getD (8 * i + j) false).toNat = 0 := fun j hj => by rw [h _ (by omega)]; rfl
  have hz0 : r = 0 → (bits.getD (8 * i) false).toNat = 0 := fun hj => by rw [h _ (by omega)]; rfl
  unfold byteAt
  clear hi hre hn h
  match r, hr with
  | 0, _ => exact ⟨0, by rw [hz0 rfl, hz 1 (by omega), hz 2 (by omega), hz 3 (by omega), hz 4 (by omega), hz 5 (by omega), hz 6 (by omega), hz 7 (by omega)]⟩
  | 1, _ => exact ⟨_, by rw [hz 1 (by omega), hz 2 (by omega), hz 3 (by omega), hz 4 (by omega), hz 5 (by omega), hz 6 (by omega), hz 7 (by omega)]; rfl⟩
  | 2, _ => exact ⟨2 * (bits.getD (8 * i) false).toNat + (bits.getD (8 * i + 1) false).toNat, by rw [hz 2 (by omega), hz 3 (by omega), hz 4 (by omega), hz 5 (by omega), hz 6 (by omega), hz 7 (by omega)]; omega⟩
  | 3, _ => exact ⟨4 * (bits.getD (8 * i) false).toNat + 2 * (bits.getD (8 * i + 1) false).toNat + (bits.getD (8 * i + 2) false).toNat, by rw [hz 3 (by omega), hz 4 (by omega), hz 5 (by omega), hz 6 (by omega), hz 7 (by omega)]; omega⟩
  | 4, _ => exact ⟨8 * (bits.getD (8 * i) false).toNat + 4 * (bits.getD (8 * i + 1) false).toNat + 2 * (bits.getD (8 * i + 2) false).toNat + (bits.getD (8 * i + 3) false).toNat, by rw [hz 4 (by omega), hz 5 (by omega), hz 6 (by omega), hz 7 (by omega)]; omega⟩
  | 5, _ => exact ⟨16 * (bits.getD (8 * i) false).toNat + 8 * (bits.getD (8 * i + 1) false).toNat + 4 * (bits.getD (8 * i + 2) false).toNat + 2 * (bits.getD (8 * i + 3) false).toNat + (bits.getD (8 * i + 4) false).toNat, by rw [hz 5 (by omega), hz 6 (by omega), hz 7 (by omega)]; omega⟩
  | 6, _ => exact ⟨32 * (bits.getD (8 * i) false).toNat + 16 * (bits.getD (8 * i + 1) false).toNat + 8 * (bits.getD (8 * i + 2) false).toNat + 4 * (bits.getD (8 * i + 3) false).toNat + 2 * (bits.getD (8 * i + 4) false).toNat + (bits.getD (8 * i + 5) false).toNat, by rw [hz 6 (by omega), hz 7 (by omega)]; omega⟩
  | 7, _ => exact ⟨64 * (bits.getD (8 * i) false).toNat + 32 * (bits.getD (8 * i + 1) false).toNat + 16 * (bits.getD (8 * i + 2) false).toNat + 8 * (bits.getD (8 * i + 3) false).toNat + 4 * (bits.getD (8 * i + 4) false).toNat + 2 * (bits.getD (8 * i + 5) false).toNat + (bits.getD (8 * i + 6) false).toNat, by rw [hz 7 (by omega)]; omega⟩
/-- The bytes of one bit more, ahead of it. -/
def room1 (bits : List Bool) : List Int := if bits.length % 8 = 0 then pack bits ++ [0] else pack bits
theorem room1_len (bits : List Bool) : (room1 bits).length = bits.length / 8 + 1 := by
  unfold room1
  split <;> simp [pack_len, nby] <;> omega
theorem room1_get (bits : List Bool) : (room1 bits).getD (bits.length / 8) 0 = byteAt bits (bits.length / 8) := by
  unfold room1
  split
  · rename_i h
    have e : (pack bits).length = bits.length / 8 := by rw [pack_len, nby]; omega
    rw [List.getD_eq_getElem?_getD, List.getElem?_append_right (by omega), e]
    have hz := getD_out bits
    simp only [byteAt]
    rw [hz _ (by omega), hz _ (by omega), hz _ (by omega), hz _ (by omega), hz _ (by omega), hz _ (by omega), hz _ (by omega), hz _ (by omega)]
    simp
  · rename_i h
    exact pack_get _ _ (by rw [nby]; omega)
theorem ilist_ext {l m : List Int} (h1 : l.length = m.length) (h2 : ∀ i, i < l.length → l.getD i 0 = m.getD i 0) : l = m := by
  refine List.ext_getElem h1 fun i hi hi' => ?_
  have := h2 i hi
  simpa [List.getD, hi, hi'] using this
theorem pack_snoc (bits : List Bool) (b : Bool) : pack (bits ++ [b]) = (room1 bits).set (bits.length / 8) (byteAt bits (bits.length / 8) + b.toNat * 2 ^ (7 - bits.length % 8) : Nat) := by
  refine ilist_ext ?_ fun i hi => ?_
  · rw [List.length_set, room1_len, pack_len, nby, List.length_append, List.length_singleton]; omega
  · rw [pack_len] at hi
    rw [pack_get _ _ hi, byteAt_snoc]
    rw [nby, List.length_append, List.length_singleton] at hi
    rw [List.getD_eq_getElem?_getD, List.getElem?_set]
    by_cases h : bits.length / 8 = i
    · subst h
      rw [if_pos rfl, if_pos rfl, if_pos (by rw [room1_len]; omega)]
      rfl
    · rw [if_neg h, if_neg (Ne.symm h), ← List.getD_eq_getElem?_getD]
      have : (room1 bits).getD i 0 = (pack bits).getD i 0 := by
        unfold room1
        split
        · rw [List.getD_eq_getElem?_getD, List.getElem?_append_left (by rw [pack_len, nby]; omega), List.getD_eq_getElem?_getD]
        · rfl
      rw [this, pack_get _ _ (by rw [nby]; omega)]
      rfl
theorem pack_snoc_false (bits : List Bool) : pack (bits ++ [false]) = room1 bits := by
  rw [pack_snoc]
  refine ilist_ext (by simp) fun i hi => ?_
  rw [List.getD_eq_getElem?_getD, List.getElem?_set]
  by_cases h : bits.length / 8 = i
  · subst h
    rw [if_pos rfl, if_pos (by rw [room1_len]; omega), room1_get]
    simp
  · rw [if_neg h, List.getD_eq_getElem?_getD]
/-- Bytes as bits. -/
def unpack (bs : List Int) : List Bool := bs.flatMap fun x => bitsOf x.toNat 8
theorem unpack_len (bs : List Int) : (unpack bs).length = 8 * bs.length := by
  induction bs with
  | nil => rfl
  | cons x r ih => simp only [unpack, List.flatMap_cons, List.length_append, bitsOf_len, List.length_cons] at ih ⊢; omega
theorem unpack_get (bs : List Int) (k : Nat) (h : k < 8 * bs.length) : (unpack bs).getD k false = (bs.getD (k / 8) 0).toNat.testBit (7 - k % 8) := by
  induction bs generalizing k with
  | nil => simp at h
  | cons x r ih =>
    have e : unpack (x :: r) = bitsOf x.toNat 8 ++ unpack r := rfl
    rw [e]
    by_cases hk : k < 8
    · rw [List.getD_eq_getElem?_getD, List.getElem?_append_left (by rw [bitsOf_len]; exact hk), ← List.getD_eq_getElem?_getD, bitsOf_get _ _ _ hk, show k / 8 = 0 by omega, show k % 8 = k by omega]
      rfl
    · rw [List.getD_eq_getElem?_getD, List.getElem?_append_right (by rw [bitsOf_len]; omega), bitsOf_len, ← List.getD_eq_getElem?_getD, ih (k - 8) (by simp at h; omega),
        show k / 8 = (k - 8) / 8 + 1 by omega, show (k - 8) % 8 = k % 8 by omega]
      rfl
end Go.Proofs.Ytnnpookoencpnaa
/- A Writer's contracts. -/

set_option maxHeartbeats 4000000
set_option maxRecDepth 20000
set_option linter.unusedSimpArgs false
set_option linter.unusedVariables false
open Go Go.AL
namespace Go.Proofs.Ytnnpookoencpnaa
/-- A Writer that has bytes: its box, its bytes. -/
def wl (bits : List Bool) : Heap := [.box [.sl 1 (nby bits.length) 0 (nby bits.length : Nat), .int .i64 (bits.length : Nat)], .rw (nby bits.length) (.il .u8 (pack bits))]
theorem wrapu8 {n : Int} (h1 : 0 ≤ n) (h2 : n < 256) : IntKind.wrap .u8 n = n := by
  have : IntKind.wrap .u8 n = n % 256 := rfl
  rw [this]; omega
theorem or_low (k : IntKind) (i a b : Nat) (hb : b < 2 ^ i) (ha : 2 ^ i * a + b < 2 ^ k.bits) : (BitVec.ofInt k.bits ((2 ^ i * a : Nat) : Int) ||| BitVec.ofInt k.bits (b : Int)).toNat = 2 ^ i * a + b := by
  rw [BitVec.ofInt_natCast, BitVec.ofInt_natCast, BitVec.toNat_or, BitVec.toNat_ofNat, BitVec.toNat_ofNat, Nat.mod_eq_of_lt (by omega), Nat.mod_eq_of_lt (by omega), Nat.two_pow_add_eq_or_of_lt hb]
theorem shr128 : ∀ r : Nat, r < 8 → rI2 .shr .u8 128 (r : Int) = ((2 ^ (7 - r) : Nat) : Int) := by decide
theorem or_byte (bits : List Bool) (r : Int) (hr : r = ((bits.length % 8 : Nat) : Int)) : rI2 .or .u8 ((byteAt bits (bits.length / 8) : Nat) : Int) (rI2 .shr .u8 128 r) = ((byteAt bits (bits.length / 8) + 2 ^ (7 - bits.length % 8) : Nat) : Int) := by
  have hm : bits.length % 8 < 8 := Nat.mod_lt _ (by decide)
  rw [hr, shr128 _ hm]
  obtain ⟨a, ha⟩ := byteAt_low bits
  have hlt := byteAt_lt (bits ++ [true]) (bits.length / 8)
  rw [byteAt_snoc, if_pos rfl, Bool.toNat_true, Nat.one_mul] at hlt
  have hp : 2 ^ (7 - bits.length % 8) < 2 ^ (8 - bits.length % 8) := Nat.pow_lt_pow_right (by decide) (by omega)
  rw [ha] at hlt ⊢
  show IntKind.wrap .u8 _ = _
  rw [or_low .u8 _ _ _ hp hlt]
  exact wrapu8 (Int.natCast_nonneg _) (Int.ofNat_lt.2 hlt)
theorem bitL_spec (bits : List Bool) (b : Bool) (hl : bits.length < 1099511627776) : Does PP 115 [.ptr 0 0, .bool b] (wl bits) (Is (.tup []) (wl (bits ++ [b]))) := by
  unfold wl
  obtain ⟨B, hB⟩ : ∃ B, B = nby bits.length := ⟨_, rfl⟩
  obtain ⟨B1, hB1⟩ : ∃ B, B = nby (bits ++ [b]).length := ⟨_, rfl⟩
  obtain ⟨Bz, hBz⟩ : ∃ Bz : Int, Bz = (B : Nat) := ⟨_, rfl⟩
  obtain ⟨Bz1, hBz1⟩ : ∃ Bz : Int, Bz = (B1 : Nat) := ⟨_, rfl⟩
  obtain ⟨n, hn⟩ : ∃ n : Int, n = (bits.length : Nat) := ⟨_, rfl⟩
  obtain ⟨n1, hn1⟩ : ∃ n1 : Int, n1 = ((bits ++ [b]).length : Nat) := ⟨_, rfl⟩
  obtain ⟨Pk, hPk⟩ : ∃ Pk, Pk = pack bits := ⟨_, rfl⟩
  obtain ⟨P1, hP1⟩ : ∃ Pk, Pk = pack (bits ++ [b]) := ⟨_, rfl⟩
  rw [← hB, ← hB1, ← hBz, ← hBz1, ← hn, ← hn1, ← hPk, ← hP1]
  obtain ⟨R, hR⟩ : ∃ R, R = room1 bits := ⟨_, rfl⟩
  obtain ⟨r, hr⟩ : ∃ r : Int, r = ((bits.length % 8 : Nat) : Int) := ⟨_, rfl⟩
  obtain ⟨q, hq⟩ : ∃ q : Int, q = ((bits.length / 8 : Nat) : Int) := ⟨_, rfl⟩
  have hRl : R.length = bits.length / 8 + 1 := by rw [hR, room1_len]
  have hPl : Pk.length = B := by rw [hPk, pack_len, hB]
  simp only [nby, List.length_append, List.length_singleton] at hB hB1 hn1
  have hRq : R.getD (bits.length / 8) 0 = (byteAt bits (bits.length / 8) : Nat) := by rw [hR]; exact room1_get bits
  have hor := or_byte bits r hr
  have hps := pack_snoc bits b
  have hpf := pack_snoc_false bits
  rw [← hR] at hps hpf
  have hR0 : r = 0 → Pk ++ [0] = R := fun h => by rw [hR, hPk, room1, if_pos (by omega)]
  have hR1 : ¬ r = 0 → Pk = R := fun h => by rw [hR, hPk, room1, if_neg (by omega)]
  refine doesF P_ok Try.f115 (by kernel_rfl) (by kernel_rfl) ?_
  intro i2 c2 u1 cv mx mn ad sbt bn bq ba lnI gtI apI sbI stI rpI lnG gtG apG sbG stG rpG fi fb fs fl fg fc sln sgt sap ssb sc b2s s2b nd call calld callv callvd loop rfun fin hk
  have hbq : Nat.beq B B = true := Nat.beq_refl B
  have hln : lnI Pk = Bz := by rw [hk.lnI_eq]; omega
  have hlR : lnI R = Bz1 := by rw [hk.lnI_eq]; omega
  have hrem : i2 .rem .i64 n 8 = r := by rw [hk.i2_rem, Int.tmod_eq_emod_of_nonneg (by omega)]; omega
  have hquo : i2 .quo .i64 n 8 = q := by rw [hk.i2_quo, Int.tdiv_eq_ediv_of_nonneg (by omega), wrap64 (by omega) (by omega)]; omega
  have hadd : i2 .add .i64 n 1 = n1 := by rw [hk.add64 _ _ (by omega) (by omega)]; omega
  have hap : r = 0 → apI Pk [0] = R := fun h => by rw [hk.apI_eq]; exact hR0 h
  have hl0 : lnI [0] = 1 := hk.lnI_eq _
  have hbs : r = 0 → B.succ = B1 ∧ Bz + 1 = Bz1 := fun h => by omega
  have hbs1 : ¬ r = 0 → B = B1 ∧ Bz = Bz1 := fun h => by omega
  have hset : b = true → stI R q (i2 .or .u8 (gtI R q) (i2 .shr .u8 128 r)) = P1 := fun h => by
    rw [hk.stI_eq, hk.i2_eq, hk.gtI_eq, show q.toNat = bits.length / 8 by omega, hRq, hor, hP1, hps, h]
    simp
  have hfal : b = false → R = P1 := fun h => by rw [hP1, h]; exact hpf.symm
  have hq0 : 0 ≤ q ∧ q < Bz1 := by omega
  have hr0 : 0 ≤ r := by omega
  have hBz0 : 0 ≤ Bz ∧ Bz < 200000000000 := by omega
  clear hq hr hB hB1 hBz hBz1 hn hn1 hPk hP1 hR hRl hPl hRq hor hps hpf hR0
  (conv at hbq => cbv)
  (conv => cbv)
  rw [hrem]
  by_cases h0 : r = 0
  · have hap := hap h0
    obtain ⟨e1, e2⟩ := hbs h0
    subst e1
    cases b
    · have hfal := hfal rfl
      repeat' (first
        | assumption
        | (rw [hbq]; (conv => cbv))
        | (refine hk.brLssT (by omega) ?_; (conv => cbv))
        | (refine hk.brLssF (by omega) ?_; (conv => cbv))
        | (refine hk.brLeqT (by omega) ?_; (conv => cbv))
        | (refine hk.brLeqF (by omega) ?_; (conv => cbv))
        | (refine hk.brGtrT (by omega) ?_; (conv => cbv))
        | (refine hk.brGtrF (by omega) ?_; (conv => cbv))
        | (refine hk.brGeqT (by omega) ?_; (conv => cbv))
        | (refine hk.brGeqF (by omega) ?_; (conv => cbv))
        | (refine hk.brEqlT (by omega) ?_; (conv => cbv))
        | (refine hk.brEqlF (by omega) ?_; (conv => cbv))
        | (refine hk.brNeqT (by omega) ?_; (conv => cbv))
        | (refine hk.brNeqF (by omega) ?_; (conv => cbv))
        | (refine hk.brLss (fun _ => ?_) (fun _ => ?_) <;> (conv => cbv))
        | (refine hk.brLeq (fun _ => ?_) (fun _ => ?_) <;> (conv => cbv))
        | (refine hk.brGtr (fun _ => ?_) (fun _ => ?_) <;> (conv => cbv))
        | (refine hk.brGeq (fun _ => ?_) (fun _ => ?_) <;> (conv => cbv))
        | (refine hk.brEql (fun _ => ?_) (fun _ => ?_) <;> (conv => cbv))
        | (refine hk.brNeq (fun _ => ?_) (fun _ => ?_) <;> (conv => cbv))
        | (refine hk.brNotT ?_; (conv => cbv))
        | (refine hk.brNotF ?_; (conv => cbv))
        | (refine hk.brNotS _ (by simp [hk.c2_lss, hk.c2_leq, hk.c2_gtr, hk.c2_geq, hk.c2_eql, hk.c2_neq, hk.bn_eq, hk.bq_eq]; rfl) ?_; (conv => cbv))
        | (refine hk.brBqS _ (by simp [hk.c2_lss, hk.c2_leq, hk.c2_gtr, hk.c2_geq, hk.c2_eql, hk.c2_neq, hk.bn_eq, hk.bq_eq]; rfl) ?_; (conv => cbv))
        | (refine hk.idxI (by first | omega | assumption) (by first | omega | assumption) ?_; (conv => cbv))
        | (refine hk.nzI (by first | omega | assumption | decide) ?_; (conv => cbv))
        | (refine hk.ge0I (by first | omega | assumption) ?_; (conv => cbv))
        | (refine hk.needI (by first | (simp only [rNd, hk.sb_eq, hk.ad_eq]; omega) | (simp [rNd, hk.sb_eq, hk.ad_eq]; omega)) ?_; (conv => cbv))
        | (refine hk.callA (by assumption) ?_; (conv => cbv))
        | (refine hk.calldA (by assumption) ?_; (conv => cbv))
        | (rw [hk.sb0]; (conv => cbv))
        | (rw [hk.ad0]; (conv => cbv))
        | exact hk.finB (by first | rfl | (simp [hk.c2_lss, hk.c2_leq, hk.c2_gtr, hk.c2_geq, hk.c2_eql, hk.c2_neq, hk.bn_eq, hk.bq_eq]; done) | assumption)
        | exact hk.fin1 rfl)
      rw [hap, hlR, hadd, hfal]
      exact hk.finI (fin_lowN 2 (Nat.le_refl 2) (.refl _ _) rfl rfl ⟨rfl, rfl⟩)
    · have hset := hset rfl
      repeat' (first
        | assumption
        | (rw [hbq]; (conv => cbv))
        | (refine hk.brLssT (by omega) ?_; (conv => cbv))
        | (refine hk.brLssF (by omega) ?_; (conv => cbv))
        | (refine hk.brLeqT (by omega) ?_; (conv => cbv))
        | (refine hk.brLeqF (by omega) ?_; (conv => cbv))
        | (refine hk.brGtrT (by omega) ?_; (conv => cbv))
        | (refine hk.brGtrF (by omega) ?_; (conv => cbv))
        | (refine hk.brGeqT (by omega) ?_; (conv => cbv))
        | (refine hk.brGeqF (by omega) ?_; (conv => cbv))
        | (refine hk.brEqlT (by omega) ?_; (conv => cbv))
        | (refine hk.brEqlF (by omega) ?_; (conv => cbv))
        | (refine hk.brNeqT (by omega) ?_; (conv => cbv))
        | (refine hk.brNeqF (by omega) ?_; (conv => cbv))
        | (refine hk.brLss (fun _ => ?_) (fun _ => ?_) <;> (conv => cbv))
        | (refine hk.brLeq (fun _ => ?_) (fun _ => ?_) <;> (conv => cbv))
        | (refine hk.brGtr (fun _ => ?_) (fun _ => ?_) <;> (conv => cbv))
        | (refine hk.brGeq (fun _ => ?_) (fun _ => ?_) <;> (conv => cbv))
        | (refine hk.brEql (fun _ => ?_) (fun _ => ?_) <;> (conv => cbv))
        | (refine hk.brNeq (fun _ => ?_) (fun _ => ?_) <;> (conv => cbv))
        | (refine hk.brNotT ?_; (conv => cbv))
        | (refine hk.brNotF ?_; (conv => cbv))
        | (refine hk.brNotS _ (by simp [hk.c2_lss, hk.c2_leq, hk.c2_gtr, hk.c2_geq, hk.c2_eql, hk.c2_neq, hk.bn_eq, hk.bq_eq]; rfl) ?_; (conv => cbv))
        | (refine hk.brBqS _ (by simp [hk.c2_lss, hk.c2_leq, hk.c2_gtr, hk.c2_geq, hk.c2_eql, hk.c2_neq, hk.bn_eq, hk.bq_eq]; rfl) ?_; (conv => cbv))
        | (refine hk.idxI (by first | omega | assumption) (by first | omega | assumption) ?_; (conv => cbv))
        | (refine hk.nzI (by first | omega | assumption | decide) ?_; (conv => cbv))
        | (refine hk.ge0I (by first | omega | assumption) ?_; (conv => cbv))
        | (refine hk.needI (by first | (simp only [rNd, hk.sb_eq, hk.ad_eq]; omega) | (simp [rNd, hk.sb_eq, hk.ad_eq]; omega)) ?_; (conv => cbv))
        | (refine hk.callA (by assumption) ?_; (conv => cbv))
        | (refine hk.calldA (by assumption) ?_; (conv => cbv))
        | (rw [hk.sb0]; (conv => cbv))
        | (rw [hk.ad0]; (conv => cbv))
        | exact hk.finB (by first | rfl | (simp [hk.c2_lss, hk.c2_leq, hk.c2_gtr, hk.c2_geq, hk.c2_eql, hk.c2_neq, hk.bn_eq, hk.bq_eq]; done) | assumption)
        | exact hk.fin1 rfl)
      rw [hap, hlR, hadd, hrem, hquo, hset]
      refine ((hk.idxI hq0.1 hq0.2 (hk.nzI (by decide) (hk.ge0I hr0 (hk.idxI hq0.1 hq0.2 ?_)))))
      exact hk.finI (fin_lowN 2 (Nat.le_refl 2) (.refl _ _) rfl rfl ⟨rfl, rfl⟩)
  · have hR1 := hR1 h0
    obtain ⟨e1, e2⟩ := hbs1 h0
    subst e1 e2
    rw [hR1]
    cases b
    · have hfal := hfal rfl
      repeat' (first
        | assumption
        | (rw [hbq]; (conv => cbv))
        | (refine hk.brLssT (by omega) ?_; (conv => cbv))
        | (refine hk.brLssF (by omega) ?_; (conv => cbv))
        | (refine hk.brLeqT (by omega) ?_; (conv => cbv))
        | (refine hk.brLeqF (by omega) ?_; (conv => cbv))
        | (refine hk.brGtrT (by omega) ?_; (conv => cbv))
        | (refine hk.brGtrF (by omega) ?_; (conv => cbv))
        | (refine hk.brGeqT (by omega) ?_; (conv => cbv))
        | (refine hk.brGeqF (by omega) ?_; (conv => cbv))
        | (refine hk.brEqlT (by omega) ?_; (conv => cbv))
        | (refine hk.brEqlF (by omega) ?_; (conv => cbv))
        | (refine hk.brNeqT (by omega) ?_; (conv => cbv))
        | (refine hk.brNeqF (by omega) ?_; (conv => cbv))
        | (refine hk.brLss (fun _ => ?_) (fun _ => ?_) <;> (conv => cbv))
        | (refine hk.brLeq (fun _ => ?_) (fun _ => ?_) <;> (conv => cbv))
        | (refine hk.brGtr (fun _ => ?_) (fun _ => ?_) <;> (conv => cbv))
        | (refine hk.brGeq (fun _ => ?_) (fun _ => ?_) <;> (conv => cbv))
        | (refine hk.brEql (fun _ => ?_) (fun _ => ?_) <;> (conv => cbv))
        | (refine hk.brNeq (fun _ => ?_) (fun _ => ?_) <;> (conv => cbv))
        | (refine hk.brNotT ?_; (conv => cbv))
        | (refine hk.brNotF ?_; (conv => cbv))
        | (refine hk.brNotS _ (by simp [hk.c2_lss, hk.c2_leq, hk.c2_gtr, hk.c2_geq, hk.c2_eql, hk.c2_neq, hk.bn_eq, hk.bq_eq]; rfl) ?_; (conv => cbv))
        | (refine hk.brBqS _ (by simp [hk.c2_lss, hk.c2_leq, hk.c2_gtr, hk.c2_geq, hk.c2_eql, hk.c2_neq, hk.bn_eq, hk.bq_eq]; rfl) ?_; (conv => cbv))
        | (refine hk.idxI (by first | omega | assumption) (by first | omega | assumption) ?_; (conv => cbv))
        | (refine hk.nzI (by first | omega | assumption | decide) ?_; (conv => cbv))
        | (refine hk.ge0I (by first | omega | assumption) ?_; (conv => cbv))
        | (refine hk.needI (by first | (simp only [rNd, hk.sb_eq, hk.ad_eq]; omega) | (simp [rNd, hk.sb_eq, hk.ad_eq]; omega)) ?_; (conv => cbv))
        | (refine hk.callA (by assumption) ?_; (conv => cbv))
        | (refine hk.calldA (by assumption) ?_; (conv => cbv))
        | (rw [hk.sb0]; (conv => cbv))
        | (rw [hk.ad0]; (conv => cbv))
        | exact hk.finB (by first | rfl | (simp [hk.c2_lss, hk.c2_leq, hk.c2_gtr, hk.c2_geq, hk.c2_eql, hk.c2_neq, hk.bn_eq, hk.bq_eq]; done) | assumption)
        | exact hk.fin1 rfl)
      rw [hadd, hfal]
      exact hk.finI (fin_lowN 2 (Nat.le_refl 2) (.refl _ _) rfl rfl ⟨rfl, rfl⟩)
    · have hset := hset rfl
      repeat' (first
        | assumption
        | (rw [hbq]; (conv => cbv))
        | (refine hk.brLssT (by omega) ?_; (conv => cbv))
        | (refine hk.brLssF (by omega) ?_; (conv => cbv))
        | (refine hk.brLeqT (by omega) ?_; (conv => cbv))
        | (refine hk.brLeqF (by omega) ?_; (conv => cbv))
        | (refine hk.brGtrT (by omega) ?_; (conv => cbv))
        | (refine hk.brGtrF (by omega) ?_; (conv => cbv))
        | (refine hk.brGeqT (by omega) ?_; (conv => cbv))
        | (refine hk.brGeqF (by omega) ?_; (conv => cbv))
        | (refine hk.brEqlT (by omega) ?_; (conv => cbv))
        | (refine hk.brEqlF (by omega) ?_; (conv => cbv))
        | (refine hk.brNeqT (by omega) ?_; (conv => cbv))
        | (refine hk.brNeqF (by omega) ?_; (conv => cbv))
        | (refine hk.brLss (fun _ => ?_) (fun _ => ?_) <;> (conv => cbv))
        | (refine hk.brLeq (fun _ => ?_) (fun _ => ?_) <;> (conv => cbv))
        | (refine hk.brGtr (fun _ => ?_) (fun _ => ?_) <;> (conv => cbv))
        | (refine hk.brGeq (fun _ => ?_) (fun _ => ?_) <;> (conv => cbv))
        | (refine hk.brEql (fun _ => ?_) (fun _ => ?_) <;> (conv => cbv))
        | (refine hk.brNeq (fun _ => ?_) (fun _ => ?_) <;> (conv => cbv))
        | (refine hk.brNotT ?_; (conv => cbv))
        | (refine hk.brNotF ?_; (conv => cbv))
        | (refine hk.brNotS _ (by simp [hk.c2_lss, hk.c2_leq, hk.c2_gtr, hk.c2_geq, hk.c2_eql, hk.c2_neq, hk.bn_eq, hk.bq_eq]; rfl) ?_; (conv => cbv))
        | (refine hk.brBqS _ (by simp [hk.c2_lss, hk.c2_leq, hk.c2_gtr, hk.c2_geq, hk.c2_eql, hk.c2_neq, hk.bn_eq, hk.bq_eq]; rfl) ?_; (conv => cbv))
        | (refine hk.idxI (by first | omega | assumption) (by first | omega | assumption) ?_; (conv => cbv))
        | (refine hk.nzI (by first | omega | assumption | decide) ?_; (conv => cbv))
        | (refine hk.ge0I (by first | omega | assumption) ?_; (conv => cbv))
        | (refine hk.needI (by first | (simp only [rNd, hk.sb_eq, hk.ad_eq]; omega) | (simp [rNd, hk.sb_eq, hk.ad_eq]; omega)) ?_; (conv => cbv))
        | (refine hk.callA (by assumption) ?_; (conv => cbv))
        | (refine hk.calldA (by assumption) ?_; (conv => cbv))
        | (rw [hk.sb0]; (conv => cbv))
        | (rw [hk.ad0]; (conv => cbv))
        | exact hk.finB (by first | rfl | (simp [hk.c2_lss, hk.c2_leq, hk.c2_gtr, hk.c2_geq, hk.c2_eql, hk.c2_neq, hk.bn_eq, hk.bq_eq]; done) | assumption)
        | exact hk.fin1 rfl)
      rw [hadd, hrem, hquo, hset]
      exact hk.finI (fin_lowN 2 (Nat.le_refl 2) (.refl _ _) rfl rfl ⟨rfl, rfl⟩)
/-- A Writer: its box, its bytes. -/
def wr : List Bool → Heap
  | [] => [.box [.ls .nl .nil, I 0], .rw 0 (.il .u8 [])]
  | b :: r => wl (b :: r)
theorem wr_snoc (bits : List Bool) (b : Bool) : wr (bits ++ [b]) = wl (bits ++ [b]) := by cases bits <;> rfl
theorem bit_spec (bits : List Bool) (b : Bool) (hl : bits.length < 1099511627776) : Does PP 115 [.ptr 0 0, .bool b] (wr bits) (Is (.tup []) (wr (bits ++ [b]))) := by
  rw [wr_snoc]
  cases bits with
  | nil => exact Does.ghost (GE.link 0 0 1 [.ls .nl .nil, I 0] (.il .u8 []) rfl rfl rfl rfl) (bitL_spec [] b hl) (Nat.le_refl 2)
  | cons c r => exact bitL_spec (c :: r) b hl
end Go.Proofs.Ytnnpookoencpnaa
/- A Writer's contracts, 2. -/

set_option maxHeartbeats 4000000
set_option maxRecDepth 20000
set_option linter.unusedSimpArgs false
set_option linter.unusedVariables false
open Go Go.AL
namespace Go.Proofs.Ytnnpookoencpnaa
theorem wrapu64 {n : Int} (h1 : 0 ≤ n) (h2 : n < 18446744073709551616) : IntKind.wrap .u64 n = n := by
  have : IntKind.wrap .u64 n = n % 18446744073709551616 := rfl
  rw [this]; omega
theorem shr_nat (k : IntKind) (v i : Nat) (hi : i ≤ k.bits) : rI2 .shr k (v : Int) (i : Int) = ((v / 2 ^ i : Nat) : Int) := by
  show (v : Int).fdiv (2 ^ (min (i : Int).toNat k.bits)) = _
  rw [show min (i : Int).toNat k.bits = i by simp; omega, Int.fdiv_eq_ediv_of_nonneg _ (by exact Int.pow_nonneg (by decide))]
  simp
theorem and1_nat (v : Nat) (h : v < 18446744073709551616) : rI2 .and .u64 (v : Int) 1 = ((v % 2 : Nat) : Int) := by
  show IntKind.wrap .u64 (((BitVec.ofInt 64 (v : Int) &&& BitVec.ofInt 64 1).toNat : Nat) : Int) = _
  rw [BitVec.toNat_and, show (BitVec.ofInt 64 1).toNat = 1 by decide, BitVec.ofInt_natCast, BitVec.toNat_ofNat, Nat.and_one_is_mod, Nat.mod_mod_of_dvd _ (by decide)]
  exact wrapu64 (by omega) (by omega)
theorem bit_of (v i : Nat) (h : v < 18446744073709551616) (hi : i ≤ 64) : (rI2 .and .u64 (rI2 .shr .u64 (v : Int) (i : Int)) 1 = 1) ↔ v.testBit i = true := by
  rw [shr_nat .u64 v i hi, and1_nat _ (Nat.lt_of_le_of_lt (Nat.div_le_self _ _) h), Nat.testBit_eq_decide_div_mod_eq, decide_eq_true_eq]
  omega
theorem each_spec (x : AVal) (f : Nat) (v n : Int) (Hf : Nat → Heap) (hv : 0 ≤ v) (hv2 : v < 18446744073709551616) (hn : 0 ≤ n) (hn2 : n ≤ 48)
    (hy : ∀ k : Nat, k < n.toNat → Does PP f [x, .bool ((bitsOf v.toNat n.toNat).getD k false)] (Hf k) (Is (.tup []) (Hf (k + 1)))) :
    Does PP 114 [.int .u64 v, I n, .clo (.func f) [x] []] (Hf 0) (Is (.tup []) (Hf n.toNat)) := by
  have hy : ∀ (k : Nat) (i : Int), 0 ≤ i → i < n → k = (n - 1 - i).toNat → Does PP f [x, .bool (v.toNat.testBit i.toNat)] (Hf k) (Is (.tup []) (Hf (k + 1))) := fun k i h0 h1 h2 => by
    have := hy k (by omega)
    rwa [bitsOf_get _ _ _ (by omega), show n.toNat - 1 - k = i.toNat by omega] at this
  obtain ⟨E, hE⟩ : ∃ E, E = Hf n.toNat := ⟨_, rfl⟩
  have hE2 : ∀ k : Nat, (k : Int) = n → Hf k = E := fun k h => by rw [hE, ← h]; rfl
  rw [← hE]
  refine doesF P_ok Try.f114 (by kernel_rfl) (by kernel_rfl) ?_
  intro i2 c2 u1 cv mx mn ad sbt bn bq ba lnI gtI apI sbI stI rpI lnG gtG apG sbG stG rpG fi fb fs fl fg fc sln sgt sap ssb sc b2s s2b nd call calld callv callvd loop rfun fin hk
  obtain ⟨n1, hn1⟩ : ∃ n1, n1 = n - 1 := ⟨_, rfl⟩
  have hsub : i2 .sub .i64 n 1 = n1 := by rw [hn1]; exact hk.sub64 _ _ (by omega) (by omega)
  have hbit : ∀ i : Int, 0 ≤ i → i < n → c2 .eql (i2 .and .u64 (i2 .shr .u64 v i) 1) 1 = v.toNat.testBit i.toNat := fun i h0 h1 => by
    rw [hk.c2_eql, hk.i2_eq, Bool.eq_iff_iff, decide_eq_true_eq]
    have := bit_of v.toNat i.toNat (by omega) (by omega)
    rwa [show ((v.toNat : Nat) : Int) = v by omega, show ((i.toNat : Nat) : Int) = i by omega] at this
  obtain ⟨tb, htb⟩ : ∃ tb : Int → Bool, ∀ i, tb i = v.toNat.testBit i.toNat := ⟨_, fun _ => rfl⟩
  simp only [← htb] at hy hbit
  clear hE htb
  (conv => cbv)
  rw [hsub]
  refine hk.loopI (loop_rule (α := Nat × Int) (fun y => [(0, .int .u64 v), (2, .clo (.func f) [x] []), (6, .int .i64 y.2)]) (fun y => Hf y.1)
    (fun y => -1 ≤ y.2 ∧ y.2 < n ∧ (y.1 : Int) = n - 1 - y.2) (fun y => (y.2 + 1).toNat) (0, n1) ⟨by simp only; omega, by simp only; omega, by simp only; omega⟩ ?_ ?_)
  · exact Gh.tm (by repeat (first | exact Holds.nil _ _ | refine Holds.cons (Wk.refl _ _) ?_))
  intro ⟨k, i⟩ ⟨hi, hi2, hk2⟩ Q' hb hx hr
  simp only at hi hi2 hk2
  (conv => cbv)
  refine hk.brGeq (fun h1 => ?_) (fun h1 => ?_)
  · have hy := hy k i h1 hi2 (by omega)
    obtain ⟨i1, hi1⟩ : ∃ i1, i1 = i - 1 := ⟨_, rfl⟩
    have hsub : i2 .sub .i64 i 1 = i1 := by rw [hi1]; exact hk.sub64 _ _ (by omega) (by omega)
    (conv => cbv)
    refine hk.ge0I h1 ?_
    (conv => cbv)
    rw [hbit i h1 hi2]
    refine hk.callA hy ?_
    (conv => cbv)
    rw [hsub]
    refine hb (k + 1, i1) _ ⟨by simp only; omega, by simp only; omega, by simp only; omega⟩ (by simp only; omega) ?_
    refine Gh.tm ?_
    repeat' (first | exact Holds.nil _ _ | refine Holds.cons (Wk.refl _ _) ?_ | refine Holds.cons (Wk.of_eq ?_) ?_)
  · have hE2 := hE2 k (by omega)
    rw [hE2]
    refine hx _ _ ?_
    (conv => cbv)
    exact hk.fin1 rfl
/-- Bits one after the other. -/
theorem take_snoc (l : List Bool) (k : Nat) (h : k < l.length) : l.take (k + 1) = l.take k ++ [l.getD k false] := by
  rw [List.take_add_one]
  simp [List.getD, h]
theorem put_spec (bits : List Bool) (v n : Int) (hl : bits.length < 1000000000000) (hn : 0 ≤ n) (hn2 : n ≤ 48) (hv : 0 ≤ v) (hv2 : v < 2 ^ n.toNat) :
    Does PP 80 [.ptr 0 0, .int .u64 v, I n] (wr bits) (Is (.bool true) (wr (bits ++ bitsOf v.toNat n.toNat))) := by
  have hp48 : (2 : Int) ^ n.toNat ≤ 2 ^ 48 := by
    have := Nat.pow_le_pow_right (n := 2) (by decide) (show n.toNat ≤ 48 by omega)
    exact Int.ofNat_le.2 this
  have hv3 : v < 281474976710656 := Int.lt_of_lt_of_le hv2 hp48
  have hev := each_spec (.ptr 0 0) 115 v n (fun k => wr (bits ++ (bitsOf v.toNat n.toNat).take k)) hv (by omega) hn hn2 (fun k hk' => by
    rw [take_snoc _ _ (by rw [bitsOf_len]; exact hk'), ← List.append_assoc]
    exact bit_spec _ _ (by rw [List.length_append, List.length_take, bitsOf_len]; omega))
  simp only [List.take_zero, List.append_nil] at hev
  rw [List.take_of_length_le (by rw [bitsOf_len]; exact Nat.le_refl _)] at hev
  obtain ⟨H0, hH0⟩ : ∃ H, H = wr bits := ⟨_, rfl⟩
  obtain ⟨H1, hH1⟩ : ∃ H, H = wr (bits ++ bitsOf v.toNat n.toNat) := ⟨_, rfl⟩
  rw [← hH0, ← hH1] at hev
  rw [← hH0, ← hH1]
  clear hH0 hH1
  refine doesF P_ok Try.f80 (by kernel_rfl) (by kernel_rfl) ?_
  intro i2 c2 u1 cv mx mn ad sbt bn bq ba lnI gtI apI sbI stI rpI lnG gtG apG sbG stG rpG fi fb fs fl fg fc sln sgt sap ssb sc b2s s2b nd call calld callv callvd loop rfun fin hk
  have hsh : i2 .shr .u64 v n = 0 := by
    rw [hk.i2_eq, show v = ((v.toNat : Nat) : Int) by omega, show n = ((n.toNat : Nat) : Int) by omega, shr_nat .u64 _ _ (by simp [IntKind.bits]; omega)]
    rw [Nat.div_eq_of_lt (Int.ofNat_lt.1 (by rw [show ((v.toNat : Nat) : Int) = v by omega]; simpa using hv2))]
    rfl
  (conv => cbv)
  repeat' (first
    | assumption
    | (refine hk.brLssT (by omega) ?_; (conv => cbv))
    | (refine hk.brLssF (by omega) ?_; (conv => cbv))
    | (refine hk.brLeqT (by omega) ?_; (conv => cbv))
    | (refine hk.brLeqF (by omega) ?_; (conv => cbv))
    | (refine hk.brGtrT (by omega) ?_; (conv => cbv))
    | (refine hk.brGtrF (by omega) ?_; (conv => cbv))
    | (refine hk.brGeqT (by omega) ?_; (conv => cbv))
    | (refine hk.brGeqF (by omega) ?_; (conv => cbv))
    | (refine hk.brEqlT (by omega) ?_; (conv => cbv))
    | (refine hk.brEqlF (by omega) ?_; (conv => cbv))
    | (refine hk.brNeqT (by omega) ?_; (conv => cbv))
    | (refine hk.brNeqF (by omega) ?_; (conv => cbv))
    | (refine hk.brLss (fun _ => ?_) (fun _ => ?_) <;> (conv => cbv))
    | (refine hk.brLeq (fun _ => ?_) (fun _ => ?_) <;> (conv => cbv))
    | (refine hk.brGtr (fun _ => ?_) (fun _ => ?_) <;> (conv => cbv))
    | (refine hk.brGeq (fun _ => ?_) (fun _ => ?_) <;> (conv => cbv))
    | (refine hk.brEql (fun _ => ?_) (fun _ => ?_) <;> (conv => cbv))
    | (refine hk.brNeq (fun _ => ?_) (fun _ => ?_) <;> (conv => cbv))
    | (refine hk.brNotT ?_; (conv => cbv))
    | (refine hk.brNotF ?_; (conv => cbv))
    | (refine hk.brNotS _ (by simp [hk.c2_lss, hk.c2_leq, hk.c2_gtr, hk.c2_geq, hk.c2_eql, hk.c2_neq, hk.bn_eq, hk.bq_eq]; rfl) ?_; (conv => cbv))
    | (refine hk.brBqS _ (by simp [hk.c2_lss, hk.c2_leq, hk.c2_gtr, hk.c2_geq, hk.c2_eql, hk.c2_neq, hk.bn_eq, hk.bq_eq]; rfl) ?_; (conv => cbv))
    | (refine hk.idxI (by first | omega | assumption) (by first | omega | assumption) ?_; (conv => cbv))
    | (refine hk.nzI (by first | omega | assumption | decide) ?_; (conv => cbv))
    | (refine hk.ge0I (by first | omega | assumption) ?_; (conv => cbv))
    | (refine hk.needI (by first | (simp only [rNd, hk.sb_eq, hk.ad_eq]; omega) | (simp [rNd, hk.sb_eq, hk.ad_eq]; omega)) ?_; (conv => cbv))
    | (refine hk.callA (by assumption) ?_; (conv => cbv))
    | (refine hk.calldA (by assumption) ?_; (conv => cbv))
    | (rw [hk.sb0]; (conv => cbv))
    | (rw [hk.ad0]; (conv => cbv))
    | exact hk.finB (by first | rfl | (simp [hk.c2_lss, hk.c2_leq, hk.c2_gtr, hk.c2_geq, hk.c2_eql, hk.c2_neq, hk.bn_eq, hk.bq_eq]; done) | assumption)
    | exact hk.fin1 rfl)
theorem put_bad (h : Heap) (x : AVal) (v n : Int) (hv : 0 ≤ v) (hb : n < 0 ∨ n > 48 ∨ v ≥ 2 ^ n.toNat) : Does PP 80 [x, .int .u64 v, I n] h (Is (.bool false) h) := by
  refine doesF P_ok Try.f80 (by kernel_rfl) (by kernel_rfl) ?_
  intro i2 c2 u1 cv mx mn ad sbt bn bq ba lnI gtI apI sbI stI rpI lnG gtG apG sbG stG rpG fi fb fs fl fg fc sln sgt sap ssb sc b2s s2b nd call calld callv callvd loop rfun fin hk
  have hsh : 0 ≤ n → n ≤ 48 → ¬ i2 .shr .u64 v n = 0 := fun h0 h1 => by
    have hb : v ≥ 2 ^ n.toNat := by rcases hb with h | h | h; omega; omega; exact h
    rw [hk.i2_eq, show v = ((v.toNat : Nat) : Int) by omega, show n = ((n.toNat : Nat) : Int) by omega, shr_nat .u64 _ _ (by simp [IntKind.bits]; omega)]
    have h2 : 2 ^ n.toNat ≤ v.toNat := Int.ofNat_le.1 (by rw [show ((v.toNat : Nat) : Int) = v by omega]; simpa using hb)
    have h3 : 0 < v.toNat / 2 ^ n.toNat := Nat.div_pos h2 (Nat.pow_pos (by decide))
    omega
  clear hb
  (conv => cbv)
  repeat' (first
    | assumption
    | (refine hk.brLssT (by omega) ?_; (conv => cbv))
    | (refine hk.brLssF (by omega) ?_; (conv => cbv))
    | (refine hk.brLeqT (by omega) ?_; (conv => cbv))
    | (refine hk.brLeqF (by omega) ?_; (conv => cbv))
    | (refine hk.brGtrT (by omega) ?_; (conv => cbv))
    | (refine hk.brGtrF (by omega) ?_; (conv => cbv))
    | (refine hk.brGeqT (by omega) ?_; (conv => cbv))
    | (refine hk.brGeqF (by omega) ?_; (conv => cbv))
    | (refine hk.brEqlT (by omega) ?_; (conv => cbv))
    | (refine hk.brEqlF (by omega) ?_; (conv => cbv))
    | (refine hk.brNeqT (by omega) ?_; (conv => cbv))
    | (refine hk.brNeqF (by omega) ?_; (conv => cbv))
    | (refine hk.brLss (fun _ => ?_) (fun _ => ?_) <;> (conv => cbv))
    | (refine hk.brLeq (fun _ => ?_) (fun _ => ?_) <;> (conv => cbv))
    | (refine hk.brGtr (fun _ => ?_) (fun _ => ?_) <;> (conv => cbv))
    | (refine hk.brGeq (fun _ => ?_) (fun _ => ?_) <;> (conv => cbv))
    | (refine hk.brEql (fun _ => ?_) (fun _ => ?_) <;> (conv => cbv))
    | (refine hk.brNeq (fun _ => ?_) (fun _ => ?_) <;> (conv => cbv))
    | (refine hk.brNotT ?_; (conv => cbv))
    | (refine hk.brNotF ?_; (conv => cbv))
    | (refine hk.brNotS _ (by simp [hk.c2_lss, hk.c2_leq, hk.c2_gtr, hk.c2_geq, hk.c2_eql, hk.c2_neq, hk.bn_eq, hk.bq_eq]; rfl) ?_; (conv => cbv))
    | (refine hk.brBqS _ (by simp [hk.c2_lss, hk.c2_leq, hk.c2_gtr, hk.c2_geq, hk.c2_eql, hk.c2_neq, hk.bn_eq, hk.bq_eq]; rfl) ?_; (conv => cbv))
    | (refine hk.idxI (by first | omega | assumption) (by first | omega | assumption) ?_; (conv => cbv))
    | (refine hk.nzI (by first | omega | assumption | decide) ?_; (conv => cbv))
    | (refine hk.ge0I (by first | omega | assumption) ?_; (conv => cbv))
    | (refine hk.needI (by first | (simp only [rNd, hk.sb_eq, hk.ad_eq]; omega) | (simp [rNd, hk.sb_eq, hk.ad_eq]; omega)) ?_; (conv => cbv))
    | (refine hk.callA (by assumption) ?_; (conv => cbv))
    | (refine hk.calldA (by assumption) ?_; (conv => cbv))
    | (rw [hk.sb0]; (conv => cbv))
    | (rw [hk.ad0]; (conv => cbv))
    | exact hk.finB (by first | rfl | (simp [hk.c2_lss, hk.c2_leq, hk.c2_gtr, hk.c2_geq, hk.c2_eql, hk.c2_neq, hk.bn_eq, hk.bq_eq]; done) | assumption)
    | exact hk.fin1 rfl)
theorem lenL_spec (bits : List Bool) : Does PP 41 [.ptr 0 0] (wl bits) (Is (I (bits.length : Nat)) (wl bits)) := by
  unfold wl
  obtain ⟨n, hn⟩ : ∃ n : Int, n = (bits.length : Nat) := ⟨_, rfl⟩
  obtain ⟨P, hP⟩ : ∃ P, P = pack bits := ⟨_, rfl⟩
  obtain ⟨B, hB⟩ : ∃ B, B = nby bits.length := ⟨_, rfl⟩
  obtain ⟨Bz, hBz⟩ : ∃ Bz : Int, Bz = (B : Nat) := ⟨_, rfl⟩
  rw [← hB, ← hBz, ← hn, ← hP]
  refine doesF P_ok Try.f41 (by kernel_rfl) (by kernel_rfl) ?_
  intro i2 c2 u1 cv mx mn ad sbt bn bq ba lnI gtI apI sbI stI rpI lnG gtG apG sbG stG rpG fi fb fs fl fg fc sln sgt sap ssb sc b2s s2b nd call calld callv callvd loop rfun fin hk
  (conv => cbv)
  exact hk.fin1 rfl
theorem wlen_spec (bits : List Bool) : Does PP 41 [.ptr 0 0] (wr bits) (Is (I (bits.length : Nat)) (wr bits)) := by
  cases bits with
  | nil =>
    refine doesF P_ok Try.f41 (by kernel_rfl) (by kernel_rfl) ?_
    intro i2 c2 u1 cv mx mn ad sbt bn bq ba lnI gtI apI sbI stI rpI lnG gtG apG sbG stG rpG fi fb fs fl fg fc sln sgt sap ssb sc b2s s2b nd call calld callv callvd loop rfun fin hk
    (conv => cbv)
    exact hk.fin1 rfl
  | cons c r => exact lenL_spec (c :: r)
abbrev L8 (l : List Int) : AVal := .ls (.il .u8 l) .any
theorem clone8_spec (l : List Int) (o : AObj) (g : Nat) (n : Int) (hn : n.toNat = l.length) (hn0 : 0 < n) (hl : l.length ≤ 140737488355328) (ho : low 2 (AVal.junk) = true) (hlo : lowOs 2 [o, .rw g (.il .u8 l)] = true) :
    Does PP 82 [.sl 1 g 0 n] [o, .rw g (.il .u8 l)] (Is (L8 l) [o, .rw g (.il .u8 l)]) := by
  refine doesF P_ok Try.f82 (by kernel_rfl) (by kernel_rfl) ?_
  intro i2 c2 u1 cv mx mn ad sbt bn bq ba lnI gtI apI sbI stI rpI lnG gtG apG sbG stG rpG fi fb fs fl fg fc sln sgt sap ssb sc b2s s2b nd call calld callv callvd loop rfun fin hk
  have hbq : Nat.beq g g = true := Nat.beq_refl g
  have hsb : sbI l 0 n = l := by rw [hk.sbI_eq]; simp [hn]
  have hln : lnI l = n := by rw [hk.lnI_eq]; omega
  have hn1 : n ≤ 140737488355328 := by omega
  clear ho
  (conv at hbq => cbv)
  (conv => cbv)
  repeat' (first
    | assumption
    | (rw [hbq]; (conv => cbv))
    | (refine hk.brLssT (by omega) ?_; (conv => cbv))
    | (refine hk.brLssF (by omega) ?_; (conv => cbv))
    | (refine hk.brLeqT (by omega) ?_; (conv => cbv))
    | (refine hk.brLeqF (by omega) ?_; (conv => cbv))
    | (refine hk.brGtrT (by omega) ?_; (conv => cbv))
    | (refine hk.brGtrF (by omega) ?_; (conv => cbv))
    | (refine hk.brGeqT (by omega) ?_; (conv => cbv))
    | (refine hk.brGeqF (by omega) ?_; (conv => cbv))
    | (refine hk.brEqlT (by omega) ?_; (conv => cbv))
    | (refine hk.brEqlF (by omega) ?_; (conv => cbv))
    | (refine hk.brNeqT (by omega) ?_; (conv => cbv))
    | (refine hk.brNeqF (by omega) ?_; (conv => cbv))
    | (refine hk.brLss (fun _ => ?_) (fun _ => ?_) <;> (conv => cbv))
    | (refine hk.brLeq (fun _ => ?_) (fun _ => ?_) <;> (conv => cbv))
    | (refine hk.brGtr (fun _ => ?_) (fun _ => ?_) <;> (conv => cbv))
    | (refine hk.brGeq (fun _ => ?_) (fun _ => ?_) <;> (conv => cbv))
    | (refine hk.brEql (fun _ => ?_) (fun _ => ?_) <;> (conv => cbv))
    | (refine hk.brNeq (fun _ => ?_) (fun _ => ?_) <;> (conv => cbv))
    | (refine hk.brNotT ?_; (conv => cbv))
    | (refine hk.brNotF ?_; (conv => cbv))
    | (refine hk.brNotS _ (by simp [hk.c2_lss, hk.c2_leq, hk.c2_gtr, hk.c2_geq, hk.c2_eql, hk.c2_neq, hk.bn_eq, hk.bq_eq]; rfl) ?_; (conv => cbv))
    | (refine hk.brBqS _ (by simp [hk.c2_lss, hk.c2_leq, hk.c2_gtr, hk.c2_geq, hk.c2_eql, hk.c2_neq, hk.bn_eq, hk.bq_eq]; rfl) ?_; (conv => cbv))
    | (refine hk.idxI (by first | omega | assumption) (by first | omega | assumption) ?_; (conv => cbv))
    | (refine hk.nzI (by first | omega | assumption | decide) ?_; (conv => cbv))
    | (refine hk.ge0I (by first | omega | assumption) ?_; (conv => cbv))
    | (refine hk.needI (by first | (simp only [rNd, hk.sb_eq, hk.ad_eq]; omega) | (simp [rNd, hk.sb_eq, hk.ad_eq]; omega)) ?_; (conv => cbv))
    | (refine hk.callA (by assumption) ?_; (conv => cbv))
    | (refine hk.calldA (by assumption) ?_; (conv => cbv))
    | (rw [hk.sb0]; (conv => cbv))
    | (rw [hk.ad0]; (conv => cbv))
    | exact hk.finB (by first | rfl | (simp [hk.c2_lss, hk.c2_leq, hk.c2_gtr, hk.c2_geq, hk.c2_eql, hk.c2_neq, hk.bn_eq, hk.bq_eq]; done) | assumption)
    | exact hk.fin1 rfl)
  rw [hsb, hln]
  refine hk.needI (by first | (simp only [rNd, hk.ad_eq, hk.sb_eq]; omega) | (simp [rNd, hk.ad_eq, hk.sb_eq]; omega)) ?_
  exact hk.finI (fin_lowN 2 (Nat.le_refl 2) (Wk.any _ _ _) rfl hlo ⟨rfl, rfl⟩)
theorem clone8_nil (h : Heap) : Does PP 82 [.ls .nl .nil] h (Is (L8 []) h) := by
  refine pure0 ?_ rfl rfl h
  refine doesF P_ok Try.f82 (by kernel_rfl) (by kernel_rfl) ?_
  intro i2 c2 u1 cv mx mn ad sbt bn bq ba lnI gtI apI sbI stI rpI lnG gtG apG sbG stG rpG fi fb fs fl fg fc sln sgt sap ssb sc b2s s2b nd call calld callv callvd loop rfun fin hk
  (conv => cbv)
  repeat' (first
    | assumption
    | (refine hk.brLssT (by omega) ?_; (conv => cbv))
    | (refine hk.brLssF (by omega) ?_; (conv => cbv))
    | (refine hk.brLeqT (by omega) ?_; (conv => cbv))
    | (refine hk.brLeqF (by omega) ?_; (conv => cbv))
    | (refine hk.brGtrT (by omega) ?_; (conv => cbv))
    | (refine hk.brGtrF (by omega) ?_; (conv => cbv))
    | (refine hk.brGeqT (by omega) ?_; (conv => cbv))
    | (refine hk.brGeqF (by omega) ?_; (conv => cbv))
    | (refine hk.brEqlT (by omega) ?_; (conv => cbv))
    | (refine hk.brEqlF (by omega) ?_; (conv => cbv))
    | (refine hk.brNeqT (by omega) ?_; (conv => cbv))
    | (refine hk.brNeqF (by omega) ?_; (conv => cbv))
    | (refine hk.brLss (fun _ => ?_) (fun _ => ?_) <;> (conv => cbv))
    | (refine hk.brLeq (fun _ => ?_) (fun _ => ?_) <;> (conv => cbv))
    | (refine hk.brGtr (fun _ => ?_) (fun _ => ?_) <;> (conv => cbv))
    | (refine hk.brGeq (fun _ => ?_) (fun _ => ?_) <;> (conv => cbv))
    | (refine hk.brEql (fun _ => ?_) (fun _ => ?_) <;> (conv => cbv))
    | (refine hk.brNeq (fun _ => ?_) (fun _ => ?_) <;> (conv => cbv))
    | (refine hk.brNotT ?_; (conv => cbv))
    | (refine hk.brNotF ?_; (conv => cbv))
    | (refine hk.brNotS _ (by simp [hk.c2_lss, hk.c2_leq, hk.c2_gtr, hk.c2_geq, hk.c2_eql, hk.c2_neq, hk.bn_eq, hk.bq_eq]; rfl) ?_; (conv => cbv))
    | (refine hk.brBqS _ (by simp [hk.c2_lss, hk.c2_leq, hk.c2_gtr, hk.c2_geq, hk.c2_eql, hk.c2_neq, hk.bn_eq, hk.bq_eq]; rfl) ?_; (conv => cbv))
    | (refine hk.idxI (by first | omega | assumption) (by first | omega | assumption) ?_; (conv => cbv))
    | (refine hk.nzI (by first | omega | assumption | decide) ?_; (conv => cbv))
    | (refine hk.ge0I (by first | omega | assumption) ?_; (conv => cbv))
    | (refine hk.needI (by first | (simp only [rNd, hk.sb_eq, hk.ad_eq]; omega) | (simp [rNd, hk.sb_eq, hk.ad_eq]; omega)) ?_; (conv => cbv))
    | (refine hk.callA (by assumption) ?_; (conv => cbv))
    | (refine hk.calldA (by assumption) ?_; (conv => cbv))
    | (rw [hk.sb0]; (conv => cbv))
    | (rw [hk.ad0]; (conv => cbv))
    | exact hk.finB (by first | rfl | (simp [hk.c2_lss, hk.c2_leq, hk.c2_gtr, hk.c2_geq, hk.c2_eql, hk.c2_neq, hk.bn_eq, hk.bq_eq]; done) | assumption)
    | exact hk.fin1 rfl)
  exact hk.fin0 rfl rfl (Wk.nilL _ _)
theorem bytes_spec (bits : List Bool) (hl : bits.length < 1099511627776) : Does PP 43 [.ptr 0 0] (wr bits) (Is (L8 (pack bits)) (wr bits)) := by
  cases bits with
  | nil =>
    have hc := clone8_nil [.box [.ls .nl .nil, I 0], .rw 0 (.il .u8 [])]
    refine doesF P_ok Try.f43 (by kernel_rfl) (by kernel_rfl) ?_
    intro i2 c2 u1 cv mx mn ad sbt bn bq ba lnI gtI apI sbI stI rpI lnG gtG apG sbG stG rpG fi fb fs fl fg fc sln sgt sap ssb sc b2s s2b nd call calld callv callvd loop rfun fin hk
    (conv => cbv)
    repeat' (first
      | assumption
      | (refine hk.brLssT (by omega) ?_; (conv => cbv))
      | (refine hk.brLssF (by omega) ?_; (conv => cbv))
      | (refine hk.brLeqT (by omega) ?_; (conv => cbv))
      | (refine hk.brLeqF (by omega) ?_; (conv => cbv))
      | (refine hk.brGtrT (by omega) ?_; (conv => cbv))
      | (refine hk.brGtrF (by omega) ?_; (conv => cbv))
      | (refine hk.brGeqT (by omega) ?_; (conv => cbv))
      | (refine hk.brGeqF (by omega) ?_; (conv => cbv))
      | (refine hk.brEqlT (by omega) ?_; (conv => cbv))
      | (refine hk.brEqlF (by omega) ?_; (conv => cbv))
      | (refine hk.brNeqT (by omega) ?_; (conv => cbv))
      | (refine hk.brNeqF (by omega) ?_; (conv => cbv))
      | (refine hk.brLss (fun _ => ?_) (fun _ => ?_) <;> (conv => cbv))
      | (refine hk.brLeq (fun _ => ?_) (fun _ => ?_) <;> (conv => cbv))
      | (refine hk.brGtr (fun _ => ?_) (fun _ => ?_) <;> (conv => cbv))
      | (refine hk.brGeq (fun _ => ?_) (fun _ => ?_) <;> (conv => cbv))
      | (refine hk.brEql (fun _ => ?_) (fun _ => ?_) <;> (conv => cbv))
      | (refine hk.brNeq (fun _ => ?_) (fun _ => ?_) <;> (conv => cbv))
      | (refine hk.brNotT ?_; (conv => cbv))
      | (refine hk.brNotF ?_; (conv => cbv))
      | (refine hk.brNotS _ (by simp [hk.c2_lss, hk.c2_leq, hk.c2_gtr, hk.c2_geq, hk.c2_eql, hk.c2_neq, hk.bn_eq, hk.bq_eq]; rfl) ?_; (conv => cbv))
      | (refine hk.brBqS _ (by simp [hk.c2_lss, hk.c2_leq, hk.c2_gtr, hk.c2_geq, hk.c2_eql, hk.c2_neq, hk.bn_eq, hk.bq_eq]; rfl) ?_; (conv => cbv))
      | (refine hk.idxI (by first | omega | assumption) (by first | omega | assumption) ?_; (conv => cbv))
      | (refine hk.nzI (by first | omega | assumption | decide) ?_; (conv => cbv))
      | (refine hk.ge0I (by first | omega | assumption) ?_; (conv => cbv))
      | (refine hk.needI (by first | (simp only [rNd, hk.sb_eq, hk.ad_eq]; omega) | (simp [rNd, hk.sb_eq, hk.ad_eq]; omega)) ?_; (conv => cbv))
      | (refine hk.callA (by assumption) ?_; (conv => cbv))
      | (refine hk.calldA (by assumption) ?_; (conv => cbv))
      | (rw [hk.sb0]; (conv => cbv))
      | (rw [hk.ad0]; (conv => cbv))
      | exact hk.finB (by first | rfl | (simp [hk.c2_lss, hk.c2_leq, hk.c2_gtr, hk.c2_geq, hk.c2_eql, hk.c2_neq, hk.bn_eq, hk.bq_eq]; done) | assumption)
      | exact hk.fin1 rfl)
  | cons c r =>
    show Does PP 43 [.ptr 0 0] (wl (c :: r)) (Is (L8 (pack (c :: r))) (wl (c :: r)))
    unfold wl
    obtain ⟨bits, hbits⟩ : ∃ b, b = c :: r := ⟨_, rfl⟩
    have hb1 : 1 ≤ bits.length := by rw [hbits]; simp
    rw [← hbits] at hl ⊢
    obtain ⟨n, hn⟩ : ∃ n : Int, n = (bits.length : Nat) := ⟨_, rfl⟩
    have hpl := pack_len bits
    obtain ⟨P, hP⟩ : ∃ P, P = pack bits := ⟨_, rfl⟩
    obtain ⟨B, hB⟩ : ∃ B, B = nby bits.length := ⟨_, rfl⟩
    obtain ⟨Bz, hBz⟩ : ∃ Bz : Int, Bz = (B : Nat) := ⟨_, rfl⟩
    rw [← hB] at hpl
    rw [nby] at hB
    have hB2 : B = nby bits.length := by rw [nby]; exact hB
    rw [← hB2, ← hBz, ← hn, ← hP]
    rw [← hP] at hpl
    have hc := clone8_spec P (.box [.sl 1 B 0 Bz, .int .i64 n]) B Bz (by omega) (by omega) (by omega) rfl rfl
    refine doesF P_ok Try.f43 (by kernel_rfl) (by kernel_rfl) ?_
    intro i2 c2 u1 cv mx mn ad sbt bn bq ba lnI gtI apI sbI stI rpI lnG gtG apG sbG stG rpG fi fb fs fl fg fc sln sgt sap ssb sc b2s s2b nd call calld callv callvd loop rfun fin hk
    clear hP hB2 hbits
    (conv => cbv)
    repeat' (first
      | assumption
      | (refine hk.brLssT (by omega) ?_; (conv => cbv))
      | (refine hk.brLssF (by omega) ?_; (conv => cbv))
      | (refine hk.brLeqT (by omega) ?_; (conv => cbv))
      | (refine hk.brLeqF (by omega) ?_; (conv => cbv))
      | (refine hk.brGtrT (by omega) ?_; (conv => cbv))
      | (refine hk.brGtrF (by omega) ?_; (conv => cbv))
      | (refine hk.brGeqT (by omega) ?_; (conv => cbv))
      | (refine hk.brGeqF (by omega) ?_; (conv => cbv))
      | (refine hk.brEqlT (by omega) ?_; (conv => cbv))
      | (refine hk.brEqlF (by omega) ?_; (conv => cbv))
      | (refine hk.brNeqT (by omega) ?_; (conv => cbv))
      | (refine hk.brNeqF (by omega) ?_; (conv => cbv))
      | (refine hk.brLss (fun _ => ?_) (fun _ => ?_) <;> (conv => cbv))
      | (refine hk.brLeq (fun _ => ?_) (fun _ => ?_) <;> (conv => cbv))
      | (refine hk.brGtr (fun _ => ?_) (fun _ => ?_) <;> (conv => cbv))
      | (refine hk.brGeq (fun _ => ?_) (fun _ => ?_) <;> (conv => cbv))
      | (refine hk.brEql (fun _ => ?_) (fun _ => ?_) <;> (conv => cbv))
      | (refine hk.brNeq (fun _ => ?_) (fun _ => ?_) <;> (conv => cbv))
      | (refine hk.brNotT ?_; (conv => cbv))
      | (refine hk.brNotF ?_; (conv => cbv))
      | (refine hk.brNotS _ (by simp [hk.c2_lss, hk.c2_leq, hk.c2_gtr, hk.c2_geq, hk.c2_eql, hk.c2_neq, hk.bn_eq, hk.bq_eq]; rfl) ?_; (conv => cbv))
      | (refine hk.brBqS _ (by simp [hk.c2_lss, hk.c2_leq, hk.c2_gtr, hk.c2_geq, hk.c2_eql, hk.c2_neq, hk.bn_eq, hk.bq_eq]; rfl) ?_; (conv => cbv))
      | (refine hk.idxI (by first | omega | assumption) (by first | omega | assumption) ?_; (conv => cbv))
      | (refine hk.nzI (by first | omega | assumption | decide) ?_; (conv => cbv))
      | (refine hk.ge0I (by first | omega | assumption) ?_; (conv => cbv))
      | (refine hk.needI (by first | (simp only [rNd, hk.sb_eq, hk.ad_eq]; omega) | (simp [rNd, hk.sb_eq, hk.ad_eq]; omega)) ?_; (conv => cbv))
      | (refine hk.callA (by assumption) ?_; (conv => cbv))
      | (refine hk.calldA (by assumption) ?_; (conv => cbv))
      | (rw [hk.sb0]; (conv => cbv))
      | (rw [hk.ad0]; (conv => cbv))
      | exact hk.finB (by first | rfl | (simp [hk.c2_lss, hk.c2_leq, hk.c2_gtr, hk.c2_geq, hk.c2_eql, hk.c2_neq, hk.bn_eq, hk.bq_eq]; done) | assumption)
      | exact hk.fin1 rfl)
end Go.Proofs.Ytnnpookoencpnaa
