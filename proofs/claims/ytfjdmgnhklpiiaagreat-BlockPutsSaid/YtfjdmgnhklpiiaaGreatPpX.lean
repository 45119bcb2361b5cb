/- Bits, the highest first: the plain part. -/
import Derived.Test.YtfjdmgnhklpiiaaGreatTryTab
import Derived.Test.YtfjdmgnhklpiiaaGreatAl4
import Derived.Test.YtfjdmgnhklpiiaaGreatBaseX
set_option linter.unusedSimpArgs false
set_option linter.unusedVariables false
open Go Go.AL
namespace Go.Proofs.YtfjdmgnhklpiiaaGreat
def bitsOf (v : Nat) : Nat → List Bool
  | 0 => []
  | n + 1 => bitsOf (v / 2) n ++ [v % 2 == 1]
theorem bitsOf_len (v n : Nat) : (bitsOf v n).length = n := by
  induction n generalizing v with
  | zero => rfl
  | succ n ih => simp [bitsOf, ih]
theorem bitsOf_get (v n k : Nat) (h : k < n) : (bitsOf v n).getD k false = v.testBit (n - 1 - k) := by
  induction n generalizing v with
  | zero => omega
  | succ n ih =>
    simp only [bitsOf]
    by_cases hk : k < n
    · rw [List.getD_eq_getElem?_getD, List.getElem?_append_left (by rw [bitsOf_len]; exact hk), ← List.getD_eq_getElem?_getD, ih _ hk, Nat.testBit_div_two]
      congr 1; omega
    · have : k = n := by omega
      subst this
      rw [List.getD_eq_getElem?_getD, List.getElem?_append_right (by rw [bitsOf_len]; exact Nat.le_refl _), bitsOf_len]
      simp
      rw [Bool.eq_iff_iff]
      simp
theorem snocRec {p : List Bool → Prop} (h0 : p []) (h1 : ∀ l b, p l → p (l ++ [b])) (l : List Bool) : p l := by
  have : ∀ l : List Bool, p l.reverse := fun l => by
    induction l with
    | nil => exact h0
    | cons b l ih => rw [List.reverse_cons]; exact h1 _ _ ih
  have := this l.reverse
  rwa [List.reverse_reverse] at this
def num (l : List Bool) : Nat := l.foldl (fun a b => 2 * a + b.toNat) 0
theorem num_snoc (l : List Bool) (b : Bool) : num (l ++ [b]) = 2 * num l + b.toNat := by simp [num]
theorem num_lt : ∀ l : List Bool, num l < 2 ^ l.length := fun l => by
  refine snocRec (p := fun l => num l < 2 ^ l.length) ?_ (fun l b ih => ?_) l
  · simp [num]
  ·
    rw [num_snoc, List.length_append, List.length_singleton, Nat.pow_succ]
    cases b <;> simp <;> omega
theorem num_bitsOf (v n : Nat) : num (bitsOf v n) = v % 2 ^ n := by
  induction n generalizing v with
  | zero => simp [bitsOf, num, Nat.mod_one]
  | succ n ih =>
    simp only [bitsOf]
    rw [num_snoc, ih, Nat.pow_succ, Nat.mul_comm (2 ^ n) 2, Nat.mod_mul]
    have : (v % 2 == 1).toNat = v % 2 := by rcases Nat.mod_two_eq_zero_or_one v with h | h <;> simp [h]
    rw [this]; omega
theorem bitsOf_num : ∀ l : List Bool, bitsOf (num l) l.length = l := fun l => by
  refine snocRec (p := fun l => bitsOf (num l) l.length = l) ?_ (fun l b ih => ?_) l
  · rfl
  ·
    rw [List.length_append, List.length_singleton]
    simp only [bitsOf]
    rw [num_snoc]
    have h1 : (2 * num l + b.toNat) / 2 = num l := by cases b <;> simp <;> omega
    have h2 : ((2 * num l + b.toNat) % 2 == 1) = b := by cases b <;> simp <;> omega
    rw [h1, h2, ih]
def byteAt (bits : List Bool) (i : Nat) : Nat :=
  128 * (bits.getD (8 * i) false).toNat + 64 * (bits.getD (8 * i + 1) false).toNat + 32 * (bits.getD (8 * i + 2) false).toNat + 16 * (bits.getD (8 * i + 3) false).toNat +
  8 * (bits.getD (8 * i + 4) false).toNat + 4 * (bits.getD (8 * i + 5) false).toNat + 2 * (bits.getD (8 * i + 6) false).toNat + (bits.getD (8 * i + 7) false).toNat
theorem byteAt_lt (bits : List Bool) (i : Nat) : byteAt bits i < 256 := by
  unfold byteAt
  have h := fun k => Bool.toNat_le (bits.getD k false)
  have := h (8 * i); have := h (8 * i + 1); have := h (8 * i + 2); have := h (8 * i + 3); have := h (8 * i + 4); have := h (8 * i + 5); have := h (8 * i + 6); have := h (8 * i + 7)
  omega
def nby (n : Nat) : Nat := (n + 7) / 8
def pack (bits : List Bool) : List Int := (List.range (nby bits.length)).map fun i => (byteAt bits i : Int)
theorem pack_len (bits : List Bool) : (pack bits).length = nby bits.length := by simp [pack]
theorem pack_get (bits : List Bool) (i : Nat) (h : i < nby bits.length) : (pack bits).getD i 0 = byteAt bits i := by simp [pack, List.getD, h]
theorem getD_snoc (bits : List Bool) (b : Bool) (k : Nat) : (bits ++ [b]).getD k false = if k = bits.length then b else bits.getD k false := by
  rw [List.getD_eq_getElem?_getD, List.getD_eq_getElem?_getD, List.getElem?_append]
  split
  · rw [if_neg (by omega)]
  · split
    · rename_i h; subst h; simp
    · rw [List.getElem?_eq_none (by simp; omega), List.getElem?_eq_none (by omega)]
theorem getD_out (bits : List Bool) (k : Nat) (h : bits.length ≤ k) : bits.getD k false = false := by
  rw [List.getD_eq_getElem?_getD, List.getElem?_eq_none h]; rfl
theorem byteAt_snoc (bits : List Bool) (b : Bool) (i : Nat) : byteAt (bits ++ [b]) i = byteAt bits i + (if i = bits.length / 8 then b.toNat * 2 ^ (7 - bits.length % 8) else 0) := by
  have h := getD_out bits
  unfold byteAt
  simp only [getD_snoc]
  by_cases hi : i = bits.length / 8
  · rw [if_pos hi]
    have hr : bits.length % 8 < 8 := Nat.mod_lt _ (by decide)
    have hn : bits.length = 8 * i + bits.length % 8 := by omega
    obtain ⟨r, hre⟩ : ∃ r, r = bits.length % 8 := ⟨_, rfl⟩
    rw [← hre] at hn hr ⊢
    have e : ∀ j, (8 * i + j = bits.length) = (j = r) := fun j => propext ⟨fun h => by omega, fun h => by omega⟩
    have e0 : (8 * i = bits.length) = (0 = r) := propext ⟨fun h => by omega, fun h => by omega⟩
    simp only [e, e0]
    have hz : ∀ j, r ≤ j → (bits.getD (8 * i + j) false).toNat = 0 := fun j hj => by rw [h _ (by omega)]; rfl
    have hz0 : r = 0 → (bits.getD (8 * i) false).toNat = 0 := fun hj => by rw [h _ (by omega)]; rfl
    clear e e0 hi hn h
    match r, hr with
    | 0, _ => simp only [Nat.reduceEqDiff, reduceIte, Nat.reduceSub, Nat.reducePow, Nat.reduceAdd]; simp only [hz0 rfl, hz 1 (by omega), hz 2 (by omega), hz 3 (by omega), hz 4 (by omega), hz 5 (by omega), hz 6 (by omega), hz 7 (by omega)]; omega
    | 1, _ => simp only [Nat.reduceEqDiff, reduceIte, Nat.reduceSub, Nat.reducePow, Nat.reduceAdd]; simp only [hz 1 (by omega), hz 2 (by omega), hz 3 (by omega), hz 4 (by omega), hz 5 (by omega), hz 6 (by omega), hz 7 (by omega)]; omega
    | 2, _ => simp only [Nat.reduceEqDiff, reduceIte, Nat.reduceSub, Nat.reducePow, Nat.reduceAdd]; simp only [hz 2 (by omega), hz 3 (by omega), hz 4 (by omega), hz 5 (by omega), hz 6 (by omega), hz 7 (by omega)]; omega
    | 3, _ => simp only [Nat.reduceEqDiff, reduceIte, Nat.reduceSub, Nat.reducePow, Nat.reduceAdd]; simp only [hz 3 (by omega), hz 4 (by omega), hz 5 (by omega), hz 6 (by omega), hz 7 (by omega)]; omega
    | 4, _ => simp only [Nat.reduceEqDiff, reduceIte, Nat.reduceSub, Nat.reducePow, Nat.reduceAdd]; simp only [hz 4 (by omega), hz 5 (by omega), hz 6 (by omega), hz 7 (by omega)]; omega
    | 5, _ => simp only [Nat.reduceEqDiff, reduceIte, Nat.reduceSub, Nat.reducePow, Nat.reduceAdd]; simp only [hz 5 (by omega), hz 6 (by omega), hz 7 (by omega)]; omega
    | 6, _ => simp only [Nat.reduceEqDiff, reduceIte, Nat.reduceSub, Nat.reducePow, Nat.reduceAdd]; simp only [hz 6 (by omega), hz 7 (by omega)]; omega
    | 7, _ => simp only [Nat.reduceEqDiff, reduceIte, Nat.reduceSub, Nat.reducePow, Nat.reduceAdd]; simp only [hz 7 (by omega)]; omega
  · rw [if_neg hi]
    have e : ∀ j, j < 8 → ¬ (8 * i + j = bits.length) := fun j hj => by omega
    have e0 := e 0 (by omega); have e1 := e 1 (by omega); have e2 := e 2 (by omega); have e3 := e 3 (by omega); have e4 := e 4 (by omega); have e5 := e 5 (by omega); have e6 := e 6 (by omega); have e7 := e 7 (by omega)
    rw [Nat.add_zero] at e0
    simp only [e0, e1, e2, e3, e4, e5, e6, e7, if_false, Nat.add_zero]
theorem byteAt_low (bits : List Bool) : ∃ a, byteAt bits (bits.length / 8) = 2 ^ (8 - bits.length % 8) * a := by
  have h := getD_out bits
  have hr : bits.length % 8 < 8 := Nat.mod_lt _ (by decide)
  have hn : bits.length = 8 * (bits.length / 8) + bits.length % 8 := by omega
  obtain ⟨i, hi⟩ : ∃ i, i = bits.length / 8 := ⟨_, rfl⟩
  obtain ⟨r, hre⟩ : ∃ r, r = bits.length % 8 := ⟨_, rfl⟩
  rw [← hre, ← hi] at hn
  rw [← hre] at hr ⊢
  rw [← hi]
  have hz : ∀ j, r ≤ j → (bits.getD (8 * i + j) false).toNat = 0 := fun j hj => by rw [h _ (by omega)]; rfl
  have hz0 : r = 0 → (bits.getD (8 * i) false).toNat = 0 := fun hj => by rw [h _ (by omega)]; rfl
  unfold byteAt
  clear hi hre hn h
  match r, hr with
  | 0, _ => exact ⟨0, by rw [hz0 rfl, hz 1 (by omega), hz 2 (by omega), hz 3 (by omega), hz 4 (by omega), hz 5 (by omega), hz 6 (by omega), hz 7 (by omega)]⟩
  | 1, _ => exact ⟨_, by rw [hz 1 (by omega), hz 2 (by omega), hz 3 (by omega), hz 4 (by omega), hz 5 (by omega), hz 6 (by omega), hz 7 (by omega)]; rfl⟩
  | 2, _ => exact ⟨2 * (bits.getD (8 * i) false).toNat + (bits.getD (8 * i + 1) false).toNat, by rw [hz 2 (by omega), hz 3 (by omega), hz 4 (by omega), hz 5 (by omega), hz 6 (by omega), hz 7 (by omega)]; omega⟩
  | 3, _ => exact ⟨4 * (bits.getD (8 * i) false).toNat + 2 * (bits.getD (8 * i + 1) false).toNat + (bits.getD (8 * i + 2) false).toNat, by rw [hz 3 (by omega), hz 4 (by omega), hz 5 (by omega), hz 6 (by omega), hz 7 (by omega)]; omega⟩
  | 4, _ => exact ⟨8 * (bits.getD (8 * i) false).toNat + 4 * (bits.getD (8 * i + 1) false).toNat + 2 * (bits.getD (8 * i + 2) false).toNat + (bits.getD (8 * i + 3) false).toNat, by rw [hz 4 (by omega), hz 5 (by omega), hz 6 (by omega), hz 7 (by omega)]; omega⟩
  | 5, _ => exact ⟨16 * (bits.getD (8 * i) false).toNat + 8 * (bits.getD (8 * i + 1) false).toNat + 4 * (bits.getD (8 * i + 2) false).toNat + 2 * (bits.getD (8 * i + 3) false).toNat + (bits.getD (8 * i + 4) false).toNat, by rw [hz 5 (by omega), hz 6 (by omega), hz 7 (by omega)]; omega⟩
  | 6, _ => exact ⟨32 * (bits.getD (8 * i) false).toNat + 16 * (bits.getD (8 * i + 1) false).toNat + 8 * (bits.getD (8 * i + 2) false).toNat + 4 * (bits.getD (8 * i + 3) false).toNat + 2 * (bits.getD (8 * i + 4) false).toNat + (bits.getD (8 * i + 5) false).toNat, by rw [hz 6 (by omega), hz 7 (by omega)]; omega⟩
  | 7, _ => exact ⟨64 * (bits.getD (8 * i) false).toNat + 32 * (bits.getD (8 * i + 1) false).toNat + 16 * (bits.getD (8 * i + 2) false).toNat + 8 * (bits.getD (8 * i + 3) false).toNat + 4 * (bits.getD (8 * i + 4) false).toNat + 2 * (bits.getD (8 * i + 5) false).toNat + (bits.getD (8 * i + 6) false).toNat, by rw [hz 7 (by omega)]; omega⟩
def room1 (bits : List Bool) : List Int := if bits.length % 8 = 0 then pack bits ++ [0] else pack bits
theorem room1_len (bits : List Bool) : (room1 bits).length = bits.length / 8 + 1 := by
  unfold room1
  split <;> simp [pack_len, nby] <;> omega
theorem room1_get (bits : List Bool) : (room1 bits).getD (bits.length / 8) 0 = byteAt bits (bits.length / 8) := by
  unfold room1
  split
  · rename_i h
    have e : (pack bits).length = bits.length / 8 := by rw [pack_len, nby]; omega
    rw [List.getD_eq_getElem?_getD, List.getElem?_append_right (by omega), e]
    have hz := getD_out bits
    simp only [byteAt]
    rw [hz _ (by omega), hz _ (by omega), hz _ (by omega), hz _ (by omega), hz _ (by omega), hz _ (by omega), hz _ (by omega), hz _ (by omega)]
    simp
  · rename_i h
    exact pack_get _ _ (by rw [nby]; omega)
theorem ilist_ext {l m : List Int} (h1 : l.length = m.length) (h2 : ∀ i, i < l.length → l.getD i 0 = m.getD i 0) : l = m := by
  refine List.ext_getElem h1 fun i hi hi' => ?_
  have := h2 i hi
  simpa [List.getD, hi, hi'] using this
theorem pack_snoc (bits : List Bool) (b : Bool) : pack (bits ++ [b]) = (room1 bits).set (bits.length / 8) (byteAt bits (bits.length / 8) + b.toNat * 2 ^ (7 - bits.length % 8) : Nat) := by
  refine ilist_ext ?_ fun i hi => ?_
  · rw [List.length_set, room1_len, pack_len, nby, List.length_append, List.length_singleton]; omega
  · rw [pack_len] at hi
    rw [pack_get _ _ hi, byteAt_snoc]
    rw [nby, List.length_append, List.length_singleton] at hi
    rw [List.getD_eq_getElem?_getD, List.getElem?_set]
    by_cases h : bits.length / 8 = i
    · subst h
      rw [if_pos rfl, if_pos rfl, if_pos (by rw [room1_len]; omega)]
      rfl
    · rw [if_neg h, if_neg (Ne.symm h), ← List.getD_eq_getElem?_getD]
      have : (room1 bits).getD i 0 = (pack bits).getD i 0 := by
        unfold room1
        split
        · rw [List.getD_eq_getElem?_getD, List.getElem?_append_left (by rw [pack_len, nby]; omega), List.getD_eq_getElem?_getD]
        · rfl
      rw [this, pack_get _ _ (by rw [nby]; omega)]
      rfl
theorem pack_snoc_false (bits : List Bool) : pack (bits ++ [false]) = room1 bits := by
  rw [pack_snoc]
  refine ilist_ext (by simp) fun i hi => ?_
  rw [List.getD_eq_getElem?_getD, List.getElem?_set]
  by_cases h : bits.length / 8 = i
  · subst h
    rw [if_pos rfl, if_pos (by rw [room1_len]; omega), room1_get]
    simp
  · rw [if_neg h, List.getD_eq_getElem?_getD]
def unpack (bs : List Int) : List Bool := bs.flatMap fun x => bitsOf x.toNat 8
theorem unpack_len (bs : List Int) : (unpack bs).length = 8 * bs.length := by
  induction bs with
  | nil => rfl
  | cons x r ih => simp only [unpack, List.flatMap_cons, List.length_append, bitsOf_len, List.length_cons] at ih ⊢; omega
theorem unpack_get (bs : List Int) (k : Nat) (h : k < 8 * bs.length) : (unpack bs).getD k false = (bs.getD (k / 8) 0).toNat.testBit (7 - k % 8) := by
  induction bs generalizing k with
  | nil => simp at h
  | cons x r ih =>
    have e : unpack (x :: r) = bitsOf x.toNat 8 ++ unpack r := rfl
    rw [e]
    by_cases hk : k < 8
    · rw [List.getD_eq_getElem?_getD, List.getElem?_append_left (by rw [bitsOf_len]; exact hk), ← List.getD_eq_getElem?_getD, bitsOf_get _ _ _ hk, show k / 8 = 0 by omega, show k % 8 = k by omega]
      rfl
    · rw [List.getD_eq_getElem?_getD, List.getElem?_append_right (by rw [bitsOf_len]; omega), bitsOf_len, ← List.getD_eq_getElem?_getD, ih (k - 8) (by simp at h; omega),
        show k / 8 = (k - 8) / 8 + 1 by omega, show (k - 8) % 8 = k % 8 by omega]
      rfl
end Go.Proofs.YtfjdmgnhklpiiaaGreat
/- Small laws of bits and whole numbers. -/
set_option maxHeartbeats 4000000
set_option maxRecDepth 20000
set_option linter.unusedSimpArgs false
set_option linter.unusedVariables false
open Go Go.AL
namespace Go.Proofs.YtfjdmgnhklpiiaaGreat
theorem wrapu8 {n : Int} (h1 : 0 ≤ n) (h2 : n < 256) : IntKind.wrap .u8 n = n := by
  have : IntKind.wrap .u8 n = n % 256 := rfl
  rw [this]; omega
theorem or_low (k : IntKind) (i a b : Nat) (hb : b < 2 ^ i) (ha : 2 ^ i * a + b < 2 ^ k.bits) : (BitVec.ofInt k.bits ((2 ^ i * a : Nat) : Int) ||| BitVec.ofInt k.bits (b : Int)).toNat = 2 ^ i * a + b := by
  rw [BitVec.ofInt_natCast, BitVec.ofInt_natCast, BitVec.toNat_or, BitVec.toNat_ofNat, BitVec.toNat_ofNat, Nat.mod_eq_of_lt (by omega), Nat.mod_eq_of_lt (by omega), Nat.two_pow_add_eq_or_of_lt hb]
theorem wrapu64 {n : Int} (h1 : 0 ≤ n) (h2 : n < 18446744073709551616) : IntKind.wrap .u64 n = n := by
  have : IntKind.wrap .u64 n = n % 18446744073709551616 := rfl
  rw [this]; omega
theorem shr_nat (k : IntKind) (v i : Nat) (hi : i ≤ k.bits) : rI2 .shr k (v : Int) (i : Int) = ((v / 2 ^ i : Nat) : Int) := by
  show (v : Int).fdiv (2 ^ (min (i : Int).toNat k.bits)) = _
  rw [show min (i : Int).toNat k.bits = i by simp; omega, Int.fdiv_eq_ediv_of_nonneg _ (by exact Int.pow_nonneg (by decide))]
  simp
theorem and1_nat (v : Nat) (h : v < 18446744073709551616) : rI2 .and .u64 (v : Int) 1 = ((v % 2 : Nat) : Int) := by
  show IntKind.wrap .u64 (((BitVec.ofInt 64 (v : Int) &&& BitVec.ofInt 64 1).toNat : Nat) : Int) = _
  rw [BitVec.toNat_and, show (BitVec.ofInt 64 1).toNat = 1 by decide, BitVec.ofInt_natCast, BitVec.toNat_ofNat, Nat.and_one_is_mod, Nat.mod_mod_of_dvd _ (by decide)]
  exact wrapu64 (by omega) (by omega)
abbrev L8 (l : List Int) : AVal := .ls (.il .u8 l) .any
theorem take_snoc (l : List Bool) (k : Nat) (h : k < l.length) : l.take (k + 1) = l.take k ++ [l.getD k false] := by
  rw [List.take_add_one]
  simp [List.getD, h]
end Go.Proofs.YtfjdmgnhklpiiaaGreat
/- A Reader's contracts. -/
set_option maxHeartbeats 4000000
set_option maxRecDepth 20000
set_option linter.unusedSimpArgs false
set_option linter.unusedVariables false
open Go Go.AL
namespace Go.Proofs.YtfjdmgnhklpiiaaGreat
def rd (bs : List Int) (at_ fail : Int) : Heap := [.box [.ls (.il .u8 bs) .any, .int .i64 at_, .int .i64 fail]]
abbrev Bytes8 (bs : List Int) : Prop := ∀ x ∈ bs, 0 ≤ x ∧ x < 256
def remOf (bs : List Int) (at_ : Int) : List Bool := (unpack bs).drop at_.toNat
theorem remOf_len (bs : List Int) (at_ : Int) : (remOf bs at_).length = 8 * bs.length - at_.toNat := by rw [remOf, List.length_drop, unpack_len]
theorem rbit_spec (bs : List Int) (at_ fail : Int) (hB : Bytes8 bs) (h0 : 0 ≤ at_) (h1 : at_.toNat < 8 * bs.length) (hl : bs.length < 137438953472) :
    Does PP 78 [.ptr 0 0] (rd bs at_ fail) (Is (.int .u64 (((unpack bs).getD at_.toNat false).toNat : Nat)) (rd bs (at_ + 1) fail)) := by
  unfold rd
  obtain ⟨v, hv⟩ : ∃ v : Int, v = ((((unpack bs).getD at_.toNat false).toNat : Nat) : Int) := ⟨_, rfl⟩
  obtain ⟨a1, ha1⟩ : ∃ v : Int, v = at_ + 1 := ⟨_, rfl⟩
  rw [← hv, ← ha1]
  refine wlk Tryz.f78 ?_
  unhygienic intros
  obtain ⟨q, hq⟩ : ∃ q : Int, q = at_ / 8 := ⟨_, rfl⟩
  obtain ⟨r, hr⟩ : ∃ r : Int, r = at_ % 8 := ⟨_, rfl⟩
  obtain ⟨s, hs⟩ : ∃ s : Int, s = 7 - r := ⟨_, rfl⟩
  obtain ⟨x, hx⟩ : ∃ x : Int, x = gtI bs q := ⟨_, rfl⟩
  have hrem : i2 .rem .i64 at_ 8 = r := by rw [hk.i2_rem, Int.tmod_eq_emod_of_nonneg h0]; omega
  have hquo : i2 .quo .i64 at_ 8 = q := by rw [hk.i2_quo, Int.tdiv_eq_ediv_of_nonneg h0, wrap64 (by omega) (by omega)]; omega
  have hsub : i2 .sub .i64 7 r = s := by rw [hs]; exact hk.sub64 _ _ (by omega) (by omega)
  have hadd : i2 .add .i64 at_ 1 = a1 := by rw [ha1]; exact hk.add64 _ _ (by omega) (by omega)
  have hxr : 0 ≤ x ∧ x < 256 := by
    rw [hx, hk.gtI_eq, List.getD_eq_getElem?_getD, List.getElem?_eq_getElem (by omega)]
    exact hB _ (List.getElem_mem _)
  have hcv : cv .u64 x = x := by rw [hk.cv_eq]; exact wrapu64 hxr.1 (by omega)
  have hval : i2 .and .u64 (i2 .shr .u64 x s) 1 = v := by
    have h2 := unpack_get bs at_.toNat h1
    rw [show bs.getD (at_.toNat / 8) 0 = x by rw [hx, hk.gtI_eq]; congr 1; omega] at h2
    rw [hk.i2_eq, show x = ((x.toNat : Nat) : Int) by omega, show s = ((s.toNat : Nat) : Int) by omega, shr_nat .u64 _ _ (by simp [IntKind.bits]; omega), and1_nat _ (Nat.lt_of_le_of_lt (Nat.div_le_self _ _) (by omega)), hv, h2, show 7 - at_.toNat % 8 = s.toNat by omega, Nat.testBit_eq_decide_div_mod_eq]
    rcases Nat.mod_two_eq_zero_or_one (x.toNat / 2 ^ s.toNat) with h | h <;> simp [h]
  have hidx : 0 ≤ q ∧ q < lnI bs := by rw [hk.lnI_eq]; omega
  have hs0 : 0 ≤ s := by omega
  clear hB h1 hl hv
  (conv => cbv)
  rw [hquo, hrem, hsub, ← hx, hcv, hval, hadd]
  exact hk.nzI (n := 8) (by decide) (hk.idxI hidx.1 hidx.2 (hk.nzI (n := 8) (by decide) (hk.ge0I hs0 (hk.fin1 rfl))))
theorem give_spec (bs : List Int) (at_ fail e : Int) : Does PP 31 [.ptr 0 0, I e] (rd bs at_ fail) (Is (.tup []) (rd bs at_ (if fail = 0 then e else fail))) := by
  unfold rd
  obtain ⟨f, hf⟩ : ∃ f, f = if fail = 0 then e else fail := ⟨_, rfl⟩
  rw [← hf]
  refine wlk Tryz.f31 ?_
  unhygienic intros
  (conv => cbv)
  repeat' (first
    | assumption
    | (refine stpB (fun _ => ?_) (fun _ => ?_) <;> (conv => cbv))
    | (refine stp ?_; (conv => cbv))
    | exact stpF
    | fail)
  · rename_i h
    rw [if_pos h] at hf
    subst hf
    exact hk.fin1 rfl
  · rename_i h
    rw [if_neg h] at hf
    subst hf
    exact hk.fin1 rfl
theorem left_spec (bs : List Int) (at_ fail : Int) (h0 : 0 ≤ at_) (h1 : at_.toNat ≤ 8 * bs.length) (hl : bs.length < 137438953472) : Does PP 15 [.ptr 0 0] (rd bs at_ fail) (Is (I ((remOf bs at_).length : Nat)) (rd bs at_ fail)) := by
  unfold rd
  obtain ⟨f, hf⟩ : ∃ f : Int, f = ((remOf bs at_).length : Nat) := ⟨_, rfl⟩
  rw [← hf]
  rw [remOf_len] at hf
  refine wlk Tryz.f15 ?_
  unhygienic intros
  have e : i2 .sub .i64 (i2 .mul .i64 (lnI bs) 8) at_ = f := by
    rw [hk.lnI_eq, hk.mul64 _ _ (by omega) (by omega), hk.sub64 _ _ (by omega) (by omega)]; omega
  clear hf h1 hl
  (conv => cbv)
  rw [e]
  exact hk.fin1 rfl
theorem fail_spec (bs : List Int) (at_ fail : Int) : Does PP 11 [.ptr 0 0] (rd bs at_ fail) (Is (I fail) (rd bs at_ fail)) := by
  unfold rd
  refine wlk Tryz.f11 ?_
  unhygienic intros
  (conv => cbv)
  exact hk.fin1 rfl
def tkF (rem : List Bool) (fail n : Int) : Int := if fail ≠ 0 then fail else if n < 0 ∨ n > 48 then 1 else if n > rem.length then 3 else 0
def tkN (rem : List Bool) (fail n : Int) : Int := if tkF rem fail n = 0 then n else 0
def tkV (rem : List Bool) (fail n : Int) : Int := if tkF rem fail n = 0 then (num (rem.take n.toNat) : Nat) else 0
theorem tkF_ok {rem : List Bool} {fail n : Int} (h : tkF rem fail n = 0) : fail = 0 ∧ 0 ≤ n ∧ n ≤ 48 ∧ n.toNat ≤ rem.length := by
  unfold tkF at h
  split at h
  · contradiction
  · split at h
    · omega
    · split at h
      · omega
      · omega
theorem num_cons_take (l : List Bool) (k : Nat) (h : k < l.length) : num (l.take (k + 1)) = 2 * num (l.take k) + (l.getD k false).toNat := by
  rw [take_snoc _ _ h, num_snoc]
theorem shl_or (v b : Nat) (hv : v < 4611686018427387904) (hb : b < 2) : rI2 .or .u64 (rI2 .shl .u64 (v : Int) 1) (b : Int) = ((2 * v + b : Nat) : Int) := by
  have e : rI2 .shl .u64 (v : Int) 1 = ((2 ^ 1 * v : Nat) : Int) := by
    show IntKind.wrap .u64 ((v : Int) * 2 ^ (min (1 : Int).toNat 64)) = _
    rw [show min (1 : Int).toNat 64 = 1 by decide, wrapu64 (by omega) (by omega)]
    omega
  rw [e]
  show IntKind.wrap .u64 _ = _
  rw [or_low .u64 1 v b (by omega) (by show 2 ^ 1 * v + b < 18446744073709551616; omega)]
  exact wrapu64 (by omega) (by omega)
end Go.Proofs.YtfjdmgnhklpiiaaGreat
/- A Reader's contracts, 2. -/
set_option maxHeartbeats 4000000
set_option maxRecDepth 20000
set_option linter.unusedSimpArgs false
set_option linter.unusedVariables false
open Go Go.AL
namespace Go.Proofs.YtfjdmgnhklpiiaaGreat
theorem rtake_spec (bs : List Int) (at_ fail n : Int) (hB : Bytes8 bs) (h0 : 0 ≤ at_) (h1 : at_.toNat ≤ 8 * bs.length) (hl : bs.length < 137438953472) :
    Does PP 32 [.ptr 0 0, I n] (rd bs at_ fail) (Is (.int .u64 (tkV (remOf bs at_) fail n)) (rd bs (at_ + tkN (remOf bs at_) fail n) (tkF (remOf bs at_) fail n))) := by
  obtain ⟨rem, hrem⟩ : ∃ r, r = remOf bs at_ := ⟨_, rfl⟩
  have hbit := fun (k : Nat) (hk' : at_.toNat + k < 8 * bs.length) => rbit_spec bs (at_ + k) 0 hB (by omega) (by omega) hl
  have hgive := fun f e => give_spec bs at_ f e
  have hleft := left_spec bs at_ fail h0 h1 hl
  have hrl := remOf_len bs at_
  have hget : ∀ k : Nat, k < rem.length → (unpack bs).getD (at_ + k).toNat false = rem.getD k false := fun k h => by
    rw [hrem, remOf, List.getD_eq_getElem?_getD, List.getD_eq_getElem?_getD, List.getElem?_drop]
    congr 2; omega
  rw [← hrem] at hleft hrl ⊢
  obtain ⟨F, hF⟩ : ∃ F, F = tkF rem fail n := ⟨_, rfl⟩
  obtain ⟨N, hN⟩ : ∃ F, F = tkN rem fail n := ⟨_, rfl⟩
  obtain ⟨V, hV⟩ : ∃ F, F = tkV rem fail n := ⟨_, rfl⟩
  rw [← hF, ← hN, ← hV]
  have hbit : ∀ (k a : Int), 0 ≤ k → k.toNat < rem.length → a = at_ + k → Does PP 78 [.ptr 0 0] (rd bs a 0) (Is (.int .u64 ((rem.getD k.toNat false).toNat : Nat)) (rd bs (a + 1) 0)) := fun k a h2 h3 h4 => by
    subst h4
    have := hbit k.toNat (by omega)
    rw [show ((k.toNat : Nat) : Int) = k by omega] at this
    rwa [show (at_ + k).toNat = (at_ + ((k.toNat : Nat) : Int)).toNat by congr 1; omega, hget _ h3] at this
  have hvn : ∀ k : Int, 0 ≤ k → k.toNat < rem.length → k < 48 → ∀ v : Int, v = (num (rem.take k.toNat) : Nat) → rI2 .or .u64 (rI2 .shl .u64 v 1) ((rem.getD k.toNat false).toNat : Nat) = (num (rem.take (k + 1).toNat) : Nat) := fun k h2 h3 h4 v hv => by
    rw [hv, show (k + 1).toNat = k.toNat + 1 by omega, num_cons_take _ _ h3]
    refine shl_or _ _ ?_ (by cases rem.getD k.toNat false <;> decide)
    have h5 := num_lt (rem.take k.toNat)
    rw [List.length_take] at h5
    exact Nat.lt_of_lt_of_le h5 (Nat.le_trans (Nat.pow_le_pow_right (n := 2) (by decide) (show min k.toNat rem.length ≤ 62 by omega)) (by decide))
  obtain ⟨L, hL⟩ : ∃ L : Int, L = (rem.length : Nat) := ⟨_, rfl⟩
  rw [← hL] at hleft
  have cases3 : (F ≠ 0 ∧ N = 0 ∧ V = 0 ∧ (fail ≠ 0 ∧ F = fail ∨ fail = 0 ∧ (n < 0 ∨ n > 48) ∧ F = 1 ∨ fail = 0 ∧ ¬ (n < 0 ∨ n > 48) ∧ n > L ∧ F = 3)) ∨ (F = 0 ∧ N = n ∧ V = (num (rem.take n.toNat) : Nat) ∧ fail = 0 ∧ 0 ≤ n ∧ n ≤ 48 ∧ n ≤ L) := by
    by_cases h : tkF rem fail n = 0
    · right
      obtain ⟨a1, a2, a3, a4⟩ := tkF_ok h
      exact ⟨by rw [hF, h], by rw [hN, tkN, if_pos h], by rw [hV, tkV, if_pos h], a1, a2, a3, by omega⟩
    · left
      refine ⟨by rw [hF]; exact h, by rw [hN, tkN, if_neg h], by rw [hV, tkV, if_neg h], ?_⟩
      unfold tkF at h hF
      split at hF
      · rename_i h2; exact .inl ⟨h2, hF⟩
      · rename_i h2
        split at hF
        · rename_i h3; exact .inr (.inl ⟨by omega, h3, hF⟩)
        · rename_i h3
          split at hF
          · rename_i h4; exact .inr (.inr ⟨by omega, h3, by omega, hF⟩)
          · rename_i h4; rw [if_neg h2, if_neg h3, if_neg h4] at h; exact absurd rfl h
  rcases cases3 with ⟨hF0, hN0, hV0, hc⟩ | ⟨hF0, hN0, hV0, hf0, hn0, hn1, hnL⟩
  · subst hN0 hV0
    rw [Int.add_zero]
    have hg1 := hgive fail 1
    have hg3 := hgive fail 3
    have e1 : fail ≠ 0 ∨ (n < 0 ∨ n > 48) → (if fail = 0 then (1 : Int) else fail) = F := fun h => by
      split <;> omega
    have e3 : fail ≠ 0 ∨ ¬ (n < 0 ∨ n > 48) → (if fail = 0 then (3 : Int) else fail) = F := fun h => by
      split <;> omega
    have hg1 : fail ≠ 0 ∨ (n < 0 ∨ n > 48) → Does PP 31 [.ptr 0 0, I 1] (rd bs at_ fail) (Is (.tup []) (rd bs at_ F)) := fun h => by rw [← e1 h]; exact hg1
    have hg3 : fail ≠ 0 ∨ ¬ (n < 0 ∨ n > 48) → Does PP 31 [.ptr 0 0, I 3] (rd bs at_ fail) (Is (.tup []) (rd bs at_ F)) := fun h => by rw [← e3 h]; exact hg3
    unfold rd at hg1 hg3 hleft ⊢
    clear hgive hbit hB h1 hl hrem hrl hget hF hN hV hvn hL e1 e3
    refine wlk Tryz.f32 ?_
    unhygienic intros
    (conv => cbv)
    refine hk.brLss (fun h => ?_) (fun h => ?_)
    · have hg1 := hg1 (by omega)
      (conv => cbv)
      repeat' (first | assumption | ((first | refine stp ?_ | refine stpB (fun _ => ?_) (fun _ => ?_)) <;> (conv => cbv)) | exact stpF | fail)
    (conv => cbv)
    refine hk.brGtr (fun h => ?_) (fun h => ?_)
    · have hg1 := hg1 (by omega)
      (conv => cbv)
      repeat' (first | assumption | ((first | refine stp ?_ | refine stpB (fun _ => ?_) (fun _ => ?_)) <;> (conv => cbv)) | exact stpF | fail)
    have hg3 := hg3 (by omega)
    (conv => cbv)
    refine hk.callA hleft ?_
    (conv => cbv)
    refine hk.brGtr (fun h => ?_) (fun h => ?_)
    · (conv => cbv)
      repeat' (first | assumption | ((first | refine stp ?_ | refine stpB (fun _ => ?_) (fun _ => ?_)) <;> (conv => cbv)) | exact stpF | fail)
    · have : fail = F := by omega
      subst this
      (conv => cbv)
      repeat' (first | assumption | ((first | refine stp ?_ | refine stpB (fun _ => ?_) (fun _ => ?_)) <;> (conv => cbv)) | exact stpF | fail)
  · subst hF0 hN0 hV0 hf0
    unfold rd at hleft hbit ⊢
    obtain ⟨a9, ha9⟩ : ∃ a, a = at_ + N := ⟨_, rfl⟩
    obtain ⟨Vn, hVn⟩ : ∃ V : Int, V = (num (rem.take N.toNat) : Nat) := ⟨_, rfl⟩
    rw [← ha9, ← hVn]
    obtain ⟨Bv, hBv⟩ : ∃ Bv : Int → Int, ∀ k, Bv k = ((rem.getD k.toNat false).toNat : Nat) := ⟨_, fun _ => rfl⟩
    have hbit : ∀ (k a a1 : Int), 0 ≤ k → k < N → a = at_ + k → a1 = a + 1 → Does PP 78 [.ptr 0 0] [.box [.ls (.il .u8 bs) .any, .int .i64 a, .int .i64 0]] (Is (.int .u64 (Bv k)) [.box [.ls (.il .u8 bs) .any, .int .i64 a1, .int .i64 0]]) := fun k a a1 b1 b2 b3 b4 => by
      rw [b4, hBv]; exact hbit k a b1 (by omega) b3
    have hvn : ∀ k : Int, 0 ≤ k → k < N → ∀ v : Int, v = (num (rem.take k.toNat) : Nat) → rI2 .or .u64 (rI2 .shl .u64 v 1) (Bv k) = (num (rem.take (k + 1).toNat) : Nat) := fun k b1 b2 v b3 => by
      rw [hBv]; exact hvn k b1 (by omega) (by omega) v b3
    obtain ⟨Nm, hNm⟩ : ∃ Nm : Int → Int, ∀ k, Nm k = (num (rem.take k.toNat) : Nat) := ⟨_, fun _ => rfl⟩
    have hN0 : Nm 0 = 0 := by rw [hNm]; simp [num]
    simp only [← hNm] at hvn hVn
    clear hgive hB h1 hl hrem hrl hget hF hN hV hL hBv hNm
    refine wlk Tryz.f32 ?_
    unhygienic intros
    rw [← hk.i2_eq] at hvn
    (conv => cbv)
    repeat' (first | assumption | ((first | refine stp ?_ | refine stpB (fun _ => ?_) (fun _ => ?_)) <;> (conv => cbv)) | exact stpF | fail)
    refine hk.loopI (loop_rule (α := Int × Int × Int) (fun x => [(0, .ptr 0 0), (5, .int .u64 x.2.2), (27, .int .i64 N), (28, .int .i64 x.1)]) (fun x => [.box [.ls (.il .u8 bs) .any, .int .i64 x.2.1, .int .i64 0]])
      (fun x => 0 ≤ x.1 ∧ x.1 ≤ N ∧ x.2.1 = at_ + x.1 ∧ x.2.2 = Nm x.1) (fun x => (N - x.1).toNat) (0, at_, 0) ⟨by omega, by simp only; omega, by simp only; omega, by simp only; omega⟩ ?_ ?_)
    · exact Gh.tm (by repeat (first | exact Holds.nil _ _ | refine Holds.cons (Wk.refl _ _) ?_))
    intro ⟨k, a, v⟩ ⟨hk0, hk1, ha, hv⟩ Q' hb hx hr
    simp only at hk0 hk1 ha hv
    (conv => cbv)
    refine hk.brLss (fun h2 => ?_) (fun h2 => ?_)
    · obtain ⟨a1, ha1⟩ : ∃ a1, a1 = a + 1 := ⟨_, rfl⟩
      have hbit := hbit k a a1 hk0 h2 ha ha1
      have hvn := hvn k hk0 h2 v hv
      (conv => cbv)
      repeat' (first | assumption | ((first | refine stp ?_ | refine stpB (fun _ => ?_) (fun _ => ?_)) <;> (conv => cbv)) | exact stpF | fail)
      rw [hvn]
      refine hb (k + 1, a1, Nm (k + 1)) _ ⟨by simp only; omega, by simp only; omega, by simp only; omega, rfl⟩ (by simp only; omega) ?_
      refine Gh.tm ?_
      repeat' (first | exact Holds.nil _ _ | refine Holds.cons (Wk.refl _ _) ?_ | refine Holds.cons (Wk.of_eq ?_) ?_)
      all_goals first
        | (rw [← hk.add64 k 1 (by omega) (by omega)]; rfl)
        | rfl
        | skip
    · have : k = N := by omega
      subst this
      have : v = Vn := by omega
      subst this
      have : a = a9 := by omega
      subst this
      refine hx _ _ ?_
      (conv => cbv)
      exact hk.fin1 rfl
def alV (rem : List Bool) (fail : Int) : Int := let k : Int := (rem.length % 8 : Nat); let f := tkF rem fail k; if f = 0 then if num (rem.take k.toNat) = 0 then 0 else 5 else f
def enV (rem : List Bool) (fail : Int) : Int := if fail = 0 ∧ rem.length ≥ 8 then 4 else alV rem fail
end Go.Proofs.YtfjdmgnhklpiiaaGreat
