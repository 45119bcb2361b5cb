/-
  Contracts of functions of the program, proved over the abstract machine of the Al texts.
-/
import Derived.Test.YtnnpookoencpnaaTryTab
import Derived.Test.YtnnpookoencpnaaAl4
import Derived.Test.YtnnpookoencpnaaRkX
import Derived.Test.YtnnpookoencpnaaRkY
import Derived.Test.YtnnpookoencpnaaBase
set_option linter.unusedSimpArgs false
set_option linter.unusedVariables false
open Go Go.AL
namespace Go.Proofs.Ytnnpookoencpnaa
/-! ### Marks: the plain part -/
/-- How many are less. -/
def cnt (S : List Int) (c : Int) : Nat := (S.filter (fun x => decide (x < c))).length
/-- An order's marks. -/
def mk : List Int → List Int
  | [] => []
  | c :: l => (cnt l c : Int) :: mk l
theorem mk_len : ∀ l : List Int, (mk l).length = l.length
  | [] => rfl
  | c :: l => by simp [mk, mk_len l]
theorem cnt_perm {S S' : List Int} (h : S.Perm S') (c : Int) : cnt S c = cnt S' c := (h.filter _).length_eq
theorem cnt_self (S : List Int) (c : Int) : cnt (c :: S) c = cnt S c := by simp [cnt]
abbrev Inc (S : List Int) : Prop := S.Pairwise (· < ·)
theorem cnt_at : ∀ {S : List Int}, Inc S → ∀ m, m < S.length → cnt S (S.getD m 0) = m
  | [], _, m, h => by simp at h
  | a :: t, hs, 0, _ => by
    have hs := List.pairwise_cons.1 hs
    have : t.filter (fun x => decide (x < a)) = [] := by
      rw [List.filter_eq_nil_iff]
      intro x hx
      have := hs.1 x hx
      simp; omega
    simp [cnt, this]
  | a :: t, hs, m + 1, h => by
    have hs := List.pairwise_cons.1 hs
    have hm : m < t.length := by simpa using h
    have h1 := cnt_at hs.2 m hm
    have h2 : a < t.getD m 0 := hs.1 _ (by simp [List.getD, hm])
    have e : (a :: t).getD (m + 1) 0 = t.getD m 0 := by simp [List.getD]
    rw [e]
    simp only [cnt] at h1 ⊢
    rw [List.filter_cons, if_pos (by simpa using h2), List.length_cons, h1]
theorem erase_perm : ∀ {S : List Int} {m : Nat}, m < S.length → (S.getD m 0 :: S.eraseIdx m).Perm S
  | [], m, h => by simp at h
  | a :: t, 0, _ => by simp
  | a :: t, m + 1, h => by
    have h1 := erase_perm (S := t) (m := m) (by simpa using h)
    rw [List.eraseIdx_cons_succ, show (a :: t).getD (m + 1) 0 = t.getD m 0 by simp [List.getD]]
    exact (List.Perm.swap _ _ _).trans (h1.cons a)
theorem erase_inc {S : List Int} (h : Inc S) (m : Nat) : Inc (S.eraseIdx m) := h.sublist (List.eraseIdx_sublist S m)
theorem erase_len {S : List Int} {m : Nat} (h : m < S.length) : (S.eraseIdx m).length = S.length - 1 := List.length_eraseIdx_of_lt h
theorem find_at {S : List Int} (hs : Inc S) {c : Int} (hc : c ∈ S) : cnt S c < S.length ∧ S.getD (cnt S c) 0 = c := by
  obtain ⟨m, hm, rfl⟩ := mem_getD.1 hc
  rw [cnt_at hs m hm]
  exact ⟨hm, rfl⟩
theorem ofGo_mk : ∀ (l S : List Int), Inc S → S.Perm l → ofGo S (mk l) = some l
  | [], S, _, _ => rfl
  | c :: l, S, hs, hp => by
    have hc : c ∈ S := hp.mem_iff.2 (by simp)
    obtain ⟨h1, h2⟩ := find_at hs hc
    have h3 : cnt S c = cnt l c := by rw [cnt_perm hp, cnt_self]
    rw [h3] at h1 h2
    have h4 : (S.eraseIdx (cnt l c)).Perm l := by
      have := (erase_perm h1).trans hp
      rw [h2] at this
      exact (List.perm_cons c).1 this
    simp only [mk, ofGo]
    rw [if_pos ⟨by omega, by omega⟩, Int.toNat_natCast, ofGo_mk l _ (erase_inc hs _) h4, h2]
    rfl
theorem mk_ofGo : ∀ (ms S l : List Int), Inc S → S.length = ms.length → ofGo S ms = some l → S.Perm l ∧ mk l = ms
  | [], S, l, hs, hl, h => by
    cases h
    have : S = [] := List.eq_nil_of_length_eq_zero hl
    subst this
    exact ⟨.refl _, rfl⟩
  | m :: ms, S, l, hs, hl, h => by
    simp only [ofGo] at h
    split at h
    · rename_i hm
      have hm2 : m.toNat < S.length := by omega
      cases h1 : ofGo (S.eraseIdx m.toNat) ms with
      | none => rw [h1] at h; cases h
      | some l' =>
        rw [h1] at h
        cases h
        obtain ⟨h2, h3⟩ := mk_ofGo ms (S.eraseIdx m.toNat) l' (erase_inc hs _) (by rw [erase_len hm2]; simp at hl; omega) h1
        refine ⟨(erase_perm hm2).symm.trans (h2.cons _), ?_⟩
        simp only [mk]
        rw [h3, ← cnt_perm h2]
        congr 1
        have h4 := cnt_at hs m.toNat hm2
        rw [← cnt_perm (erase_perm hm2), cnt_self] at h4
        rw [h4]
        omega
    · cases h
theorem rangeI_inc (n : Nat) : Inc (rangeI n) := by
  unfold rangeI Inc
  rw [List.pairwise_map]
  exact (List.pairwise_lt_range (n := n)).imp fun h => by omega
theorem at_uniq {S : List Int} (hs : Inc S) {c i : Int} (hc : c ∈ S) (h : IsAt S c i) : i.toNat = cnt S c ∧ i.toNat < S.length ∧ S.getD i.toNat 0 = c := by
  obtain ⟨m, hm, hg⟩ := mem_getD.1 hc
  have hcm := cnt_at hs m hm
  rw [hg] at hcm
  obtain ⟨h0, h1, h2, h3⟩ := h
  have : i.toNat = m := by
    rcases Nat.lt_trichotomy i.toNat m with h | h | h
    · have e1 := h3 i.toNat (Nat.le_refl _) (by omega)
      have e2 : S.getD i.toNat 0 < S.getD m 0 := by
        have := (List.pairwise_iff_getElem.1 hs) i.toNat m (by omega) hm h
        simpa [List.getD, hm, show i.toNat < S.length by omega] using this
      omega
    · exact h
    · have := h2 m h
      omega
  rw [this, hcm]
  exact ⟨rfl, hm, hg⟩
theorem inc_le {S : List Int} (hs : Inc S) : ∀ a b, a < b → b < S.length → S.getD a 0 ≤ S.getD b 0 := fun a b h1 h2 => by
  have := (List.pairwise_iff_getElem.1 hs) a b (by omega) h2 h1
  have : S.getD a 0 < S.getD b 0 := by simpa [List.getD, h2, show a < S.length by omega] using this
  omega
/-- Those of 0 to n - 1 that aren't told yet. -/
def free (n : Nat) (out : List Int) : List Int := (rangeI n).filter fun c => !decide (c ∈ out)
theorem free_inc (n : Nat) (out : List Int) : Inc (free n out) := (rangeI_inc n).sublist List.filter_sublist
theorem free_nil (n : Nat) : free n [] = rangeI n := by simp [free]
theorem eraseIdx_filter : ∀ {S : List Int}, Inc S → ∀ m, m < S.length → S.eraseIdx m = S.filter (fun x => !decide (x = S.getD m 0))
  | [], _, m, h => by simp at h
  | a :: t, hs, 0, _ => by
    have hs := List.pairwise_cons.1 hs
    have : t.filter (fun x => !decide (x = a)) = t := by
      rw [List.filter_eq_self]
      intro x hx
      have := hs.1 x hx
      simp; omega
    simp [this]
  | a :: t, hs, m + 1, h => by
    have hs := List.pairwise_cons.1 hs
    have hm : m < t.length := by simpa using h
    have h1 := eraseIdx_filter hs.2 m hm
    have h2 : a < t.getD m 0 := hs.1 _ (by simp [List.getD, hm])
    have e : (a :: t).getD (m + 1) 0 = t.getD m 0 := by simp [List.getD]
    have h3 : ¬ a = t.getD m 0 := by omega
    rw [e, List.eraseIdx_cons_succ, h1, List.filter_cons, if_pos (by simp only [h3, decide_false, Bool.not_false])]
theorem free_step (n : Nat) (out : List Int) (m : Nat) (h : m < (free n out).length) : (free n out).eraseIdx m = free n (out ++ [(free n out).getD m 0]) := by
  rw [eraseIdx_filter (free_inc n out) m h]
  obtain ⟨x, hx⟩ : ∃ x, x = (free n out).getD m 0 := ⟨_, rfl⟩
  rw [← hx]
  unfold free
  rw [List.filter_filter]
  congr 1
  funext c
  by_cases h1 : c = x <;> by_cases h2 : c ∈ out <;> simp [h1, h2]
/-- The free ones from c on. -/
def freeFrom (n : Nat) (out : List Int) (c : Nat) : List Int := ((rangeI n).drop c).filter fun c => !decide (c ∈ out)
theorem freeFrom_zero (n : Nat) (out : List Int) : freeFrom n out 0 = free n out := by simp [freeFrom, free]
theorem freeFrom_step (n : Nat) (out : List Int) (c : Nat) (h : c < n) : freeFrom n out c = if (c : Int) ∈ out then freeFrom n out (c + 1) else (c : Int) :: freeFrom n out (c + 1) := by
  unfold freeFrom
  rw [List.drop_eq_getElem_cons (by rw [rangeI_len]; exact h)]
  have : (rangeI n)[c]'(by rw [rangeI_len]; exact h) = (c : Int) := by
    have := rangeI_get n c h
    simpa [List.getD, rangeI_len, h] using this
  rw [this, List.filter_cons]
  by_cases h2 : (c : Int) ∈ out <;> simp [h2]
theorem freeFrom_end (n : Nat) (out : List Int) (c : Nat) (h : n ≤ c) : freeFrom n out c = [] := by
  unfold freeFrom
  rw [List.drop_eq_nil_of_le (by rw [rangeI_len]; exact h)]
  rfl
end Go.Proofs.Ytnnpookoencpnaa
/- Bits, the highest first: the plain part. -/

set_option linter.unusedSimpArgs false
set_option linter.unusedVariables false
open Go Go.AL
namespace Go.Proofs.Ytnnpookoencpnaa
/-- The bits of a number, the highest first. -/
def bitsOf (v : Nat) : Nat → List Bool
  | 0 => []
  | n + 1 => bitsOf (v / 2) n ++ [v % 2 == 1]
theorem bitsOf_len (v n : Nat) : (bitsOf v n).length = n := by
  induction n generalizing v with
  | zero => rfl
  | succ n ih => simp [bitsOf, ih]
theorem bitsOf_get (v n k : Nat) (h : k < n) : (bitsOf v n).getD k false = v.testBit (n - 1 - k) := by
  induction n generalizing v with
  | zero => omega
  | succ n ih =>
    simp only [bitsOf]
    by_cases hk : k < n
    · rw [List.getD_eq_getElem?_getD, List.getElem?_append_left (by rw [bitsOf_len]; exact hk), ← List.getD_eq_getElem?_getD, ih _ hk, Nat.testBit_div_two]
      congr 1; omega
    · have : k = n := by omega
      subst this
      rw [List.getD_eq_getElem?_getD, List.getElem?_append_right (by rw [bitsOf_len]; exact Nat.le_refl _), bitsOf_len]
      simp
      rw [Bool.eq_iff_iff]
      simp
theorem snocRec {p : List Bool → Prop} (h0 : p []) (h1 : ∀ l b, p l → p (l ++ [b])) (l : List Bool) : p l := by
  have : ∀ l : List Bool, p l.reverse := fun l => by
    induction l with
    | nil => exact h0
    | cons b l ih => rw [List.reverse_cons]; exact h1 _ _ ih
  have := this l.reverse
  rwa [List.reverse_reverse] at this
/-- The number of bits. -/
def num (l : List Bool) : Nat := l.foldl (fun a b => 2 * a + b.toNat) 0
theorem num_snoc (l : List Bool) (b : Bool) : num (l ++ [b]) = 2 * num l + b.toNat := by simp [num]
theorem num_lt : ∀ l : List Bool, num l < 2 ^ l.length := fun l => by
  refine snocRec (p := fun l => num l < 2 ^ l.length) ?_ (fun l b ih => ?_) l
  · simp [num]
  ·
    rw [num_snoc, List.length_append, List.length_singleton, Nat.pow_succ]
    cases b <;> simp <;> omega
theorem num_bitsOf (v n : Nat) : num (bitsOf v n) = v % 2 ^ n := by
  induction n generalizing v with
  | zero => simp [bitsOf, num, Nat.mod_one]
  | succ n ih =>
    simp only [bitsOf]
    rw [num_snoc, ih, Nat.pow_succ, Nat.mul_comm (2 ^ n) 2, Nat.mod_mul]
    have : (v % 2 == 1).toNat = v % 2 := by rcases Nat.mod_two_eq_zero_or_one v with h | h <;> simp [h]
    rw [this]; omega
theorem bitsOf_num : ∀ l : List Bool, bitsOf (num l) l.length = l := fun l => by
  refine snocRec (p := fun l => bitsOf (num l) l.length = l) ?_ (fun l b ih => ?_) l
  · rfl
  ·
    rw [List.length_append, List.length_singleton]
    simp only [bitsOf]
    rw [num_snoc]
    have h1 : (2 * num l + b.toNat) / 2 = num l := by cases b <;> simp <;> omega
    have h2 : ((2 * num l + b.toNat) % 2 == 1) = b := by cases b <;> simp <;> omega
    rw [h1, h2, ih]
theorem num_append (l m : List Bool) : num (l ++ m) = num l * 2 ^ m.length + num m := by
  refine snocRec (p := fun m => num (l ++ m) = num l * 2 ^ m.length + num m) ?_ (fun m b ih => ?_) m
  · simp [num]
  ·
    rw [← List.append_assoc, num_snoc, num_snoc, ih, List.length_append, List.length_singleton, Nat.pow_succ]
    have : num l * (2 ^ m.length * 2) = 2 * (num l * 2 ^ m.length) := by rw [← Nat.mul_assoc, Nat.mul_comm]
    rw [this]; omega
/-- The byte at a place. -/
def byteAt (bits : List Bool) (i : Nat) : Nat :=
  128 * (bits.getD (8 * i) false).toNat + 64 * (bits.getD (8 * i + 1) false).toNat + 32 * (bits.getD (8 * i + 2) false).toNat + 16 * (bits.getD (8 * i + 3) false).toNat +
  8 * (bits.getD (8 * i + 4) false).toNat + 4 * (bits.getD (8 * i + 5) false).toNat + 2 * (bits.getD (8 * i + 6) false).toNat + (bits.getD (8 * i + 7) false).toNat
theorem byteAt_lt (bits : List Bool) (i : Nat) : byteAt bits i < 256 := by
  unfold byteAt
  have h := fun k => Bool.toNat_le (bits.getD k false)
  have := h (8 * i); have := h (8 * i + 1); have := h (8 * i + 2); have := h (8 * i + 3); have := h (8 * i + 4); have := h (8 * i + 5); have := h (8 * i + 6); have := h (8 * i + 7)
  omega
/-- How many bytes. -/
def nby (n : Nat) : Nat := (n + 7) / 8
/-- Bits as bytes. -/
def pack (bits : List Bool) : List Int := (List.range (nby bits.length)).map fun i => (byteAt bits i : Int)
theorem pack_len (bits : List Bool) : (pack bits).length = nby bits.length := by simp [pack]
theorem pack_get (bits : List Bool) (i : Nat) (h : i < nby bits.length) : (pack bits).getD i 0 = byteAt bits i := by simp [pack, List.getD, h]
theorem getD_snoc (bits : List Bool) (b : Bool) (k : Nat) : (bits ++ [b]).getD k false = if k = bits.length then b else bits.getD k false := by
  rw [List.getD_eq_getElem?_getD, List.getD_eq_getElem?_getD, List.getElem?_append]
  split
  · rw [if_neg (by omega)]
  · split
    · rename_i h; subst h; simp
    · rw [List.getElem?_eq_none (by simp; omega), List.getElem?_eq_none (by omega)]
theorem getD_out (bits : List Bool) (k : Nat) (h : bits.length ≤ k) : bits.getD k false = false := by
  rw [List.getD_eq_getElem?_getD, List.getElem?_eq_none h]; rfl
/-- What a bit more does to a byte. -/
theorem byteAt_snoc (bits : List Bool) (b : Bool) (i : Nat) : byteAt (bits ++ [b]) i = byteAt bits i + (if i = bits.length / 8 then b.toNat * 2 ^ (7 - bits.length % 8) else 0) := by
  have h := getD_out bits
  unfold byteAt
  simp only [getD_snoc]
  by_cases hi : i = bits.length / 8
  · rw [if_pos hi]
    have hr : bits.length % 8 < 8 := Nat.mod_lt _ (by decide)
    have hn : bits.length = 8 * i + bits.length % 8 := by omega
    obtain ⟨r, hre⟩ : ∃ r, r = bits.length % 8 := ⟨_, rfl⟩
    rw [← hre] at hn hr ⊢
    have e : ∀ j, (8 * i + j = bits.length) = (j = r) := fun j => propext ⟨fun h => by omega, fun h => by omega⟩
    have e0 : (8 * i = bits.length) = (0 = r) := propext ⟨fun h => by omega, fun h => by omega⟩
    simp only [e, e0]
    have hz : ∀ j, r ≤ j → (bits.getD (8 * i + j) false).toNat = 0 := fun j hj => by rw [h _ (by omega)]; rfl
    have hz0 : r = 0 → (bits.getD (8 * i) false).toNat = 0 := fun hj => by rw [h _ (by omega)]; rfl
    clear e e0 hi hn h
    match r, hr with
    | 0, _ => simp only [Nat.reduceEqDiff, reduceIte, Nat.reduceSub, Nat.reducePow, Nat.reduceAdd]; simp only [hz0 rfl, hz 1 (by omega), hz 2 (by omega), hz 3 (by omega), hz 4 (by omega), hz 5 (by omega), hz 6 (by omega), hz 7 (by omega)]; omega
    | 1, _ => simp only [Nat.reduceEqDiff, reduceIte, Nat.reduceSub, Nat.reducePow, Nat.reduceAdd]; simp only [hz 1 (by omega), hz 2 (by omega), hz 3 (by omega), hz 4 (by omega), hz 5 (by omega), hz 6 (by omega), hz 7 (by omega)]; omega
    | 2, _ => simp only [Nat.reduceEqDiff, reduceIte, Nat.reduceSub, Nat.reducePow, Nat.reduceAdd]; simp only [hz 2 (by omega), hz 3 (by omega), hz 4 (by omega), hz 5 (by omega), hz 6 (by omega), hz 7 (by omega)]; omega
    | 3, _ => simp only [Nat.reduceEqDiff, reduceIte, Nat.reduceSub, Nat.reducePow, Nat.reduceAdd]; simp only [hz 3 (by omega), hz 4 (by omega), hz 5 (by omega), hz 6 (by omega), hz 7 (by omega)]; omega
    | 4, _ => simp only [Nat.reduceEqDiff, reduceIte, Nat.reduceSub, Nat.reducePow, Nat.reduceAdd]; simp only [hz 4 (by omega), hz 5 (by omega), hz 6 (by omega), hz 7 (by omega)]; omega
    | 5, _ => simp only [Nat.reduceEqDiff, reduceIte, Nat.reduceSub, Nat.reducePow, Nat.reduceAdd]; simp only [hz 5 (by omega), hz 6 (by omega), hz 7 (by omega)]; omega
    | 6, _ => simp only [Nat.reduceEqDiff, reduceIte, Nat.reduceSub, Nat.reducePow, Nat.reduceAdd]; simp only [hz 6 (by omega), hz 7 (by omega)]; omega
    | 7, _ => simp only [Nat.reduceEqDiff, reduceIte, Nat.reduceSub, Nat.reducePow, Nat.reduceAdd]; simp only [hz 7 (by omega)]; omega
  · rw [if_neg hi]
    have e : ∀ j, j < 8 → ¬ (8 * i + j = bits.length) := fun j hj => by omega
    have e0 := e 0 (by omega); have e1 := e 1 (by omega); have e2 := e 2 (by omega); have e3 := e 3 (by omega); have e4 := e 4 (by omega); have e5 := e 5 (by omega); have e6 := e 6 (by omega); have e7 := e 7 (by omega)
    rw [Nat.add_zero] at e0
    simp only [e0, e1, e2, e3, e4, e5, e6, e7, if_false, Nat.add_zero]
/-- The low bits of the byte that is under way are 0. -/
theorem byteAt_low (bits : List Bool) : ∃ a, byteAt bits (bits.length / 8) = 2 ^ (8 - bits.length % 8) * a := by
  have h := getD_out bits
  have hr : bits.length % 8 < 8 := Nat.mod_lt _ (by decide)
  have hn : bits.length = 8 * (bits.length / 8) + bits.length % 8 := by omega
  obtain ⟨i, hi⟩ : ∃ i, i = bits.length / 8 := ⟨_, rfl⟩
  obtain ⟨r, hre⟩ : ∃ r, r = bits.length % 8 := ⟨_, rfl⟩
  rw [← hre, ← hi] at hn
  rw [← hre] at hr ⊢
  rw [← hi]
  have hz : ∀ j, r ≤ j → (bits.getD (8 * i + j) false).toNat = 0 := fun j hj => by rw [h _ (by omega)]; rfl
  have hz0 : r = 0 → (bits.getD (8 * i) false).toNat = 0 := fun hj => by rw [h _ (by omega)]; rfl
  unfold byteAt
  clear hi hre hn h
  match r, hr with
  | 0, _ => exact ⟨0, by rw [hz0 rfl, hz 1 (by omega), hz 2 (by omega), hz 3 (by omega), hz 4 (by omega), hz 5 (by omega), hz 6 (by omega), hz 7 (by omega)]⟩
  | 1, _ => exact ⟨_, by rw [hz 1 (by omega), hz 2 (by omega), hz 3 (by omega), hz 4 (by omega), hz 5 (by omega), hz 6 (by omega), hz 7 (by omega)]; rfl⟩
  | 2, _ => exact ⟨2 * (bits.getD (8 * i) false).toNat + (bits.getD (8 * i + 1) false).toNat, by rw [hz 2 (by omega), hz 3 (by omega), hz 4 (by omega), hz 5 (by omega), hz 6 (by omega), hz 7 (by omega)]; omega⟩
  | 3, _ => exact ⟨4 * (bits.getD (8 * i) false).toNat + 2 * (bits.getD (8 * i + 1) false).toNat + (bits.getD (8 * i + 2) false).toNat, by rw [hz 3 (by omega), hz 4 (by omega), hz 5 (by omega), hz 6 (by omega), hz 7 (by omega)]; omega⟩
  | 4, _ => exact ⟨8 * (bits.getD (8 * i) false).toNat + 4 * (bits.getD (8 * i + 1) false).toNat + 2 * (bits.getD (8 * i + 2) false).toNat + (bits.getD (8 * i + 3) false).toNat, by rw [hz 4 (by omega), hz 5 (by omega), hz 6 (by omega), hz 7 (by omega)]; omega⟩
  | 5, _ => exact ⟨16 * (bits.getD (8 * i) false).toNat + 8 * (bits.getD (8 * i + 1) false).toNat + 4 * (bits.getD (8 * i + 2) false).toNat + 2 * (bits.getD (8 * i + 3) false).toNat + (bits.getD (8 * i + 4) false).toNat, by rw [hz 5 (by omega), hz 6 (by omega), hz 7 (by omega)]; omega⟩
  | 6, _ => exact ⟨32 * (bits.getD (8 * i) false).toNat + 16 * (bits.getD (8 * i + 1) false).toNat + 8 * (bits.getD (8 * i + 2) false).toNat + 4 * (bits.getD (8 * i + 3) false).toNat + 2 * (bits.getD (8 * i + 4) false).toNat + (bits.getD (8 * i + 5) false).toNat, by rw [hz 6 (by omega), hz 7 (by omega)]; omega⟩
  | 7, _ => exact ⟨64 * (bits.getD (8 * i) false).toNat + 32 * (bits.getD (8 * i + 1) false).toNat + 16 * (bits.getD (8 * i + 2) false).toNat + 8 * (bits.getD (8 * i + 3) false).toNat + 4 * (bits.getD (8 * i + 4) false).toNat + 2 * (bits.getD (8 * i + 5) false).toNat + (bits.getD (8 * i + 6) false).toNat, by rw [hz 7 (by omega)]; omega⟩
/-- The bytes of one bit more, ahead of it. -/
def room1 (bits : List Bool) : List Int := if bits.length % 8 = 0 then pack bits ++ [0] else pack bits
theorem room1_len (bits : List Bool) : (room1 bits).length = bits.length / 8 + 1 := by
  unfold room1
  split <;> simp [pack_len, nby] <;> omega
theorem room1_get (bits : List Bool) : (room1 bits).getD (bits.length / 8) 0 = byteAt bits (bits.length / 8) := by
  unfold room1
  split
  · rename_i h
    have e : (pack bits).length = bits.length / 8 := by rw [pack_len, nby]; omega
    rw [List.getD_eq_getElem?_getD, List.getElem?_append_right (by omega), e]
    have hz := getD_out bits
    simp only [byteAt]
    rw [hz _ (by omega), hz _ (by omega), hz _ (by omega), hz _ (by omega), hz _ (by omega), hz _ (by omega), hz _ (by omega), hz _ (by omega)]
    simp
  · rename_i h
    exact pack_get _ _ (by rw [nby]; omega)
theorem ilist_ext {l m : List Int} (h1 : l.length = m.length) (h2 : ∀ i, i < l.length → l.getD i 0 = m.getD i 0) : l = m := by
  refine List.ext_getElem h1 fun i hi hi' => ?_
  have := h2 i hi
  simpa [List.getD, hi, hi'] using this
theorem pack_snoc (bits : List Bool) (b : Bool) : pack (bits ++ [b]) = (room1 bits).set (bits.length / 8) (byteAt bits (bits.length / 8) + b.toNat * 2 ^ (7 - bits.length % 8) : Nat) := by
  refine ilist_ext ?_ fun i hi => ?_
  · rw [List.length_set, room1_len, pack_len, nby, List.length_append, List.length_singleton]; omega
  · rw [pack_len] at hi
    rw [pack_get _ _ hi, byteAt_snoc]
    rw [nby, List.length_append, List.length_singleton] at hi
    rw [List.getD_eq_getElem?_getD, List.getElem?_set]
    by_cases h : bits.length / 8 = i
    · subst h
      rw [if_pos rfl, if_pos rfl, if_pos (by rw [room1_len]; omega)]
      rfl
    · rw [if_neg h, if_neg (Ne.symm h), ← List.getD_eq_getElem?_getD]
      have : (room1 bits).getD i 0 = (pack bits).getD i 0 := by
        unfold room1
        split
        · rw [List.getD_eq_getElem?_getD, List.getElem?_append_left (by rw [pack_len, nby]; omega), List.getD_eq_getElem?_getD]
        · rfl
      rw [this, pack_get _ _ (by rw [nby]; omega)]
      rfl
theorem pack_snoc_false (bits : List Bool) : pack (bits ++ [false]) = room1 bits := by
  rw [pack_snoc]
  refine ilist_ext (by simp) fun i hi => ?_
  rw [List.getD_eq_getElem?_getD, List.getElem?_set]
  by_cases h : bits.length / 8 = i
  · subst h
    rw [if_pos rfl, if_pos (by rw [room1_len]; omega), room1_get]
    simp
  · rw [if_neg h, List.getD_eq_getElem?_getD]
/-- Bytes as bits. -/
def unpack (bs : List Int) : List Bool := bs.flatMap fun x => bitsOf x.toNat 8
theorem unpack_len (bs : List Int) : (unpack bs).length = 8 * bs.length := by
  induction bs with
  | nil => rfl
  | cons x r ih => simp only [unpack, List.flatMap_cons, List.length_append, bitsOf_len, List.length_cons] at ih ⊢; omega
theorem unpack_get (bs : List Int) (k : Nat) (h : k < 8 * bs.length) : (unpack bs).getD k false = (bs.getD (k / 8) 0).toNat.testBit (7 - k % 8) := by
  induction bs generalizing k with
  | nil => simp at h
  | cons x r ih =>
    have e : unpack (x :: r) = bitsOf x.toNat 8 ++ unpack r := rfl
    rw [e]
    by_cases hk : k < 8
    · rw [List.getD_eq_getElem?_getD, List.getElem?_append_left (by rw [bitsOf_len]; exact hk), ← List.getD_eq_getElem?_getD, bitsOf_get _ _ _ hk, show k / 8 = 0 by omega, show k % 8 = k by omega]
      rfl
    · rw [List.getD_eq_getElem?_getD, List.getElem?_append_right (by rw [bitsOf_len]; omega), bitsOf_len, ← List.getD_eq_getElem?_getD, ih (k - 8) (by simp at h; omega),
        show k / 8 = (k - 8) / 8 + 1 by omega, show (k - 8) % 8 = k % 8 by omega]
      rfl
end Go.Proofs.Ytnnpookoencpnaa
set_option maxHeartbeats 4000000
set_option maxRecDepth 20000
set_option linter.unusedSimpArgs false
set_option linter.unusedVariables false
open Go Go.AL
namespace Go.Proofs.Ytnnpookoencpnaa
/-- How many bits a mark has, of so many that are left. -/
def wd (n : Nat) : Nat := if n ≤ 1 then 0 else if n ≤ 2 then 1 else if n ≤ 4 then 2 else 3
set_option maxRecDepth 100000 in
theorem wide_run : ∀ n : Nat, n < 9 → 1 ≤ n → (ex PP T M (fun _ => true) 400).F 75 [I n] [] = some (I (wd n : Nat), [])
  | 0, _, h => by omega
  | 1, _, _ => by kernel_rfl
  | 2, _, _ => by kernel_rfl
  | 3, _, _ => by kernel_rfl
  | 4, _, _ => by kernel_rfl
  | 5, _, _ => by kernel_rfl
  | 6, _, _ => by kernel_rfl
  | 7, _, _ => by kernel_rfl
  | 8, _, _ => by kernel_rfl
  | n + 9, h, _ => by omega
theorem wide_spec (n : Int) (h0 : 1 ≤ n) (h1 : n ≤ 8) (h : Heap) : Does PP 75 [I n] h (Is (I (wd n.toNat : Nat)) h) := by
  have := pure0 (ex_does P_ok 400 (wide_run n.toNat (by omega) (by omega))) rfl rfl h
  rwa [show ((n.toNat : Nat) : Int) = n by omega] at this
set_option maxRecDepth 100000 in
theorem rwide_run : ∀ n : Nat, n < 9 → 1 ≤ n → (ex PP T M (fun _ => true) 400).F 78 [I n] [] = some (I (wd n : Nat), [])
  | 0, _, h => by omega
  | 1, _, _ => by kernel_rfl
  | 2, _, _ => by kernel_rfl
  | 3, _, _ => by kernel_rfl
  | 4, _, _ => by kernel_rfl
  | 5, _, _ => by kernel_rfl
  | 6, _, _ => by kernel_rfl
  | 7, _, _ => by kernel_rfl
  | 8, _, _ => by kernel_rfl
  | n + 9, h, _ => by omega
theorem rwide_spec (n : Int) (h0 : 1 ≤ n) (h1 : n ≤ 8) (h : Heap) : Does PP 78 [I n] h (Is (I (wd n.toNat : Nat)) h) := by
  have := pure0 (ex_does P_ok 400 (rwide_run n.toNat (by omega) (by omega))) rfl rfl h
  rwa [show ((n.toNat : Nat) : Int) = n by omega] at this
/-- The bits of marks. -/
def rbits : List Int → List Bool
  | [] => []
  | m :: ms => bitsOf m.toNat (wd (ms.length + 1)) ++ rbits ms
/-- Marks that may be. -/
def MarksOK : List Int → Prop
  | [] => True
  | m :: ms => 0 ≤ m ∧ m.toNat ≤ ms.length ∧ MarksOK ms
theorem mk_ok : ∀ l : List Int, MarksOK (mk l)
  | [] => trivial
  | c :: l => ⟨by omega, by rw [mk_len]; exact List.length_filter_le _ _, mk_ok l⟩
theorem MarksOK.drop : ∀ {ms : List Int}, MarksOK ms → ∀ i, MarksOK (ms.drop i)
  | ms, h, 0 => by simpa using h
  | [], _, i + 1 => by simp; trivial
  | m :: ms, h, i + 1 => by simpa using MarksOK.drop h.2.2 i
theorem wd_fit : ∀ k, k ≤ 7 → ∀ m, m ≤ k → m < 2 ^ wd (k + 1) := by decide
theorem wd_le (n : Nat) : wd n ≤ 3 := by unfold wd; split; omega; split; omega; split <;> omega
theorem rbits_drop {ms : List Int} {i : Nat} (h : i < ms.length) : rbits (ms.drop i) = bitsOf (ms.getD i 0).toNat (wd (ms.length - i)) ++ rbits (ms.drop (i + 1)) := by
  rw [List.drop_eq_getElem_cons h]
  simp only [rbits, List.length_drop]
  have : ms[i] = ms.getD i 0 := by simp [List.getD, h]
  rw [this, show ms.length - (i + 1) + 1 = ms.length - i by omega]
theorem rbits_len (ms : List Int) : (rbits ms).length ≤ 3 * ms.length := by
  induction ms with
  | nil => simp [rbits]
  | cons m ms ih =>
    have := wd_le (ms.length + 1)
    simp only [rbits, List.length_append, bitsOf_len, List.length_cons]; omega
end Go.Proofs.Ytnnpookoencpnaa
