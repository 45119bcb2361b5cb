/-
  Contracts of functions of the program, proved over the abstract machine of the Al texts.
-/
import Derived.Test.YtnkaagbepppodaaMeterE
set_option linter.unusedSimpArgs false
set_option linter.unusedVariables false
set_option maxHeartbeats 4000000
open Go Go.AL
namespace Go.Proofs.Ytnkaagbepppodaa
def xstep (l : List Int) (k : Nat) (x : Int × Int × Int × Int) : Int × Int × Int × Int :=
  (if wsize (l.getD k 0) > x.1 then wsize (l.getD k 0) else x.1, x.2.1 + l.getD k 0, x.2.2.1 + l.getD k 0 * l.getD k 0, if turnP l k then x.2.2.2 + 1 else x.2.2.2)
def xl (l : List Int) : Nat → Int × Int × Int × Int
  | 0 => (0, 0, 0, 0)
  | k + 1 => xstep l k (xl l k)
theorem sq_bound {n : Int} (h : loudf n = false) : 0 ≤ n * n ∧ n * n ≤ 4503599627370496 := by
  simp only [loudf, Bool.or_eq_false_iff, decide_eq_false_iff_not] at h
  obtain ⟨h1, h2⟩ := h
  constructor
  · rcases Int.le_total 0 n with h | h
    · exact Int.mul_nonneg h h
    · have := Int.mul_nonneg (Int.neg_nonneg.2 h) (Int.neg_nonneg.2 h)
      rwa [Int.neg_mul_neg] at this
  · rcases Int.le_total 0 n with h | h
    · calc n * n ≤ 67108864 * 67108864 := Int.mul_le_mul (by omega) (by omega) h (by omega)
        _ = _ := by decide
    · have h3 : (-n) * (-n) ≤ 67108864 * 67108864 := Int.mul_le_mul (by omega) (by omega) (by omega) (by omega)
      rw [Int.neg_mul_neg] at h3
      calc n * n ≤ 67108864 * 67108864 := h3
        _ = _ := by decide
theorem plevs_x {l : List Int} (h : chk l = 0) (h2 : l.length ≤ 200) : ∀ k, k ≤ l.length → plevs l k = xl l k ∧ -(k * 67108864) ≤ (xl l k).2.1 ∧ (xl l k).2.1 ≤ k * 67108864 ∧ 0 ≤ (xl l k).2.2.1 ∧ (xl l k).2.2.1 ≤ k * 4503599627370496 ∧
    0 ≤ (xl l k).2.2.2 ∧ (xl l k).2.2.2 ≤ k ∧ 0 ≤ (xl l k).1
  | 0, _ => ⟨rfl, by simp [xl], by simp [xl], by simp [xl], by simp [xl], by simp [xl], by simp [xl], by simp [xl]⟩
  | k + 1, hk => by
    obtain ⟨_, h3⟩ := chk_zero h
    obtain ⟨e, b1, b2, b3, b4, b5, b6, b7⟩ := plevs_x h h2 k (by omega)
    have hn := h3 k (by omega)
    have hs := sq_bound hn
    have hn' := hn
    simp only [loudf, Bool.or_eq_false_iff, decide_eq_false_iff_not] at hn'
    obtain ⟨n1, n2⟩ := hn'
    have w1 : IntKind.wrap .i64 ((xl l k).2.1 + l.getD k 0) = (xl l k).2.1 + l.getD k 0 := wrap64 (by omega) (by omega)
    have w2 : IntKind.wrap .i64 (l.getD k 0 * l.getD k 0) = l.getD k 0 * l.getD k 0 := wrap64 (by omega) (by omega)
    have w3 : IntKind.wrap .i64 ((xl l k).2.2.1 + l.getD k 0 * l.getD k 0) = (xl l k).2.2.1 + l.getD k 0 * l.getD k 0 := wrap64 (by omega) (by omega)
    have w4 : IntKind.wrap .i64 ((xl l k).2.2.2 + 0) = (xl l k).2.2.2 := by rw [Int.add_zero]; exact wrap64 (by omega) (by omega)
    have w5 : IntKind.wrap .i64 ((xl l k).2.2.2 + 1) = (xl l k).2.2.2 + 1 := wrap64 (by omega) (by omega)
    refine ⟨?_, ?_⟩
    · rw [plevs, xl, e, pstep, xstep, w1, w2, w3, w4, w5]
    · rw [xl, xstep]
      simp only []
      refine ⟨by omega, by omega, by omega, by omega, ?_, ?_, ?_⟩
      · split <;> omega
      · split <;> omega
      · split <;> omega
theorem turnP_congr {l l' : List Int} {k : Nat} (h : ∀ i, i < k + 1 → l.getD i 0 = l'.getD i 0) : turnP l k = turnP l' k := by
  unfold turnP
  rw [h k (by omega), h (k - 1) (by omega)]
theorem xl_congr {l l' : List Int} : ∀ {n : Nat}, (∀ i, i < n → l.getD i 0 = l'.getD i 0) → xl l n = xl l' n
  | 0, _ => rfl
  | n + 1, h => by
    rw [xl, xl, xl_congr fun i hi => h i (by omega), xstep, xstep, h n (by omega), turnP_congr h]
def jn (x y : Int × Int × Int × Int) (b : Bool) : Int × Int × Int × Int := (if y.1 > x.1 then y.1 else x.1, x.2.1 + y.2.1, x.2.2.1 + y.2.2.1, if b then x.2.2.2 + y.2.2.2 + 1 else x.2.2.2 + y.2.2.2)
theorem drop_getD (l : List Int) (k i : Nat) : (l.drop k).getD i 0 = l.getD (k + i) 0 := by
  simp [List.getD, List.getElem?_drop]
theorem xl_nn (l : List Int) : ∀ k, 0 ≤ (xl l k).1
  | 0 => by simp [xl]
  | k + 1 => by
    have := xl_nn l k
    rw [xl, xstep]
    simp only []
    split <;> omega
theorem xl_add (l : List Int) (k : Nat) : ∀ j, xl l (k + j) = jn (xl l k) (xl (l.drop k) j) (decide (j > 0) && turnP l k)
  | 0 => by
    have := xl_nn l k
    have h0 : ¬ (xl l k).1 < 0 := by omega
    simp [xl, jn, h0]
  | j + 1 => by
    have ih := xl_add l k j
    rw [← Nat.add_assoc, xl, ih, xl, xstep, xstep, drop_getD]
    simp only [jn]
    have ht : turnP (l.drop k) j = (decide (j > 0) && turnP l (k + j)) := by
      unfold turnP
      rw [drop_getD, drop_getD]
      by_cases h0 : j = 0
      · subst h0; simp
      · have e : k + (j - 1) = k + j - 1 := by omega
        have e2 : k + j > 0 := by omega
        have e3 : j > 0 := by omega
        rw [e]
        simp [e2, e3]
    refine Prod.ext ?_ (Prod.ext ?_ (Prod.ext ?_ ?_))
    · simp only []
      (repeat' split) <;> omega
    · simp only []; omega
    · simp only []; omega
    · simp only [ht]
      by_cases h0 : j = 0
      · subst h0
        simp only [Nat.add_zero, xl]
        cases turnP l k <;> simp
      · have e3 : j > 0 := by omega
        have e4 : j + 1 > 0 := by omega
        cases turnP l k <;> cases turnP l (k + j) <;> simp [e3] <;> omega
end Go.Proofs.Ytnkaagbepppodaa
