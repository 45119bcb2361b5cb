/- Samples with their signs turned: the plain facts. -/
import Derived.Test.YtnkaagbepppodaaMeterMc
set_option linter.unusedSimpArgs false
set_option linter.unusedVariables false
set_option maxHeartbeats 4000000
open Go Go.AL
namespace Go.Proofs.Ytnkaagbepppodaa
def negs (l : List Int) : List Int := l.map fun n => IntKind.wrap .i64 (0 - n)
theorem negs_len (l : List Int) : (negs l).length = l.length := by simp [negs]
theorem negs_get {l : List Int} (h : chk l = 0) (k : Nat) : (negs l).getD k 0 = - l.getD k 0 := by
  obtain ⟨_, h3⟩ := chk_zero h
  by_cases hk : k < l.length
  · have := h3 k hk
    simp only [loudf, Bool.or_eq_false_iff, decide_eq_false_iff_not, List.getD, List.getElem?_eq_getElem hk, Option.getD_some] at this
    simp only [negs, List.getD, List.getElem?_map, List.getElem?_eq_getElem hk, Option.map_some, Option.getD_some]
    rw [wrap64 (by omega) (by omega)]; omega
  · simp [negs, List.getD, List.getElem?_eq_none (show l.length ≤ k by omega)]
theorem not_loud {l : List Int} (h : chk l = 0) (k : Nat) : -67108864 ≤ l.getD k 0 ∧ l.getD k 0 ≤ 67108864 := by
  obtain ⟨_, h3⟩ := chk_zero h
  by_cases hk : k < l.length
  · have := h3 k hk
    simp only [loudf, Bool.or_eq_false_iff, decide_eq_false_iff_not] at this
    omega
  · simp [List.getD, List.getElem?_eq_none (show l.length ≤ k by omega)]
theorem negs_chk {l : List Int} (h : chk l = 0) : chk (negs l) = 0 := by
  obtain ⟨h1, h3⟩ := chk_zero h
  have : (negs l).any loudf = false := by
    rw [List.any_eq_false]
    intro x hx
    obtain ⟨k, hk, he⟩ := List.mem_iff_getElem.1 hx
    have h4 := negs_get h k
    have h5 := not_loud h k
    simp only [List.getD, List.getElem?_eq_getElem hk, Option.getD_some, he] at h4
    simp only [List.getD] at h5
    simp only [loudf, Bool.or_eq_true, decide_eq_true_eq]
    omega
  simp only [chk, negs_len, this, Bool.false_eq_true, if_false]
  rw [if_neg (by omega)]
theorem calm_negs {l : List Int} (h : chk l = 0) {Q : Int} (h0 : 0 ≤ Q) (h1 : Q ≤ 65535) (i : Int) : calm (negs l) Q i = calm l Q i := by
  have h2 := negs_get h i.toNat
  have h3 := not_loud h i.toNat
  simp only [calm, negs_len, h2]
  rw [wrap64 (by omega) (by omega)]
  congr 1
  generalize l.getD i.toNat 0 = x at *
  by_cases a : x ≤ Q <;> by_cases b : x ≥ 0 - Q
  · rw [decide_eq_true (show -x ≤ Q by omega), decide_eq_true (show -x ≥ 0 - Q by omega), decide_eq_true a, decide_eq_true b]
  · rw [decide_eq_false (show ¬ -x ≤ Q by omega), decide_eq_false b]; simp
  · rw [decide_eq_false (show ¬ -x ≥ 0 - Q by omega), decide_eq_false a]; simp
  · omega
theorem evs_congr {l m : List Int} {Q least : Int} (h : ∀ i, calm l Q i = calm m Q i) : ∀ n fr i, evs l Q least n fr i = evs m Q least n fr i
  | 0, _, _ => rfl
  | n + 1, fr, i => by simp only [evs, h, evs_congr h n]
theorem spans_negs {l : List Int} (h : chk l = 0) {Q : Int} (h0 : 0 ≤ Q) (h1 : Q ≤ 65535) (least : Int) : spans (negs l) Q least = spans l Q least := by
  simp only [spans, evsAt, negs_len]
  exact evs_congr (fun i => calm_negs h h0 h1 i) _ _ _
theorem wsize_neg {n : Int} (h1 : -67108864 ≤ n) (h2 : n ≤ 67108864) : wsize (-n) = wsize n := by
  simp only [wsize]
  rw [wrap64 (by omega) (by omega), wrap64 (by omega) (by omega)]
  split <;> split <;> omega
theorem xl_negs {l : List Int} (h : chk l = 0) : ∀ k, (xl (negs l) k).1 = (xl l k).1 ∧ (xl (negs l) k).2.1 = -(xl l k).2.1 ∧ (xl (negs l) k).2.2.1 = (xl l k).2.2.1
  | 0 => ⟨rfl, rfl, rfl⟩
  | k + 1 => by
    obtain ⟨e1, e2, e3⟩ := xl_negs h k
    obtain ⟨b1, b2⟩ := not_loud h k
    simp only [xl, xstep, negs_get h, wsize_neg b1 b2, e1, e2, e3, Int.neg_mul_neg]
    exact ⟨trivial, by omega, trivial⟩
theorem mirror_of {l : List Int} (h : chk l = 0) (h2 : l.length ≤ 200) : ofA l = .tup [agg4 (xl l l.length), .int .i64 0] ∧ ofA (negs l) = .tup [agg4 (xl (negs l) l.length), .int .i64 0] ∧
    -13421772800 ≤ (xl l l.length).2.1 ∧ (xl l l.length).2.1 ≤ 13421772800 := by
  have a := plevs_x h h2 l.length (Nat.le_refl _)
  have b := plevs_x (negs_chk h) (by rw [negs_len]; exact h2) l.length (by rw [negs_len]; exact Nat.le_refl _)
  rw [ofA_ok h, ofA_ok (negs_chk h), negs_len, a.1, b.1]
  refine ⟨rfl, rfl, ?_, ?_⟩ <;> omega
end Go.Proofs.Ytnkaagbepppodaa
