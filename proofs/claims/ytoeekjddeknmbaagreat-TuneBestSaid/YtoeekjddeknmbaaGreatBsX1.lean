/-
  Contracts of functions of the program, proved over the abstract machine of the Al texts.
-/
import Derived.Test.YtoeekjddeknmbaaGreatBaseX
import Derived.Test.YtoeekjddeknmbaaGreatRkX
set_option maxHeartbeats 4000000
set_option maxRecDepth 20000
set_option linter.unusedSimpArgs false
set_option linter.unusedVariables false
open Go Go.AL
namespace Go.Proofs.YtoeekjddeknmbaaGreat
abbrev W (n : Int) : Int := IntKind.wrap .i64 n
theorem W_range (n : Int) : -9223372036854775808 ≤ W n ∧ W n < 9223372036854775808 := by
 unfold W
 simp only [IntKind.wrap, IntKind.bits, IntKind.signed]
 by_cases h : n % 2 ^ 64 ≥ 2 ^ (64 - 1)
 ·simp; omega
 ·simp; omega
def rnd (p : Int) : Int := W (p + 8192) / 16384
theorem rnd_range (p : Int) : -9223372036854775808 ≤ rnd p ∧ rnd p < 9223372036854775808 := by
 have := W_range (p + 8192)
 unfold rnd; omega
theorem lround_spec (a : Int) (h : Heap) : Does PP 118 [I a] h (Is (I (rnd a)) h) := by
 obtain ⟨r, hr⟩ : ∃ r, r = rnd a := ⟨_, rfl⟩
 rw [← hr]
 refine wlk Tryz.f118 ?_
 unhygienic intros
 have e : i2 .shr .i64 (i2 .add .i64 a 8192) 14 = r := by
  rw [hk.i2_eq, hr]
  show (W (a + 8192)).fdiv (2 ^ (min (14 : Int).toNat 64)) = _
  rw [show min (14 : Int).toNat 64 = 14 by decide, Int.fdiv_eq_ediv_of_nonneg _ (by decide)]
  rfl
 (conv => cbv)
 repeat' (first | assumption | ((first | refine stp ?_ | refine stpB (fun _ => ?_) (fun _ => ?_)) <;> (conv => cbv)) | exact stpF | fail)
 rw [e]
 exact hk.fin1 rfl
theorem tdiv_floor (n d : Int) (hd : 0 < d) : n / d = if n.tmod d < 0 then n.tdiv d - 1 else n.tdiv d := by
 have h1 := Int.mul_tdiv_add_tmod n d
 have h2 := Int.tmod_lt_of_pos n hd
 have h3 : -d < n.tmod d := by
  rcases Int.le_total 0 n with h | h
  ·have := Int.tmod_nonneg d h; omega
  ·have h4 : (-n).tmod d < d := Int.tmod_lt_of_pos (-n) hd
   rw [Int.neg_tmod] at h4; omega
 have h5 := Int.emod_nonneg n (Int.ne_of_gt hd)
 have h6 := Int.emod_lt_of_pos n hd
 split
 ·rename_i hneg
  refine Int.le_antisymm ?_ ?_
  ·refine Int.le_of_lt_add_one ((Int.ediv_lt_iff_lt_mul hd).2 ?_)
   rw [Int.sub_add_cancel]
   rw [Int.mul_comm]; omega
  ·refine (Int.le_ediv_iff_mul_le hd).2 ?_
   rw [Int.sub_mul, Int.mul_comm]; omega
 ·rename_i hpos
  refine Int.le_antisymm ?_ ?_
  ·refine Int.le_of_lt_add_one ((Int.ediv_lt_iff_lt_mul hd).2 ?_)
   rw [Int.add_mul, Int.mul_comm]; omega
  ·refine (Int.le_ediv_iff_mul_le hd).2 ?_
   rw [Int.mul_comm]; omega
theorem rround_spec (a : Int) (h : Heap) : Does PP 54 [I a] h (Is (I (rnd a)) h) := by
 obtain ⟨r, hr⟩ : ∃ r, r = rnd a := ⟨_, rfl⟩
 rw [← hr]
 have hw := W_range (a + 8192)
 obtain ⟨w, hw0⟩ : ∃ w, w = W (a + 8192) := ⟨_, rfl⟩
 rw [← hw0] at hw
 have hf := tdiv_floor w 16384 (by decide)
 have hq : -9223372036854775808 ≤ w.tdiv 16384 ∧ w.tdiv 16384 < 9223372036854775808 := by split at hf <;> omega
 have hr2 : r = if w.tmod 16384 < 0 then w.tdiv 16384 - 1 else w.tdiv 16384 := by rw [hr, rnd, ← hw0, hf]
 have hr3 := rnd_range a
 rw [← hr] at hr3
 refine wlk Tryz.f54 ?_
 unhygienic intros
 have e1 : i2 .add .i64 a 8192 = w := by rw [hk.i2_add, hw0]
 have e2 : i2 .quo .i64 w 16384 = w.tdiv 16384 := by rw [hk.i2_quo]; exact wrap64 hq.1 hq.2
 have e3 : i2 .rem .i64 w 16384 = w.tmod 16384 := hk.i2_rem _ _ _
 obtain ⟨q, hq0⟩ : ∃ q, q = w.tdiv 16384 := ⟨_, rfl⟩
 obtain ⟨m, hm0⟩ : ∃ q, q = w.tmod 16384 := ⟨_, rfl⟩
 rw [← hq0] at e2 hr2
 rw [← hm0] at e3 hr2
 have e4 : m < 0 → i2 .sub .i64 q 1 = r := fun h => by rw [if_pos h] at hr2; rw [hr2, hk.sub64 _ _ (by omega) (by omega)]
 clear hw0 hf hr hq hq0 hm0
 (conv => cbv)
 refine hk.nzI (by decide) ?_
 (conv => cbv)
 rw [e1]
 refine hk.nzI (by decide) ?_
 (conv => cbv)
 rw [e3]
 refine hk.brLss (fun h => ?_) (fun h => ?_)
 ·have e4 := e4 h
  (conv => cbv)
  rw [e2, e4]
  exact hk.fin1 rfl
 ·rw [if_neg h] at hr2
  subst hr2
  (conv => cbv)
  rw [e2]
  exact hk.fin1 rfl
theorem down_spec (n : Int) (h : Heap) (hn : -9223372036854775808 ≤ n ∧ n < 9223372036854775808) : Does PP 96 [I n] h (Is (I (n / 16)) h) := by
 obtain ⟨r, hr⟩ : ∃ r, r = n / 16 := ⟨_, rfl⟩
 rw [← hr]
 have hf := tdiv_floor n 16 (by decide)
 have hr3 : -9223372036854775808 ≤ r ∧ r < 9223372036854775808 := by omega
 have hq : -9223372036854775808 ≤ n.tdiv 16 ∧ n.tdiv 16 < 9223372036854775808 := by split at hf <;> omega
 rw [← hr] at hf
 refine wlk Tryz.f96 ?_
 unhygienic intros
 have e2 : i2 .quo .i64 n 16 = n.tdiv 16 := by rw [hk.i2_quo]; exact wrap64 hq.1 hq.2
 have e3 : i2 .rem .i64 n 16 = n.tmod 16 := hk.i2_rem _ _ _
 obtain ⟨q, hq0⟩ : ∃ q, q = n.tdiv 16 := ⟨_, rfl⟩
 obtain ⟨m, hm0⟩ : ∃ q, q = n.tmod 16 := ⟨_, rfl⟩
 rw [← hq0] at e2 hf
 rw [← hm0] at e3 hf
 have e4 : m < 0 → i2 .sub .i64 q 1 = r := fun h => by rw [if_pos h] at hf; rw [hf, hk.sub64 _ _ (by omega) (by omega)]
 clear hr hq hq0 hm0
 (conv => cbv)
 refine hk.nzI (by decide) ?_
 (conv => cbv)
 refine hk.nzI (by decide) ?_
 (conv => cbv)
 rw [e3]
 refine hk.brLss (fun h => ?_) (fun h => ?_)
 ·have e4 := e4 h
  (conv => cbv)
  rw [e2, e4]
  exact hk.fin1 rfl
 ·rw [if_neg h] at hf
  subst hf
  (conv => cbv)
  rw [e2]
  exact hk.fin1 rfl
def refl_ (p i : Int) : Int := if p = 0 then 2 * ((i + 64) * (i + 64)) - 16384 else if p = 1 then 16384 - 2 * ((i + 64) * (i + 64)) else 256 * i
theorem sq_range (i : Int) (h0 : -64 ≤ i) (h1 : i ≤ 63) : 0 ≤ (i + 64) * (i + 64) ∧ (i + 64) * (i + 64) ≤ 16129 := by
 refine ⟨Int.mul_nonneg (by omega) (by omega), ?_⟩
 have := Int.mul_le_mul (show i + 64 ≤ 127 by omega) (show i + 64 ≤ 127 by omega) (show 0 ≤ i + 64 by omega) (by decide)
 omega
theorem lrefl_spec (p i : Int) (h : Heap) (h0 : -64 ≤ i) (h1 : i ≤ 63) : Does PP 116 [I p, I i] h (Is (I (refl_ p i)) h) := by
 obtain ⟨r, hr⟩ : ∃ r, r = refl_ p i := ⟨_, rfl⟩
 rw [← hr]
 have hs := sq_range i h0 h1
 obtain ⟨q, hq⟩ : ∃ q, q = (i + 64) * (i + 64) := ⟨_, rfl⟩
 rw [refl_, ← hq] at hr
 rw [← hq] at hs
 refine wlk Tryz.f116 ?_
 unhygienic intros
 have e1 : i2 .sub .i64 i (-64) = i + 64 := by rw [hk.sub64 _ _ (by omega) (by omega)]; omega
 have e2 : i2 .mul .i64 (i2 .mul .i64 2 (i + 64)) (i + 64) = 2 * q := by
  rw [hk.mul64 2 _ (by omega) (by omega), hk.i2_mul, Int.mul_assoc, ← hq]; exact wrap64 (by omega) (by omega)
 have e3 : i2 .sub .i64 (2 * q) 16384 = 2 * q - 16384 := hk.sub64 _ _ (by omega) (by omega)
 have e4 : i2 .sub .i64 16384 (2 * q) = 16384 - 2 * q := hk.sub64 _ _ (by omega) (by omega)
 have e5 : i2 .mul .i64 256 i = 256 * i := hk.mul64 _ _ (by omega) (by omega)
 clear hq
 (conv => cbv)
 repeat' (first
  | assumption
  | (refine stpB (fun _ => ?_) (fun _ => ?_) <;> (conv => cbv))
  | (refine stp ?_; (conv => cbv))
  | exact stpF
  | fail)
 ·rename_i h
  rw [if_pos h] at hr
  rw [e1, e2, e3, ← hr]
  exact hk.fin1 rfl
 ·rename_i h h2
  rw [if_neg h, if_pos h2] at hr
  rw [e1, e2, e4, ← hr]
  exact hk.fin1 rfl
 ·rename_i h h2
  rw [if_neg h, if_neg h2] at hr
  rw [e5, ← hr]
  exact hk.fin1 rfl
theorem rrefl_spec (p i : Int) (h : Heap) (h0 : -64 ≤ i) (h1 : i ≤ 63) : Does PP 52 [I p, I i] h (Is (I (refl_ p i)) h) := by
 obtain ⟨r, hr⟩ : ∃ r, r = refl_ p i := ⟨_, rfl⟩
 rw [← hr]
 have hs := sq_range i h0 h1
 obtain ⟨q, hq⟩ : ∃ q, q = (i + 64) * (i + 64) := ⟨_, rfl⟩
 rw [refl_, ← hq] at hr
 rw [← hq] at hs
 refine wlk Tryz.f52 ?_
 unhygienic intros
 have e1 : i2 .add .i64 i 64 = i + 64 := hk.add64 _ _ (by omega) (by omega)
 have e2 : i2 .mul .i64 (i2 .mul .i64 2 (i + 64)) (i + 64) = 2 * q := by
  rw [hk.mul64 2 _ (by omega) (by omega), hk.i2_mul, Int.mul_assoc, ← hq]; exact wrap64 (by omega) (by omega)
 have e3 : i2 .sub .i64 (2 * q) 16384 = 2 * q - 16384 := hk.sub64 _ _ (by omega) (by omega)
 have e4 : i2 .sub .i64 16384 (2 * q) = 16384 - 2 * q := hk.sub64 _ _ (by omega) (by omega)
 have e5 : i2 .mul .i64 256 i = 256 * i := hk.mul64 _ _ (by omega) (by omega)
 clear hq
 (conv => cbv)
 repeat' (first
  | assumption
  | (refine stpB (fun _ => ?_) (fun _ => ?_) <;> (conv => cbv))
  | (refine stp ?_; (conv => cbv))
  | exact stpF
  | fail)
 ·rename_i h
  rw [if_pos h] at hr
  rw [e1, e2, e3, ← hr]
  exact hk.fin1 rfl
 ·rename_i h h2
  rw [if_neg h, if_pos h2] at hr
  rw [e1, e2, e4, ← hr]
  exact hk.fin1 rfl
 ·rename_i h h2
  rw [if_neg h, if_neg h2] at hr
  rw [e5, ← hr]
  exact hk.fin1 rfl
theorem power_spec (n : Int) (h : Heap) (hn : n ≤ 62) : Does PP 25 [I n] h (Is (I ((2 : Int) ^ n.toNat)) h) := by
 obtain ⟨F, hF⟩ : ∃ F : Int → Int, ∀ i, F i = 2 ^ i.toNat := ⟨_, fun _ => rfl⟩
 rw [← hF]
 have h0 : F 0 = 1 := by rw [hF]; rfl
 have hneg : n < 0 → F n = 1 := fun h => by rw [hF, show n.toNat = 0 by omega]; rfl
 have hst : ∀ i : Int, 0 ≤ i → F (i + 1) = F i * 2 := fun i h => by rw [hF, hF, show (i + 1).toNat = i.toNat + 1 by omega, Int.pow_succ]
 have hle : ∀ i : Int, 0 ≤ i → i ≤ 62 → 0 < F i ∧ F i ≤ 4611686018427387904 := fun i a b => by
  rw [hF]
  have := Nat.pow_le_pow_right (n := 2) (by decide) (show i.toNat ≤ 62 by omega)
  exact ⟨Int.pow_pos (by decide), by have := Int.ofNat_le.2 this; simpa using this⟩
 obtain ⟨r, hr⟩ : ∃ r, r = F n := ⟨_, rfl⟩
 rw [← hr]
 clear hF
 refine wlk Tryz.f25 ?_
 unhygienic intros
 have hm : ∀ i : Int, 0 ≤ i → i < 62 → i2 .mul .i64 (F i) 2 = F (i + 1) := fun i a b => by
  have := hle i a (by omega)
  have := hle (i + 1) (by omega) (by omega)
  have := hst i a
  rw [hk.mul64 _ _ (by omega) (by omega)]; omega
 (conv => cbv)
 refine hk.loopI (loop_rule (α := Int) (fun i => [(0, .int .i64 n), (2, .int .i64 0), (3, .int .i64 (F i)), (4, .int .i64 i)]) (fun _ => h)
  (fun i => 0 ≤ i ∧ (i ≤ n ∨ i = 0)) (fun i => (n - i).toNat) 0 ⟨by omega, .inr rfl⟩ ?_ ?_)
 ·rw [h0]
  exact ghT
 intro i ⟨hi, hi2⟩ Q' hb hx hr2
 (conv => cbv)
 refine hk.brLss (fun h2 => ?_) (fun h2 => ?_)
 ·have hm := hm i hi (by omega)
  (conv => cbv)
  rw [hm]
  refine hb (i + 1) _ ⟨by omega, by omega⟩ (by omega) ?_
  refine Gh.tm ?_
  repeat' (first | exact Holds.nil _ _ | refine Holds.cons (Wk.refl _ _) ?_ | refine Holds.cons (Wk.of_eq ?_) ?_)
  all_goals first
   | (rw [← hk.add64 i 1 (by omega) (by omega)]; rfl)
   | rfl
   | skip
 ·have e : F i = r := by
   rcases hi2 with h | h
   ·rw [hr, show i = n by omega]
   ·by_cases hn0 : n < 0
    ·rw [hr, hneg hn0, h, h0]
    ·rw [hr, show n = i by omega]
  rw [e]
  refine hx _ _ ?_
  (conv => cbv)
  exact hk.fin1 rfl
def termB (a b : Int) : Bool := decide (a = 0 ∧ b = 0 ∨ 1 ≤ a ∧ a ≤ 255 ∧ 1 ≤ b ∧ b ≤ 15)
theorem rterm_spec (a b : Int) (h : Heap) : Does PP 57 [I a, I b] h (Is (.bool (termB a b)) h) := by
 obtain ⟨r, hr⟩ : ∃ r, r = termB a b := ⟨_, rfl⟩
 rw [← hr]
 have ht : (a = 0 ∧ b = 0 ∨ 1 ≤ a ∧ a ≤ 255 ∧ 1 ≤ b ∧ b ≤ 15) → r = true := fun h => by rw [hr, termB, decide_eq_true_eq]; exact h
 have hf : ¬ (a = 0 ∧ b = 0 ∨ 1 ≤ a ∧ a ≤ 255 ∧ 1 ≤ b ∧ b ≤ 15) → r = false := fun h => by rw [hr, termB, decide_eq_false_iff_not]; exact h
 clear hr
 refine wlk Tryz.f57 ?_
 unhygienic intros
 (conv => cbv)
 repeat' (first | assumption | ((first | refine stp ?_ | refine stpB (fun _ => ?_) (fun _ => ?_)) <;> (conv => cbv)) | exact stpF | fail)
 all_goals first
  | (exact hk.finB (ht (by omega)).symm)
  | (exact hk.finB (hf (by omega)).symm)
  | skip
 refine hk.finB ?_
 rw [hk.c2_leq]
 by_cases h : b ≤ 15
 ·rw [ht (by omega)]; simp [h]
 ·rw [hf (by omega)]; simp [h]
theorem lterm_spec (a b : Int) (h : Heap) : Does PP 67 [.agg [I a, I b]] h (Is (.bool (termB a b)) h) := by
 obtain ⟨r, hr⟩ : ∃ r, r = termB a b := ⟨_, rfl⟩
 rw [← hr]
 have ht : (a = 0 ∧ b = 0 ∨ 1 ≤ a ∧ a ≤ 255 ∧ 1 ≤ b ∧ b ≤ 15) → r = true := fun h => by rw [hr, termB, decide_eq_true_eq]; exact h
 have hf : ¬ (a = 0 ∧ b = 0 ∨ 1 ≤ a ∧ a ≤ 255 ∧ 1 ≤ b ∧ b ≤ 15) → r = false := fun h => by rw [hr, termB, decide_eq_false_iff_not]; exact h
 clear hr
 refine pure0 ?_ rfl rfl h
 refine wlk Tryz.f67 ?_
 unhygienic intros
 have hba : ba (c2 .eql a 0) (ba (c2 .eql b 0) true) = decide (a = 0 ∧ b = 0) := by rw [hk.ba_eq, hk.ba_eq, hk.c2_eql, hk.c2_eql]; simp
 (conv => cbv)
 rw [hba]
 by_cases h : a = 0 ∧ b = 0
 ·rw [decide_eq_true h]
  have := ht (by omega)
  subst this
  (conv => cbv)
  repeat' (first | assumption | ((first | refine stp ?_ | refine stpB (fun _ => ?_) (fun _ => ?_)) <;> (conv => cbv)) | exact stpF | fail)
  all_goals exact hk.fin0 rfl rfl (.refl _ _)
 ·rw [decide_eq_false h]
  (conv => cbv)
  repeat' (first | assumption | ((first | refine stp ?_ | refine stpB (fun _ => ?_) (fun _ => ?_)) <;> (conv => cbv)) | exact stpF | fail)
  all_goals first
   | (rw [← hf (by omega)]; exact hk.fin0 rfl rfl (.refl _ _))
   | skip
  refine hk.fin0 rfl rfl (Wk.of_eq (congrArg _ ?_))
  rw [hk.c2_leq]
  by_cases h : b ≤ 15
  ·rw [ht (by omega)]; simp [h]
  ·rw [hf (by omega)]; simp [h]
theorem outs_spec (n : Int) (h : Heap) : Does PP 100 [I n] h (Is (.bool (decide (n < -64) || decide (n > 63))) h) := by
 obtain ⟨r, hr0⟩ : ∃ r, r = (decide (n < -64) || decide (n > 63)) := ⟨_, rfl⟩
 rw [← hr0]
 refine wlk Tryz.f100 ?_
 unhygienic intros
 (conv => cbv)
 refine hk.brLss (fun h => ?_) (fun h => ?_)
 ·(conv => cbv)
  exact hk.finB (by rw [hr0]; simp [h])
 ·(conv => cbv)
  exact hk.finB (by rw [hr0, hk.c2_gtr]; simp [h])
theorem sfar_spec (n : Int) (h : Heap) : Does PP 120 [I n] h (Is (.bool (decide (n < -8589934592) || decide (n ≥ 8589934592))) h) := by
 obtain ⟨r, hr0⟩ : ∃ r, r = (decide (n < -8589934592) || decide (n ≥ 8589934592)) := ⟨_, rfl⟩
 rw [← hr0]
 refine wlk Tryz.f120 ?_
 unhygienic intros
 (conv => cbv)
 refine hk.brLss (fun h => ?_) (fun h => ?_)
 ·(conv => cbv)
  exact hk.finB (by rw [hr0]; simp [h])
 ·(conv => cbv)
  exact hk.finB (by rw [hr0, hk.c2_geq]; simp [h])
theorem bfar_spec (n : Int) (h : Heap) : Does PP 70 [I n] h (Is (.bool (decide (n < -8589934592) || decide (n ≥ 8589934592))) h) := by
 obtain ⟨r, hr0⟩ : ∃ r, r = (decide (n < -8589934592) || decide (n ≥ 8589934592)) := ⟨_, rfl⟩
 rw [← hr0]
 refine wlk Tryz.f70 ?_
 unhygienic intros
 (conv => cbv)
 refine hk.brLss (fun h => ?_) (fun h => ?_)
 ·(conv => cbv)
  exact hk.finB (by rw [hr0]; simp [h])
 ·(conv => cbv)
  exact hk.finB (by rw [hr0, hk.c2_geq]; simp [h])
theorem souts_spec (n : Int) (h : Heap) : Does PP 102 [I n] h (Is (.bool (decide (n < 0) || decide (n > 24))) h) := by
 obtain ⟨r, hr0⟩ : ∃ r, r = (decide (n < 0) || decide (n > 24)) := ⟨_, rfl⟩
 rw [← hr0]
 refine wlk Tryz.f102 ?_
 unhygienic intros
 (conv => cbv)
 refine hk.brLss (fun h => ?_) (fun h => ?_)
 ·(conv => cbv)
  exact hk.finB (by rw [hr0]; simp [h])
 ·(conv => cbv)
  exact hk.finB (by rw [hr0, hk.c2_gtr]; simp [h])
theorem huge_spec (n : Int) (h : Heap) : Does PP 106 [I n] h (Is (.bool (decide (n < -1152921504606846976) || decide (n > 1152921504606846976))) h) := by
 obtain ⟨r, hr0⟩ : ∃ r, r = (decide (n < -1152921504606846976) || decide (n > 1152921504606846976)) := ⟨_, rfl⟩
 rw [← hr0]
 refine wlk Tryz.f106 ?_
 unhygienic intros
 (conv => cbv)
 refine hk.brLss (fun h => ?_) (fun h => ?_)
 ·(conv => cbv)
  exact hk.finB (by rw [hr0]; simp [h])
 ·(conv => cbv)
  exact hk.finB (by rw [hr0, hk.c2_gtr]; simp [h])
theorem louts_spec (n : Int) (h : Heap) : Does PP 105 [I n] h (Is (.bool (decide (n < -1099511627776) || decide (n > 1099511627776))) h) := by
 obtain ⟨r, hr0⟩ : ∃ r, r = (decide (n < -1099511627776) || decide (n > 1099511627776)) := ⟨_, rfl⟩
 rw [← hr0]
 refine wlk Tryz.f105 ?_
 unhygienic intros
 (conv => cbv)
 refine hk.brLss (fun h => ?_) (fun h => ?_)
 ·(conv => cbv)
  exact hk.finB (by rw [hr0]; simp [h])
 ·(conv => cbv)
  exact hk.finB (by rw [hr0, hk.c2_gtr]; simp [h])
theorem bcount_spec (n : Int) (h : Heap) : Does PP 30 [I n] h (Is (.bool (decide (1 ≤ n) && decide (n ≤ 1024))) h) := by
 obtain ⟨r, hr0⟩ : ∃ r, r = (decide (1 ≤ n) && decide (n ≤ 1024)) := ⟨_, rfl⟩
 rw [← hr0]
 refine wlk Tryz.f30 ?_
 unhygienic intros
 (conv => cbv)
 refine hk.brGeq (fun h => ?_) (fun h => ?_)
 ·(conv => cbv)
  exact hk.finB (by rw [hr0, hk.c2_leq]; simp [show 1 ≤ n from h])
 ·(conv => cbv)
  exact hk.finB (by rw [hr0]; simp [show ¬ 1 ≤ n from h])
theorem bdepth_spec (n : Int) (h : Heap) : Does PP 31 [I n] h (Is (.bool (decide (8 ≤ n) && decide (n ≤ 26))) h) := by
 obtain ⟨r, hr0⟩ : ∃ r, r = (decide (8 ≤ n) && decide (n ≤ 26)) := ⟨_, rfl⟩
 rw [← hr0]
 refine wlk Tryz.f31 ?_
 unhygienic intros
 (conv => cbv)
 refine hk.brGeq (fun h => ?_) (fun h => ?_)
 ·(conv => cbv)
  exact hk.finB (by rw [hr0, hk.c2_leq]; simp [show 8 ≤ n from h])
 ·(conv => cbv)
  exact hk.finB (by rw [hr0]; simp [show ¬ 8 ≤ n from h])
theorem rdepth_spec (n : Int) (h : Heap) : Does PP 21 [I n] h (Is (.bool (decide (8 ≤ n) && decide (n ≤ 26))) h) := by
 obtain ⟨r, hr0⟩ : ∃ r, r = (decide (8 ≤ n) && decide (n ≤ 26)) := ⟨_, rfl⟩
 rw [← hr0]
 refine wlk Tryz.f21 ?_
 unhygienic intros
 (conv => cbv)
 refine hk.brGeq (fun h => ?_) (fun h => ?_)
 ·(conv => cbv)
  exact hk.finB (by rw [hr0, hk.c2_leq]; simp [show 8 ≤ n from h])
 ·(conv => cbv)
  exact hk.finB (by rw [hr0]; simp [show ¬ 8 ≤ n from h])
def allP (g : Int → Bool) (l : List Int) : Bool := !(l.any g)
theorem allP_iff (g : Int → Bool) (l : List Int) : allP g l = true ↔ ∀ j, j < l.length → g (l.getD j 0) = false := by
 unfold allP
 rw [Bool.not_eq_true', List.any_eq_false]
 constructor
 ·intro h j hj
  have := h (l.getD j 0) (mem_getD.2 ⟨j, hj, rfl⟩)
  simpa using this
 ·intro h x hx
  obtain ⟨j, hj, rfl⟩ := mem_getD.1 hx
  exact fun e => by rw [h j hj] at e; cases e
def ixP (n : Int) : Bool := decide (n < -64) || decide (n > 63)
def goodIx (l : List Int) : Bool := decide (l.length ≤ 16) && allP ixP l
theorem lgood_spec (l : List Int) (h : Heap) (hl : l.length ≤ 9223372036854775807) : Does PP 65 [LI l] h (Is (.bool (goodIx l)) h) := by
 have hc := contains_spec l 100 [] ixP h hl (fun n => outs_spec n h)
 obtain ⟨u, hu⟩ : ∃ u, u = l.any ixP := ⟨_, rfl⟩
 obtain ⟨r, hr⟩ : ∃ u, u = goodIx l := ⟨_, rfl⟩
 rw [← hu] at hc
 rw [← hr]
 have h1 : l.length ≤ 16 → r = !u := fun h => by rw [hr, hu, goodIx, allP]; simp [h]
 have h2 : ¬ l.length ≤ 16 → r = false := fun h => by rw [hr, goodIx]; simp [h]
 clear hu hr
 refine wlk Tryz.f65 ?_
 unhygienic intros
 have hln := hk.lnI_eq l
 have h1 : lnI l ≤ 16 → r = !u := fun h => h1 (by omega)
 have h2 : ¬ lnI l ≤ 16 → r = false := fun h => h2 (by omega)
 clear hln
 (conv => cbv)
 refine hk.brLeq (fun h => ?_) (fun h => ?_)
 ·have := h1 h
  (conv => cbv)
  refine hk.callA hc ?_
  (conv => cbv)
  exact hk.finB (by rw [hk.bn_eq, this])
 ·have := h2 h
  subst this
  (conv => cbv)
  repeat' (first | assumption | ((first | refine stp ?_ | refine stpB (fun _ => ?_) (fun _ => ?_)) <;> (conv => cbv)) | exact stpF | fail)
theorem rgood_spec (l : List Int) (h : Heap) (hl : l.length ≤ 9223372036854775807) : Does PP 56 [LI l] h (Is (.bool (goodIx l)) h) := by
 obtain ⟨r, hr⟩ : ∃ u, u = goodIx l := ⟨_, rfl⟩
 rw [← hr]
 have hno : ∀ i, i < l.length → ixP (l.getD i 0) = true → r = false := fun i hi h => by
  have : allP ixP l = false := by
   rw [Bool.eq_false_iff, ne_eq, allP_iff]
   intro h2
   rw [h2 i hi] at h; cases h
  rw [hr, goodIx, this]; simp
 have hyes : (∀ i, i < l.length → ixP (l.getD i 0) = false) → r = decide (l.length ≤ 16) := fun h => by
  rw [hr, goodIx, (allP_iff _ _).2 h]; simp
 clear hr
 refine wlk Tryz.f56 ?_
 unhygienic intros
 have hln := hk.lnI_eq l
 have hnn := hk.lnI_nn l
 have hmx := hk.lnI_le l 9223372036854775807 (by omega)
 have hgl := hk.gtI_eq l
 have hno : ∀ i : Int, 0 ≤ i → i < lnI l → (gtI l i < -64 ∨ gtI l i > 63) → r = false := fun i a b c => hno i.toNat (by omega) (by rw [← hgl]; unfold ixP; rw [Bool.or_eq_true, decide_eq_true_eq, decide_eq_true_eq]; omega)
 have hyes : (∀ j, j < (lnI l).toNat → ∀ i : Int, i.toNat = j → 0 ≤ i → ¬ (gtI l i < -64 ∨ gtI l i > 63)) → r = c2 .leq (lnI l) 16 := fun h => by
  have := hyes (fun i hi => by
   have := h i (by omega) i (by omega) (by omega)
   rw [hgl, Int.toNat_natCast] at this
   unfold ixP
   rw [Bool.or_eq_false_iff, decide_eq_false_iff_not, decide_eq_false_iff_not]; omega)
  rw [this]
  simp only [hk.c2_leq, hk.c2_geq, hln]
  first | rfl | (congr 1 <;> exact decide_eq_decide.2 (by omega)) | exact decide_eq_decide.2 (by omega)
 clear hgl hln
 (conv => cbv)
 refine hk.loopI (loop_rule (α := Int) (fun i => [(0, .ls (.il .i64 l) .any), (2, .bool false), (5, .int .i64 (lnI l)), (6, .int .i64 i)]) (fun i => h)
  (fun i => 0 ≤ i ∧ i ≤ lnI l ∧ ∀ j, j < i.toNat → ∀ i : Int, i.toNat = j → 0 ≤ i → ¬ (gtI l i < -64 ∨ gtI l i > 63)) (fun i => (lnI l - i).toNat) 0 ⟨by omega, by omega, upto_zero⟩ ?_ ?_)
 ·exact ghT
 intro i ⟨hi, hi2, hi3⟩ Q' hb hx hr
 (conv => cbv)
 refine hk.brLss (fun h2 => ?_) (fun h2 => ?_)
 ·have hno := hno i hi h2
  (conv => cbv)
  refine hk.idxI hi h2 ?_
  (conv => cbv)
  refine hk.brLss (fun h3 => ?_) (fun h3 => ?_)
  ·have := hno (.inl h3)
   subst this
   (conv => cbv)
   repeat' (first | assumption | ((first | refine hr _ ?_ | refine stp ?_ | refine stpB (fun _ => ?_) (fun _ => ?_)) <;> (conv => cbv)) | exact stpF | fail)
  (conv => cbv)
  refine hk.idxI hi h2 ?_
  (conv => cbv)
  refine hk.brGtr (fun h4 => ?_) (fun h4 => ?_)
  ·have := hno (.inr h4)
   subst this
   (conv => cbv)
   repeat' (first | assumption | ((first | refine hr _ ?_ | refine stp ?_ | refine stpB (fun _ => ?_) (fun _ => ?_)) <;> (conv => cbv)) | exact stpF | fail)
  ·(conv => cbv)
   refine hb (i + 1) _ ⟨by omega, by omega, upto_step hi hi3 (fun i' a b c => by rw [show i' = i by omega] at c; omega)⟩ (by omega) ?_
   refine Gh.tm ?_
   repeat' (first | exact Holds.nil _ _ | refine Holds.cons (Wk.refl _ _) ?_ | refine Holds.cons (Wk.of_eq ?_) ?_)
   all_goals first
    | (rw [← hk.add64 i 1 (by omega) (by omega)]; rfl)
    | rfl
    | skip
 ·have : i = lnI l := by omega
  subst this
  have := hyes hi3
  refine hx _ _ ?_
  (conv => cbv)
  rw [this]
  first
   | exact hk.fin1 rfl
   | (refine hk.brGeq (fun h => ?_) (fun h => ?_)
      ·(conv => cbv)
       exact hk.finB (by rw [hk.c2_geq]; simp [h])
      ·(conv => cbv)
       exact hk.finB (by rw [hk.c2_geq]; simp [h]))
def farP (n : Int) : Bool := decide (n < -8589934592) || decide (n > 8589934591)
def listB (l : List Int) : Bool := (decide (1 ≤ l.length) && decide (l.length ≤ 1024)) && allP farP l
theorem rlist_spec (l : List Int) (h : Heap) (hl : l.length ≤ 9223372036854775807) : Does PP 60 [LI l] h (Is (.bool (listB l)) h) := by
 obtain ⟨r, hr⟩ : ∃ u, u = listB l := ⟨_, rfl⟩
 rw [← hr]
 have hno : ∀ i, i < l.length → farP (l.getD i 0) = true → r = false := fun i hi h => by
  have : allP farP l = false := by
   rw [Bool.eq_false_iff, ne_eq, allP_iff]
   intro h2
   rw [h2 i hi] at h; cases h
  rw [hr, listB, this]; simp
 have hyes : (∀ i, i < l.length → farP (l.getD i 0) = false) → r = (decide (1 ≤ l.length) && decide (l.length ≤ 1024)) := fun h => by
  rw [hr, listB, (allP_iff _ _).2 h]; simp
 clear hr
 refine wlk Tryz.f60 ?_
 unhygienic intros
 have hln := hk.lnI_eq l
 have hnn := hk.lnI_nn l
 have hmx := hk.lnI_le l 9223372036854775807 (by omega)
 have hgl := hk.gtI_eq l
 have hno : ∀ i : Int, 0 ≤ i → i < lnI l → (gtI l i < -8589934592 ∨ gtI l i > 8589934591) → r = false := fun i a b c => hno i.toNat (by omega) (by rw [← hgl]; unfold farP; rw [Bool.or_eq_true, decide_eq_true_eq, decide_eq_true_eq]; omega)
 have hyes : (∀ j, j < (lnI l).toNat → ∀ i : Int, i.toNat = j → 0 ≤ i → ¬ (gtI l i < -8589934592 ∨ gtI l i > 8589934591)) → r = (c2 .geq (lnI l) 1 && c2 .leq (lnI l) 1024) := fun h => by
  have := hyes (fun i hi => by
   have := h i (by omega) i (by omega) (by omega)
   rw [hgl, Int.toNat_natCast] at this
   unfold farP
   rw [Bool.or_eq_false_iff, decide_eq_false_iff_not, decide_eq_false_iff_not]; omega)
  rw [this]
  simp only [hk.c2_leq, hk.c2_geq, hln]
  first | rfl | (congr 1 <;> exact decide_eq_decide.2 (by omega)) | exact decide_eq_decide.2 (by omega)
 clear hgl hln
 (conv => cbv)
 refine hk.loopI (loop_rule (α := Int) (fun i => [(0, .ls (.il .i64 l) .any), (2, .bool false), (5, .int .i64 (lnI l)), (6, .int .i64 i)]) (fun i => h)
  (fun i => 0 ≤ i ∧ i ≤ lnI l ∧ ∀ j, j < i.toNat → ∀ i : Int, i.toNat = j → 0 ≤ i → ¬ (gtI l i < -8589934592 ∨ gtI l i > 8589934591)) (fun i => (lnI l - i).toNat) 0 ⟨by omega, by omega, upto_zero⟩ ?_ ?_)
 ·exact ghT
 intro i ⟨hi, hi2, hi3⟩ Q' hb hx hr
 (conv => cbv)
 refine hk.brLss (fun h2 => ?_) (fun h2 => ?_)
 ·have hno := hno i hi h2
  (conv => cbv)
  refine hk.idxI hi h2 ?_
  (conv => cbv)
  refine hk.brLss (fun h3 => ?_) (fun h3 => ?_)
  ·have := hno (.inl h3)
   subst this
   (conv => cbv)
   repeat' (first | assumption | ((first | refine hr _ ?_ | refine stp ?_ | refine stpB (fun _ => ?_) (fun _ => ?_)) <;> (conv => cbv)) | exact stpF | fail)
  (conv => cbv)
  refine hk.idxI hi h2 ?_
  (conv => cbv)
  refine hk.brGtr (fun h4 => ?_) (fun h4 => ?_)
  ·have := hno (.inr h4)
   subst this
   (conv => cbv)
   repeat' (first | assumption | ((first | refine hr _ ?_ | refine stp ?_ | refine stpB (fun _ => ?_) (fun _ => ?_)) <;> (conv => cbv)) | exact stpF | fail)
  ·(conv => cbv)
   refine hb (i + 1) _ ⟨by omega, by omega, upto_step hi hi3 (fun i' a b c => by rw [show i' = i by omega] at c; omega)⟩ (by omega) ?_
   refine Gh.tm ?_
   repeat' (first | exact Holds.nil _ _ | refine Holds.cons (Wk.refl _ _) ?_ | refine Holds.cons (Wk.of_eq ?_) ?_)
   all_goals first
    | (rw [← hk.add64 i 1 (by omega) (by omega)]; rfl)
    | rfl
    | skip
 ·have : i = lnI l := by omega
  subst this
  have := hyes hi3
  refine hx _ _ ?_
  (conv => cbv)
  rw [this]
  first
   | exact hk.fin1 rfl
   | (refine hk.brGeq (fun h => ?_) (fun h => ?_)
      ·(conv => cbv)
       exact hk.finB (by rw [hk.c2_geq]; simp [h])
      ·(conv => cbv)
       exact hk.finB (by rw [hk.c2_geq]; simp [h]))
def lagPart (a g : Int) (out : List Int) (i : Int) : Int := if a = 0 ∨ i < a then 0 else (out.getD (i - a).toNat 0 * g) / 16
def onGo (a g : Int) : List Int → List Int → Option (List Int)
 | out, [] => some out
 | out, n :: l => if n + lagPart a g out (out.length : Nat) < -1099511627776 ∨ n + lagPart a g out (out.length : Nat) > 1099511627776 then none else onGo a g (out ++ [n + lagPart a g out (out.length : Nat)]) l
def Small40 (l : List Int) : Prop := ∀ i, i < l.length → -1099511627776 ≤ l.getD i 0 ∧ l.getD i 0 ≤ 1099511627776
theorem prod_range (x g : Int) (h0 : -1099511627776 ≤ x) (h1 : x ≤ 1099511627776) (g0 : 0 ≤ g) (g1 : g ≤ 15) : -16492674416640 ≤ x * g ∧ x * g ≤ 16492674416640 := by
 constructor
 ·have h2 : -1099511627776 * g ≤ x * g := Int.mul_le_mul_of_nonneg_right h0 g0
  omega
 ·have h2 : x * g ≤ 1099511627776 * g := Int.mul_le_mul_of_nonneg_right h1 g0
  omega
theorem lagPart_range (a g : Int) (out : List Int) (i : Int) (hs : Small40 out) (hi : i = (out.length : Nat)) (ht : termB a g = true) : -1030792151040 ≤ lagPart a g out i ∧ lagPart a g out i ≤ 1030792151040 := by
 unfold lagPart
 rw [termB, decide_eq_true_eq] at ht
 split
 ·omega
 ·obtain ⟨h0, h1⟩ := hs (i - a).toNat (by omega)
  have := prod_range _ g h0 h1 (by omega) (by omega)
  omega
theorem lpart_spec (a g i : Int) (out : List Int) (h : Heap) (hs : Small40 out) (hi : i = (out.length : Nat)) (hl : out.length ≤ 1024) (ht : termB a g = true) :
 Does PP 104 [.agg [I a, I g], LI out, I i] h (Is (I (lagPart a g out i)) h) := by
 obtain ⟨r, hr⟩ : ∃ r, r = lagPart a g out i := ⟨_, rfl⟩
 have h0 : (a = 0 ∨ i < a) → r = 0 := fun h => by rw [hr, lagPart, if_pos h]
 have h1 : ¬ (a = 0 ∨ i < a) → r = (out.getD (i - a).toNat 0 * g) / 16 := fun h => by rw [hr, lagPart, if_neg h]
 rw [← hr]
 rw [termB, decide_eq_true_eq] at ht
 refine pure0 ?_ rfl rfl h
 refine wlk Tryz.f104 ?_
 unhygienic intros
 have hsub : ¬ (a = 0 ∨ i < a) → i2 .sub .i64 i a = i - a := fun h => hk.sub64 _ _ (by omega) (by omega)
 have hidx : ¬ (a = 0 ∨ i < a) → 0 ≤ i - a ∧ i - a < lnI out := fun h => by rw [hk.lnI_eq]; omega
 have hv : ¬ (a = 0 ∨ i < a) → i2 .shr .i64 (i2 .mul .i64 (gtI out (i - a)) g) 4 = r := fun h => by
  obtain ⟨b0, b1⟩ := hs (i - a).toNat (by omega)
  have := prod_range _ g b0 b1 (by omega) (by omega)
  rw [h1 h, hk.gtI_eq, hk.mul64 _ _ (by omega) (by omega), hk.i2_eq]
  show (_ : Int).fdiv (2 ^ (min (4 : Int).toNat 64)) = _
  rw [show min (4 : Int).toNat 64 = 4 by decide, Int.fdiv_eq_ediv_of_nonneg _ (by decide)]
  rfl
 clear hr h1 hs hi
 (conv => cbv)
 repeat' (first
  | assumption
  | (refine stpB (fun _ => ?_) (fun _ => ?_) <;> (conv => cbv))
  | (refine stp ?_; (conv => cbv))
  | exact stpF
  | fail)
 ·rename_i h
  rw [h0 (.inl h)]
  exact hk.fin0 rfl rfl (.refl _ _)
 ·rename_i h h2
  rw [h0 (.inr h2)]
  exact hk.fin0 rfl rfl (.refl _ _)
 ·rename_i h h2
  have hn : ¬ (a = 0 ∨ i < a) := by omega
  rw [hsub hn, hv hn]
  first
   | exact hk.fin0 rfl rfl (.refl _ _)
   | (refine hk.idxI (hidx hn).1 (hidx hn).2 (hk.ge0I (n := 4) (by decide) ?_)
      exact hk.fin0 rfl rfl (.refl _ _))
theorem lwrong_spec (a g : Int) (l : List Int) (h : Heap) (ht : termB a g = true) (hs : Small40 l) (hl : l.length ≤ 1024) : Does PP 103 [.agg [I a, I g], LI l] h (Is (I 0) h) := by
 have h1 := fun h => lterm_spec a g h
 simp only [ht] at h1
 have h2 := fun h => contains_spec l 105 [] (fun n => decide (n < -1099511627776) || decide (n > 1099511627776)) h (by omega) (fun n => louts_spec n h)
 rw [show l.any (fun n => decide (n < -1099511627776) || decide (n > 1099511627776)) = false by
  rw [List.any_eq_false]
  intro x hx
  obtain ⟨j, hj, rfl⟩ := mem_getD.1 hx
  have := hs j hj
  rw [Bool.or_eq_true, decide_eq_true_eq, decide_eq_true_eq]; omega] at h2
 refine pure0 ?_ rfl rfl h
 refine wlk Tryz.f103 ?_
 unhygienic intros
 clear hs ht
 (conv => cbv)
 repeat' (first | assumption | ((first | refine hk.callA (h1 _) ?_ | refine hk.callA (h2 _) ?_ | refine stp ?_ | refine stpB (fun _ => ?_) (fun _ => ?_)) <;> (conv => cbv)) | exact stpF | fail)
 all_goals exact hk.fin0 rfl rfl (.refl _ _)
theorem onGo_drop {a g : Int} {out l : List Int} {i : Nat} (hi : i < l.length) (ho : out.length = i) : onGo a g out (l.drop i) = if l.getD i 0 + lagPart a g out (i : Nat) < -1099511627776 ∨ l.getD i 0 + lagPart a g out (i : Nat) > 1099511627776 then none else onGo a g (out ++ [l.getD i 0 + lagPart a g out (i : Nat)]) (l.drop (i + 1)) := by
 rw [List.drop_eq_getElem_cons hi]
 have : l[i] = l.getD i 0 := by simp [List.getD, hi]
 rw [this]
 simp only [onGo, ho]
theorem small_snoc {out : List Int} {m : Int} (hs : Small40 out) (hm : ¬ (m < -1099511627776 ∨ m > 1099511627776)) : Small40 (out ++ [m]) := fun i hi => by
 rw [List.getD_eq_getElem?_getD, List.getElem?_append]
 split
 ·rename_i h; rw [← List.getD_eq_getElem?_getD]; exact hs i h
 ·rw [List.length_append, List.length_singleton] at hi
  rw [show i - out.length = 0 by omega]
  simp; omega
def onL (a g : Int) (l : List Int) : List Int := (onGo a g [] l).getD []
def onE (a g : Int) (l : List Int) : Int := if (onGo a g [] l).isSome then 0 else 9
theorem lon_spec (a g : Int) (l : List Int) (h : Heap) (ht : termB a g = true) (hs : Small40 l) (hl : l.length ≤ 1024) : Does PP 71 [.agg [I a, I g], LI l] h (Is (.tup [LI (onL a g l), I (onE a g l)]) h) := by
 have hw := fun h => lwrong_spec a g l h ht hs hl
 obtain ⟨n, hn⟩ : ∃ n : Int, n = (l.length : Nat) := ⟨_, rfl⟩
 obtain ⟨res, hres⟩ : ∃ r, r = onGo a g [] l := ⟨_, rfl⟩
 obtain ⟨L, hL⟩ : ∃ r, r = onL a g l := ⟨_, rfl⟩
 obtain ⟨E, hE⟩ : ∃ r, r = onE a g l := ⟨_, rfl⟩
 have hsome : ∀ x, res = some x → L = x ∧ E = 0 := fun x e => by rw [hL, hE, onL, onE, ← hres, e]; exact ⟨rfl, rfl⟩
 have hnone : res = none → L = [] ∧ E = 9 := fun e => by rw [hL, hE, onL, onE, ← hres, e]; exact ⟨rfl, rfl⟩
 rw [← hL, ← hE]
 obtain ⟨J, hJd⟩ : ∃ J : Int → List Int → Prop, ∀ i out, J i out ↔ out.length = i.toNat ∧ Small40 out ∧ res = onGo a g out (l.drop i.toNat) := ⟨_, fun _ _ => Iff.rfl⟩
 have hJ0 : J 0 [] := (hJd _ _).2 ⟨rfl, fun i hi => by simp at hi, by simpa using hres⟩
 have hJe : ∀ out, J n out → L = out ∧ E = 0 := fun out hJ => hsome out (by rw [((hJd _ _).1 hJ).2.2, List.drop_eq_nil_of_le (by omega)]; rfl)
 have hJs : ∀ (i : Int) out, 0 ≤ i → i < n → J i out → ∃ m t : Int, (∀ h, Does PP 104 [.agg [I a, I g], LI out, I i] h (Is (I t) h)) ∧ m = l.getD i.toNat 0 + t ∧ -1030792151040 ≤ t ∧ t ≤ 1030792151040 ∧ ((m < -1099511627776 ∨ m > 1099511627776) → L = [] ∧ E = 9) ∧ (¬ (m < -1099511627776 ∨ m > 1099511627776) → J (i + 1) (out ++ [m])) := fun i out h0 h1 hJ => by
  obtain ⟨c1, c2, c3⟩ := (hJd _ _).1 hJ
  have hd := onGo_drop (a := a) (g := g) (out := out) (l := l) (i := i.toNat) (by omega) c1
  have hr := lagPart_range a g out i c2 (by omega) ht
  rw [show ((i.toNat : Nat) : Int) = i by omega] at hd
  refine ⟨_, lagPart a g out i, fun h => lpart_spec a g i out h c2 (by omega) (by omega) ht, rfl, hr.1, hr.2, fun hb => hnone (by rw [c3, hd, if_pos hb]), fun hb => (hJd _ _).2 ⟨by rw [List.length_append, c1]; simp; omega, small_snoc c2 hb, by rw [c3, hd, if_neg hb, show (i + 1).toNat = i.toNat + 1 by omega]⟩⟩
 have hJl : ∀ i out, J i out → out.length = i.toNat := fun i out hJ => ((hJd _ _).1 hJ).1
 have hlr : ∀ i : Int, 0 ≤ i → i < n → -1099511627776 ≤ l.getD i.toNat 0 ∧ l.getD i.toNat 0 ≤ 1099511627776 := fun i h0 h1 => hs _ (by omega)
 have hn0 : 0 ≤ n ∧ n ≤ 1024 := by omega
 have hll := hn
 have hout := fun (m : Int) (h : Heap) => louts_spec m h
 obtain ⟨ob, hob⟩ : ∃ ob : Int → Bool, ∀ m, ob m = (decide (m < -1099511627776) || decide (m > 1099511627776)) := ⟨_, fun _ => rfl⟩
 simp only [← hob] at hout
 have hobt : ∀ m, ob m = true ↔ (m < -1099511627776 ∨ m > 1099511627776) := fun m => by rw [hob, Bool.or_eq_true, decide_eq_true_eq, decide_eq_true_eq]
 clear hs hres hL hE hsome hnone hJd hob
 refine pure0 ?_ rfl rfl h
 refine wlk Tryz.f71 ?_
 unhygienic intros
 have hln : lnI l = n := by rw [hk.lnI_eq]; omega
 have hgl := hk.gtI_eq l
 have hl1 : ∀ x, lnI [x] = 1 := fun x => hk.lnI_eq _
 have hlo : ∀ out i, 0 ≤ i → J i out → lnI out = i := fun out i h hJ => by rw [hk.lnI_eq, hJl i out hJ]; omega
 clear hll hn
 (conv => cbv)
 repeat' (first | assumption | ((first | refine hk.callA (hw _) ?_ | refine stp ?_ | refine stpB (fun _ => ?_) (fun _ => ?_)) <;> (conv => cbv)) | exact stpF | fail)
 try rw [hln]
 refine hk.loopI (loop_rule (α := Int × List Int) (fun x => [(2, .ptr 0 0), (4, .ls .nl .nil), (5, .int .i64 0), (7, .ls (.il .i64 x.2) (.tok 1 0)), (16, .ls (.il .i64 l) .any), (17, .int .i64 n), (18, .int .i64 x.1)]) (fun x => [.box [.int .i64 a, .int .i64 g], .tok 0])
  (fun x => 0 ≤ x.1 ∧ x.1 ≤ n ∧ J x.1 x.2) (fun x => (n - x.1).toNat) (0, []) ⟨by omega, by simp only; omega, hJ0⟩ ?_ ?_)
 ·refine Gh.trans (Gh.thaw 7 (.il .i64 []) rfl trivial rfl) (Gh.tm ?_)
  repeat' (first | exact Holds.nil _ _ | refine Holds.cons (Wk.refl _ _) ?_)
 intro ⟨i, out⟩ ⟨hi, hi2, hJ⟩ Q' hb hx hr
 simp only at hi hi2 hJ
 have hlo := hlo out i hi hJ
 (conv => cbv)
 refine hk.brLss (fun h2 => ?_) (fun h2 => ?_)
 ·obtain ⟨m, t, hpt, hm, ht0, ht1, hbad, hgood⟩ := hJs i out hi h2 hJ
  have hlr := hlr i hi h2
  have hgl := hgl i
  obtain ⟨x, hx0⟩ : ∃ x, x = gtI l i := ⟨_, rfl⟩
  rw [← hx0] at hgl
  rw [← hgl] at hm hlr
  have hadd : i2 .add .i64 x t = m := by rw [hm]; exact hk.add64 _ _ (by omega) (by omega)
  obtain ⟨o, ho⟩ : ∃ o, o = ob m := ⟨_, rfl⟩
  have hot := hobt m
  have hout := fun h => hout m h
  simp only [← ho] at hout hot
  (conv => cbv)
  try rw [hln]
  refine hk.idxI hi h2 ?_
  (conv => cbv)
  rw [← hx0]
  repeat' (first
   | assumption
   | (refine hk.callA (Does.wk (hpt _) ?_) ?_
      ·(repeat' (first | exact WkL.nil | refine WkL.cons (Wk.refl _ _) ?_ | refine WkL.cons (Wk.any _ _ _) ?_ | refine WkL.cons (Wk.nilL _ _) ?_))
      (conv => cbv))
   | ((first | rw [hadd] | refine hk.callA (hout _) ?_ | refine stp ?_ | refine stpB (fun _ => ?_) (fun _ => ?_)) <;> (conv => cbv))
   | exact stpF
   | fail)
  cases o
  ·have hgood := hgood (fun h => by have := hot.2 h; cases this)
   have hap : apI out [m] = out ++ [m] := hk.apI_eq _ _
   (conv => cbv)
   rw [hlo, hl1, hap]
   refine hk.needI (by first | (simp only [rNd, hk.ad_eq, hk.sb_eq]; omega) | (simp [rNd, hk.ad_eq, hk.sb_eq]; omega)) ?_
   (conv => cbv)
   refine hb (i + 1, out ++ [m]) _ ⟨by simp only; omega, by simp only; omega, hgood⟩ (by simp only; omega) ?_
   refine Gh.retok 1 1 rfl (Nat.le_of_ble_eq_true rfl) ?_ rfl rfl
   repeat' (first | exact HoldsT.nil _ _ _ _ | refine HoldsT.tok rfl ?_ | refine HoldsT.cons (Wk.refl _ _) rfl ?_ | refine HoldsT.cons (Wk.of_eq ?_) rfl ?_)
   all_goals first
    | (rw [← hk.add64 i 1 (by omega) (by omega)]; rfl)
    | rfl
    | skip
  ·obtain ⟨e1, e2⟩ := hbad (hot.1 rfl)
   subst e1 e2
   (conv => cbv)
   repeat' (first | assumption | ((first | refine hr _ ?_ | refine stp ?_ | refine stpB (fun _ => ?_) (fun _ => ?_)) <;> (conv => cbv)) | exact stpF | fail)
   exact hk.fin0 rfl rfl (Wk.tup ⟨Wk.nilL _ _, .refl _ _, trivial⟩)
 ·have : i = n := by omega
  subst this
  obtain ⟨e1, e2⟩ := hJe out hJ
  subst e1 e2
  refine hx _ _ ?_
  (conv => cbv)
  exact hk.fin0 rfl rfl (Wk.tup ⟨Wk.any _ _ _, .refl _ _, trivial⟩)
end Go.Proofs.YtoeekjddeknmbaaGreat
