/-
  Contracts of functions of the program, proved over the abstract machine of the Al texts.
-/
import Derived.Test.YtoeekjddeknmbaaGreatTryTab
import Derived.Test.YtoeekjddeknmbaaGreatAl4
import Derived.Test.YtoeekjddeknmbaaGreatBaseX
import Derived.Test.YtoeekjddeknmbaaGreatSlX
import Derived.Test.YtoeekjddeknmbaaGreatRkX
import Derived.Test.YtoeekjddeknmbaaGreatPpX
import Derived.Test.YtoeekjddeknmbaaGreatTkX1
import Derived.Test.YtoeekjddeknmbaaGreatTkX2
import Derived.Test.YtoeekjddeknmbaaGreatTkX3
import Derived.Test.YtoeekjddeknmbaaGreatBsX1
import Derived.Test.YtoeekjddeknmbaaGreatBsX3
import Derived.Test.YtoeekjddeknmbaaGreatPpZ
import Derived.Test.YtoeekjddeknmbaaGreatBsX2
import Derived.Test.YtoeekjddeknmbaaGreatBsX4
import Derived.Test.YtoeekjddeknmbaaGreatBsX5
import Derived.Test.YtoeekjddeknmbaaGreatBsX6
import Derived.Test.YtoeekjddeknmbaaGreatBsX8
import Derived.Test.YtoeekjddeknmbaaGreatPlX
import Derived.Test.YtoeekjddeknmbaaGreatSlW
import Derived.Test.YtoeekjddeknmbaaGreatTkX6
set_option maxHeartbeats 4000000
set_option maxRecDepth 20000
set_option linter.unusedSimpArgs false
set_option linter.unusedVariables false
open Go Go.AL
namespace Go.Proofs.YtoeekjddeknmbaaGreat
theorem rFold_spec (n : Int) (h : Heap) (h0 : -8589934592 ≤ n) (h1 : n < 8589934592) : Does PP 135 [I n] h (Is (I (foldZ n)) h) := by
 obtain ⟨r, hr⟩ : ∃ r, r = foldZ n := ⟨_, rfl⟩
 rw [← hr]
 have hr1 : n < 0 → r = -2 * n - 1 := fun h => by rw [hr, foldZ, if_pos h]
 have hr2 : ¬ n < 0 → r = 2 * n := fun h => by rw [hr, foldZ, if_neg h]
 clear hr
 refine pure0 ?_ rfl rfl h
 refine wlk Tryz.f135 ?_
 unhygienic intros
 obtain ⟨a, ha⟩ : ∃ a, a = n + 1 := ⟨_, rfl⟩
 obtain ⟨na, hna⟩ : ∃ x, x = -a := ⟨_, rfl⟩
 obtain ⟨b, hb⟩ : ∃ x, x = na * 2 := ⟨_, rfl⟩
 obtain ⟨b1, hb1⟩ : ∃ x, x = b + 1 := ⟨_, rfl⟩
 obtain ⟨e, he⟩ : ∃ x, x = n * 2 := ⟨_, rfl⟩
 have t1 : i2 .add .i64 n 1 = a := by rw [ha]; exact hk.add64 _ _ (by omega) (by omega)
 have t2 : u1 .neg .i64 a = na := by rw [hk.u1_neg, hna, show (0 : Int) - a = -a by omega]; exact wrap64 (by omega) (by omega)
 have t3 : i2 .mul .i64 na 2 = b := by rw [hb]; exact hk.mul64 _ _ (by omega) (by omega)
 have t4 : i2 .add .i64 b 1 = b1 := by rw [hb1]; exact hk.add64 _ _ (by omega) (by omega)
 have t5 : i2 .mul .i64 n 2 = e := by rw [he]; exact hk.mul64 _ _ (by omega) (by omega)
 by_cases hn : n < 0
 ·have hr1 := hr1 hn
  have : r = b1 := by omega
  subst this
  (conv => cbv)
  repeat' (first | assumption | ((first | rw [t1] | rw [t2] | rw [t3] | rw [t4] | rw [t5] | refine stp ?_ | refine stpB (fun _ => ?_) (fun _ => ?_)) <;> (conv => cbv)) | exact stpF | fail)
  all_goals exact hk.fin0 rfl rfl (Wk.refl _ _)
 ·have hr2 := hr2 hn
  have : r = e := by omega
  subst this
  (conv => cbv)
  repeat' (first | assumption | ((first | rw [t1] | rw [t2] | rw [t3] | rw [t4] | rw [t5] | refine stp ?_ | refine stpB (fun _ => ?_) (fun _ => ?_)) <;> (conv => cbv)) | exact stpF | fail)
  all_goals exact hk.fin0 rfl rfl (Wk.refl _ _)
theorem rSame_spec (kd vl sh : Int) (ix : List Int) (lg gn pt : Int) (rc da : List Int) (h : Heap) (h1 : ix.length ≤ 9223372036854775807) (h2 : rc.length ≤ 9223372036854775807) (h3 : da.length ≤ 9223372036854775807) :
 Does PP 11 [.agg [I kd, I vl, I sh, LI ix, I lg, I gn, I pt, LI rc, LI da], .agg [I kd, I vl, I sh, LI ix, I lg, I gn, I pt, LI rc, LI da]] h (Is (.bool true) h) := by
 have s1 := fun h => same_spec ix ix h h1 h1
 have s2 := fun h => same_spec rc rc h h2 h2
 have s3 := fun h => same_spec da da h h3 h3
 rw [decide_eq_true rfl] at s1 s2 s3
 refine pure0 ?_ rfl rfl h
 refine wlk Tryz.f11 ?_
 unhygienic intros
 (conv => cbv)
 repeat' (first | assumption | ((first | refine stp ?_ | refine stpB (fun _ => ?_) (fun _ => ?_)) <;> (conv => cbv)) | exact stpF | fail)
 all_goals exact hk.fin0 rfl rfl (Wk.refl _ _)
theorem rLength_spec (n k : Int) (h : Heap) (h0 : -8589934592 ≤ n) (h1 : n < 8589934592) (k0 : 0 ≤ k) (k1 : k ≤ 24) : Does PP 124 [I n, I k] h (Is (I ((rcode n k).length : Nat)) h) := by
 obtain ⟨z0, z1⟩ := foldZ_range h0 h1
 have hfo := fun h => rFold_spec n h h0 h1
 have hpw := fun h => power_spec k h (by omega)
 have hp0 : (0 : Int) < 2 ^ k.toNat := Int.pow_pos (by decide)
 have hq0 : 0 ≤ foldZ n / 2 ^ k.toNat := Int.ediv_nonneg z0 (by omega)
 have hqz : foldZ n / 2 ^ k.toNat ≤ foldZ n := Int.ediv_le_self _ z0
 obtain ⟨r, hr⟩ : ∃ r : Int, r = ((rcode n k).length : Nat) := ⟨_, rfl⟩
 rw [← hr]
 have hr1 : foldZ n / 2 ^ k.toNat < 24 → r = foldZ n / 2 ^ k.toNat + 1 + k := fun h => by
  rw [hr, rcode, if_pos h, List.length_append, zb_len, bitsOf_len]; omega
 have hr2 : ¬ foldZ n / 2 ^ k.toNat < 24 → r = 59 := fun h => by
  rw [hr, rcode, if_neg h, List.length_append, zb_len, bitsOf_len]; rfl
 clear hr
 obtain ⟨P, hP⟩ : ∃ P : Int, P = 2 ^ k.toNat := ⟨_, rfl⟩
 obtain ⟨z, hz0⟩ : ∃ P : Int, P = foldZ n := ⟨_, rfl⟩
 simp only [← hP, ← hz0] at *
 obtain ⟨Q, hQ⟩ : ∃ P' : Int, P' = z / P := ⟨_, rfl⟩
 simp only [← hQ] at hq0 hqz hr1 hr2
 clear hP hz0
 refine pure0 ?_ rfl rfl h
 refine wlk Tryz.f124 ?_
 unhygienic intros
 have hP0 : P ≠ 0 := by omega
 have t1 : i2 .quo .i64 z P = Q := by rw [hk.i2_quo, Int.tdiv_eq_ediv_of_nonneg z0, ← hQ, wrap64 (by omega) (by omega)]
 have t2 : i2 .add .i64 Q 1 = Q + 1 := hk.add64 _ _ (by omega) (by omega)
 have t3 : Q < 24 → i2 .add .i64 (Q + 1) k = Q + 1 + k := fun h => hk.add64 _ _ (by omega) (by omega)
 obtain ⟨Q1, hQ1⟩ : ∃ x, x = Q + 1 := ⟨_, rfl⟩
 rw [← hQ1] at t2 t3 hr1
 obtain ⟨R1, hR1⟩ : ∃ x, x = Q1 + k := ⟨_, rfl⟩
 rw [← hR1] at t3 hr1
 clear hQ
 by_cases hq : Q < 24
 ·have hr1 := hr1 hq
  have t3 := t3 hq
  subst hr1
  (conv => cbv)
  repeat' (first | assumption | ((first | rw [t1] | rw [t2] | rw [t3] | refine stp ?_ | refine stpB (fun _ => ?_) (fun _ => ?_)) <;> (conv => cbv)) | exact stpF | fail)
  all_goals exact hk.fin0 rfl rfl (Wk.refl _ _)
 ·have hr2 := hr2 hq
  subst hr2
  (conv => cbv)
  repeat' (first | assumption | ((first | rw [t1] | refine stp ?_ | refine stpB (fun _ => ?_) (fun _ => ?_)) <;> (conv => cbv)) | exact stpF | fail)
  all_goals exact hk.fin0 rfl rfl (Wk.refl _ _)
theorem rTotal_spec (l : List Int) (k : Int) (h : Heap) (hl : l.length ≤ 1024) (hv : ∀ i, i < l.length → -8589934592 ≤ l.getD i 0 ∧ l.getD i 0 < 8589934592) (k0 : 0 ≤ k) (k1 : k ≤ 24) : Does PP 93 [LI l, I k] h (Is (I ((rcodes k l).length : Nat)) h) := by
 obtain ⟨T, hT⟩ : ∃ T : Int → Int, ∀ i, T i = ((rcodes k (l.take i.toNat)).length : Nat) := ⟨_, fun _ => rfl⟩
 obtain ⟨N, hN⟩ : ∃ N : Int, N = (l.length : Nat) := ⟨_, rfl⟩
 have hTN : (((rcodes k l).length : Nat) : Int) = T N := by rw [hT, hN, Int.toNat_natCast, List.take_length]
 have hT0 : T 0 = 0 := by rw [hT]; simp [rcodes]
 have hTr : ∀ i : Int, 0 ≤ i → i ≤ N → 0 ≤ T i ∧ T i ≤ 100000 := fun i a b => by
  have := rcodes_len k l k1 hv i.toNat (by omega)
  rw [hT]; omega
 have hst : ∀ i : Int, 0 ≤ i → i < N → ∃ v : Int, 0 ≤ v ∧ v ≤ 59 ∧ (∀ h, Does PP 124 [I (l.getD i.toNat 0), I k] h (Is (I v) h)) ∧ T (i + 1) = T i + v := fun i a b => by
  obtain ⟨c, d⟩ := hv i.toNat (by omega)
  refine ⟨((rcode (l.getD i.toNat 0) k).length : Nat), by omega, by have := rcode_len (l.getD i.toNat 0) k c d k1; omega, fun h => rLength_spec _ k h c d k0 k1, ?_⟩
  rw [hT, hT, show (i + 1).toNat = i.toNat + 1 by omega, rcodes_step k l _ (by omega), List.length_append]
  omega
 rw [hTN]
 clear hT hTN hv
 refine pure0 ?_ rfl rfl h
 refine wlk Tryz.f93 ?_
 unhygienic intros
 have hln : lnI l = N := by rw [hk.lnI_eq]; omega
 have hgt := hk.gtI_eq l
 (conv => cbv)
 repeat' (first | assumption | ((first | rw [hln] | refine stp ?_ | refine stpB (fun _ => ?_) (fun _ => ?_)) <;> (conv => cbv)) | exact stpF | fail)
 refine hk.loopI (loop_rule (α := Int) (fun i => [(0, .ls (.il .i64 l) .any), (1, .int .i64 k), (4, .int .i64 0), (5, .int .i64 (T i)), (8, .int .i64 N), (9, .int .i64 i)]) (fun _ => [])
  (fun i => 0 ≤ i ∧ i ≤ N) (fun i => (N - i).toNat) 0 ⟨by omega, by omega⟩ ?_ ?_)
 ·rw [hT0]
  exact ghT
 intro i ⟨hi, hi2⟩ Q' hb hx hr
 have hTi := hTr i hi hi2
 by_cases hin : i < N
 ·obtain ⟨v, v0, v1, hlen, hv2⟩ := hst i hi hin
  obtain ⟨x, hx0⟩ : ∃ x, x = gtI l i := ⟨_, rfl⟩
  rw [← hgt, ← hx0] at hlen
  obtain ⟨T0, hT0⟩ : ∃ x, x = T i := ⟨_, rfl⟩
  obtain ⟨T1, hT1⟩ : ∃ x, x = T (i + 1) := ⟨_, rfl⟩
  rw [← hT0, ← hT1] at hv2
  rw [← hT0] at hTi
  rw [← hT0]
  have t1 : i2 .add .i64 T0 v = T1 := by rw [hv2]; exact hk.add64 _ _ (by omega) (by omega)
  (conv => cbv)
  repeat' (first | assumption | ((first | rw [hln] | refine hk.idxI hi hin ?_ | refine hk.idxI hi (by rw [hln]; exact hin) ?_ | rw [← hx0] | rw [t1] | refine stp ?_ | refine stpB (fun _ => ?_) (fun _ => ?_)) <;> (conv => cbv)) | exact stpF | fail)
  refine hb (i + 1) _ ⟨by omega, by omega⟩ (by omega) ?_
  rw [← hT1]
  refine Gh.tm ?_
  repeat' (first | exact Holds.nil _ _ | refine Holds.cons (Wk.refl _ _) ?_ | refine Holds.cons (Wk.of_eq ?_) ?_)
  all_goals first
   | (rw [← hk.add64 i 1 (by omega) (by omega)]; rfl)
   | rfl
   | skip
 ·have : i = N := by omega
  subst this
  (conv => cbv)
  repeat' (first | assumption | ((first | refine hx _ _ ?_ | refine stp ?_ | refine stpB (fun _ => ?_) (fun _ => ?_)) <;> (conv => cbv)) | exact stpF | fail)
  all_goals exact hk.fin0 rfl rfl (Wk.refl _ _)
theorem rslBits_spec (l : List Int) (p : Int) (ks : List Int) (h : Heap) (hl1 : 1 ≤ l.length) (hl : l.length ≤ 1024) (hp : partsB (l.length : Nat) p ks = true) (hf : l.any farP = false) :
 Does PP 48 [LI l, .agg [I p, LI ks]] h (Is (I ((bitsOf p.toNat 2 ++ pcodes l ks (l.length / 2 ^ p.toNat) ks.length).length : Nat)) h) := by
 have hg1 := hp
 unfold partsB at hg1
 simp only [Bool.and_eq_true, decide_eq_true_eq] at hg1
 obtain ⟨⟨w1, w2⟩, w3⟩ := hg1
 obtain ⟨_, _, p0, p3, pm⟩ := whole_iff.1 w1
 rw [allP_iff] at w3
 have hp8 : ∀ k : Nat, k ≤ 3 → (1 : Int) ≤ 2 ^ k ∧ (2 : Int) ^ k ≤ 8 := by decide
 obtain ⟨q1, q8⟩ := hp8 p.toNat (by omega)
 obtain ⟨P, hP⟩ : ∃ P : Nat, P = 2 ^ p.toNat := ⟨_, rfl⟩
 have hPi : (2 : Int) ^ p.toNat = (P : Int) := by rw [hP]; simp
 rw [hPi] at w2 q1 q8 pm
 have hkl : ks.length = P := by omega
 have hdvd : l.length / P * P = l.length := by
  rw [Int.tmod_eq_emod_of_nonneg (by omega), ← Int.natCast_emod] at pm
  exact Nat.div_mul_cancel (Nat.dvd_of_mod_eq_zero (by omega))
 rw [← hP]
 obtain ⟨m, hm⟩ : ∃ m, m = l.length / P := ⟨_, rfl⟩
 rw [← hm] at hdvd
 rw [← hm]
 have hm1024 : m ≤ 1024 := by rw [hm]; exact Nat.le_trans (Nat.div_le_self _ _) hl
 have hks : ∀ i, i < ks.length → 0 ≤ ks.getD i 0 ∧ ks.getD i 0 ≤ 24 := fun i hi => by
  have := w3 i hi
  simp only [kP, Bool.or_eq_false_iff, decide_eq_false_iff_not] at this
  omega
 have hfar : ∀ x ∈ l, -8589934592 ≤ x ∧ x < 8589934592 := fun x hx => by
  rw [List.any_eq_false] at hf
  have := hf x hx
  rw [farP, Bool.or_eq_true, decide_eq_true_eq, decide_eq_true_eq] at this
  omega
 obtain ⟨B, hB⟩ : ∃ B : Int → Int, ∀ i, B i = 2 + ((pcodes l ks m i.toNat).length : Nat) := ⟨_, fun _ => rfl⟩
 obtain ⟨K, hK⟩ : ∃ N : Int, N = (ks.length : Nat) := ⟨_, rfl⟩
 obtain ⟨N, hN⟩ : ∃ N : Int, N = (l.length : Nat) := ⟨_, rfl⟩
 obtain ⟨M, hM⟩ : ∃ N : Int, N = (m : Nat) := ⟨_, rfl⟩
 have hBK : (((bitsOf p.toNat 2 ++ pcodes l ks m ks.length).length : Nat) : Int) = B K := by
  rw [hB, hK, Int.toNat_natCast, List.length_append, bitsOf_len]; omega
 have hB0 : B 0 = 2 := by rw [hB]; simp [pcodes]
 have hpl : ∀ i, (partL l m i).length ≤ 1024 := fun i => by rw [partL, List.length_take]; omega
 have hpv : ∀ i j, j < (partL l m i).length → -8589934592 ≤ (partL l m i).getD j 0 ∧ (partL l m i).getD j 0 < 8589934592 := fun i j hj => hfar _ (by
  have : (partL l m i).getD j 0 ∈ partL l m i := mem_getD.2 ⟨j, hj, rfl⟩
  generalize (partL l m i).getD j 0 = y at *
  rw [partL] at this
  exact List.mem_of_mem_drop (List.mem_of_mem_take this))
 have hBr : ∀ i : Int, 0 ≤ i → i ≤ K → 0 ≤ B i ∧ B i ≤ 1000000 := fun i a b => by
  have h1 := pcodes_len l ks m (fun i hi => (hks i hi).2) hfar i.toNat (by omega)
  have h2 : i.toNat * (5 + 59 * m) ≤ 8 * (5 + 59 * 1024) := Nat.mul_le_mul (by omega) (by omega)
  rw [hB]; omega
 have hst : ∀ i : Int, 0 ≤ i → i < K → ∃ (k v a b : Int) (x : List Int), ks.getD i.toNat 0 = k ∧ a = i * M ∧ b = (i + 1) * M ∧ 0 ≤ a ∧ a ≤ b ∧ b ≤ N ∧ (l.drop a.toNat).take (b - a).toNat = x ∧ 0 ≤ v ∧ v ≤ 100000 ∧ (∀ h, Does PP 93 [LI x, I k] h (Is (I v) h)) ∧ B (i + 1) = B i + 5 + v := fun i a b => by
  obtain ⟨k0, k1⟩ := hks i.toNat (by omega)
  have hin : ((i.toNat : Nat) : Int) = i := by omega
  have e1 : i * M = ((i.toNat * m : Nat) : Int) := by rw [hM, Int.natCast_mul, hin]
  have e2 : (i + 1) * M = (((i.toNat + 1) * m : Nat) : Int) := by rw [hM, Int.natCast_mul, Int.natCast_add, hin]; rfl
  have hb : (i.toNat + 1) * m ≤ l.length := by
   rw [← hdvd, Nat.mul_comm m P]
   exact Nat.mul_le_mul_right _ (by omega)
  have hsm : (i.toNat + 1) * m = i.toNat * m + m := Nat.succ_mul _ _
  have hx : (l.drop ((i * M).toNat)).take ((i + 1) * M - i * M).toNat = partL l m i.toNat := by
   rw [e1, e2, partL, Int.toNat_natCast, show ((((i.toNat + 1) * m : Nat) : Int) - ((i.toNat * m : Nat) : Int)).toNat = m by omega]
  have hrl := rcodes_len (ks.getD i.toNat 0) (partL l m i.toNat) k1 (hpv i.toNat) (partL l m i.toNat).length (Nat.le_refl _)
  rw [List.take_length] at hrl
  have := hpl i.toNat
  refine ⟨_, ((rcodes (ks.getD i.toNat 0) (partL l m i.toNat)).length : Nat), i * M, (i + 1) * M, partL l m i.toNat, rfl, rfl, rfl, by rw [e1]; omega, by rw [e1, e2]; omega, by rw [e2, hN]; omega, hx, by omega, by omega, fun h => rTotal_spec _ _ h (hpl _) (hpv _) k0 k1, ?_⟩
  rw [hB, hB, show (i + 1).toNat = i.toNat + 1 by omega, pcodes, List.length_append, pcode, List.length_append, bitsOf_len]
  omega
 have hN1 : 1 ≤ N ∧ N ≤ 1024 := by omega
 have hK1 : 1 ≤ K ∧ K ≤ 8 := by omega
 have hM1 : 0 ≤ M ∧ M ≤ 1024 := by omega
 have hNK : N / K = M := by rw [hN, hK, hM, hm, hkl, ← Int.natCast_ediv]
 have hlens : ((l.length : Nat) : Int) = N ∧ ((ks.length : Nat) : Int) = K := ⟨hN.symm, hK.symm⟩
 rw [hBK]
 clear hB hBK hpl hpv hks hfar hM hm hkl hdvd hP hPi w1 w2 w3 pm hp hf q1 q8 hm1024
 refine pure0 ?_ rfl rfl h
 refine wlk Tryz.f48 ?_
 unhygienic intros
 have e1 : lnI l = N := by rw [hk.lnI_eq]; exact hlens.1
 have e2 : lnI ks = K := by rw [hk.lnI_eq]; exact hlens.2
 have e3 : i2 .quo .i64 N K = M := by rw [hk.i2_quo, Int.tdiv_eq_ediv_of_nonneg (by omega), hNK, wrap64 (by omega) (by omega)]
 have hK0 : K ≠ 0 := by omega
 have hgk := hk.gtI_eq ks
 have hsb := hk.sbI_eq l
 clear hN hK hlens hNK
 (conv => cbv)
 repeat' (first | assumption | ((first | rw [e1] | rw [e2] | rw [e3] | refine stp ?_ | refine stpB (fun _ => ?_) (fun _ => ?_)) <;> (conv => cbv)) | exact stpF | fail)
 refine hk.loopI (loop_rule (α := Int) (fun i => [(0, .ls (.il .i64 l) .any), (3, .ptr 0 0), (4, .int .i64 0), (5, .int .i64 M), (6, .int .i64 (B i)), (16, .int .i64 K), (17, .int .i64 i)]) (fun _ => [.box [.int .i64 p, .ls (.il .i64 ks) .any]])
  (fun i => 0 ≤ i ∧ i ≤ K) (fun i => (K - i).toNat) 0 ⟨by omega, by omega⟩ ?_ ?_)
 ·rw [hB0]
  exact ghT
 intro i ⟨hi, hi2⟩ Q' hb hx hr
 have hBi := hBr i hi hi2
 by_cases hin : i < K
 ·obtain ⟨k, v, a, b, x, c1, c3, c4, a0, ab, bN, hx0, v0, v1, htot, hv2⟩ := hst i hi hin
  obtain ⟨B0, hB0'⟩ : ∃ x, x = B i := ⟨_, rfl⟩
  obtain ⟨B1, hB1⟩ : ∃ x, x = B (i + 1) := ⟨_, rfl⟩
  rw [← hB0', ← hB1] at hv2
  rw [← hB0'] at hBi
  rw [← hB0']
  obtain ⟨B5, hB5⟩ : ∃ x, x = B0 + 5 := ⟨_, rfl⟩
  rw [← hB5] at hv2
  obtain ⟨i1', hi1'⟩ : ∃ x, x = i + 1 := ⟨_, rfl⟩
  rw [← hi1'] at c4
  have t1 : i2 .mul .i64 i M = a := by rw [c3]; exact hk.mul64 _ _ (by rw [← c3]; omega) (by rw [← c3]; omega)
  have t2 : i2 .add .i64 i 1 = i1' := by rw [hi1']; exact hk.add64 _ _ (by omega) (by omega)
  have t3 : i2 .mul .i64 i1' M = b := by rw [c4]; exact hk.mul64 _ _ (by rw [← c4]; omega) (by rw [← c4]; omega)
  have t4 : sbI l a b = x := by rw [hsb]; exact hx0
  have t5 : gtI ks i = k := by rw [hgk]; exact c1
  have t6 : i2 .add .i64 B0 5 = B5 := by rw [hB5]; exact hk.add64 _ _ (by omega) (by omega)
  have t7 : i2 .add .i64 B5 v = B1 := by rw [hv2]; exact hk.add64 _ _ (by omega) (by omega)
  clear c3 c4 hx0 c1
  (conv => cbv)
  repeat' (first | assumption | ((first | rw [e1] | rw [e2] | rw [t1] | rw [t2] | rw [t3] | rw [t4] | rw [t5] | rw [t6] | rw [t7] | refine hk.needI (by first | (simp only [rNd, hk.ad_eq, hk.sb_eq]; omega) | (simp [rNd, hk.ad_eq, hk.sb_eq]; omega)) ?_ | refine hk.idxI hi hin ?_ | refine stp ?_ | refine stpB (fun _ => ?_) (fun _ => ?_)) <;> (conv => cbv)) | exact stpF | fail)
  refine hb i1' _ ⟨by omega, by omega⟩ (by omega) ?_
  rw [hi1', ← hB1]
  skip
  refine Gh.tm ?_
  repeat' (first | exact Holds.nil _ _ | refine Holds.cons (Wk.refl _ _) ?_ | refine Holds.cons (Wk.of_eq ?_) ?_)
  all_goals first
   | (rw [← hk.add64 i 1 (by omega) (by omega)]; rfl)
   | rfl
   | skip
 ·have : i = K := by omega
  subst this
  (conv => cbv)
  repeat' (first | assumption | ((first | refine hx _ _ ?_ | refine stp ?_ | refine stpB (fun _ => ?_) (fun _ => ?_)) <;> (conv => cbv)) | exact stpF | fail)
  all_goals exact hk.fin0 rfl rfl (Wk.refl _ _)
theorem rBitsT_spec (vl sh : Int) (ix : List Int) (lg gn pt : Int) (rc da : List Int) (n d : Int) (h : Heap) (hf : formE 2 vl sh ix lg gn pt rc da n d = 0) (hd : d ≤ 26) (hn1 : 1 ≤ n) (hn : n ≤ 1024) :
 Does PP 24 [.agg [I 2, I vl, I sh, LI ix, I lg, I gn, I pt, LI rc, LI da], I d] h (Is (I ((nbits sh ix lg gn pt rc da).length : Nat)) h) := by
 obtain ⟨f1, f2, f3, f4, f5, f6, f7⟩ := form_two hf hd hn
 obtain ⟨_, g1, g2⟩ := form_two2 hf
 rw [← f7] at g1
 have hsl := fun h => rslBits_spec da pt rc h (by omega) f6 g1 g2
 have hpa := fun h => rparts_spec 2 vl sh ix lg gn pt rc da h
 obtain ⟨B, hB⟩ : ∃ B : Int, B = ((bitsOf pt.toNat 2 ++ pcodes da rc (da.length / 2 ^ pt.toNat) rc.length).length : Nat) := ⟨_, rfl⟩
 simp only [← hB] at hsl
 obtain ⟨R, hR⟩ : ∃ B : Int, B = ((nbits sh ix lg gn pt rc da).length : Nat) := ⟨_, rfl⟩
 rw [← hR]
 obtain ⟨N, hN⟩ : ∃ B : Int, B = (ix.length : Nat) := ⟨_, rfl⟩
 have hBr : 0 ≤ B ∧ B ≤ 10000000 := by
  rw [hB, List.length_append, bitsOf_len]
  have g1' := g1
  unfold partsB at g1'
  simp only [Bool.and_eq_true, decide_eq_true_eq] at g1'
  obtain ⟨⟨w1, w2⟩, w3⟩ := g1'
  obtain ⟨_, _, p0, p3, _⟩ := whole_iff.1 w1
  rw [allP_iff] at w3
  have hks : ∀ i, i < rc.length → rc.getD i 0 ≤ 24 := fun i hi => by
   have := w3 i hi
   simp only [kP, Bool.or_eq_false_iff, decide_eq_false_iff_not] at this
   omega
  have hfar : ∀ x ∈ da, -8589934592 ≤ x ∧ x < 8589934592 := fun x hx => by
   rw [List.any_eq_false] at g2
   have := g2 x hx
   rw [farP, Bool.or_eq_true, decide_eq_true_eq, decide_eq_true_eq] at this
   omega
  have hrc8 : rc.length ≤ 8 := by
   have : ∀ k : Nat, k ≤ 3 → (2 : Int) ^ k ≤ 8 := by decide
   have := this pt.toNat (by omega)
   omega
  have h1 := pcodes_len da rc (da.length / 2 ^ pt.toNat) hks hfar rc.length (Nat.le_refl _)
  have hs1024 : da.length / 2 ^ pt.toNat ≤ 1024 := Nat.le_trans (Nat.div_le_self _ _) f6
  have h2 : rc.length * (5 + 59 * (da.length / 2 ^ pt.toNat)) ≤ 8 * (5 + 59 * 1024) := Nat.mul_le_mul (by omega) (by omega)
  omega
 have hRv : (lg = 0 → R = 13 + 7 * N + B) ∧ (¬ lg = 0 → R = 13 + 7 * N + B + 12) := by
  have e : (nbits sh ix lg gn pt rc da).length = 12 + 7 * ix.length + (lagbits lg gn).length + (bitsOf pt.toNat 2 ++ pcodes da rc (da.length / 2 ^ pt.toNat) rc.length).length := by
   rw [nbits, nhead]
   simp only [List.length_append, bitsOf_len, sbs_len, show Int.toNat 7 = 7 from rfl]
   omega
  refine ⟨fun h0 => ?_, fun h0 => ?_⟩
  ·rw [lagbits, if_pos h0, bitsOf_len] at e; omega
  ·rw [lagbits, if_neg h0, List.length_append, List.length_append, bitsOf_len, bitsOf_len, bitsOf_len] at e; omega
 have hN16 : 0 ≤ N ∧ N ≤ 16 := by have := f3.1; omega
 clear hB hR f3 f4 f5 g1 g2 hf
 refine pure0 ?_ rfl rfl h
 refine wlk Tryz.f24 ?_
 unhygienic intros
 have hln : lnI ix = N := by rw [hk.lnI_eq]; omega
 obtain ⟨a, ha⟩ : ∃ a, a = 7 * N := ⟨_, rfl⟩
 obtain ⟨b, hb⟩ : ∃ a', a' = 13 + a := ⟨_, rfl⟩
 obtain ⟨c, hc⟩ : ∃ a', a' = b + B := ⟨_, rfl⟩
 obtain ⟨e, he⟩ : ∃ a', a' = c + 12 := ⟨_, rfl⟩
 have t1 : i2 .mul .i64 7 N = a := by rw [ha]; exact hk.mul64 _ _ (by omega) (by omega)
 have t2 : i2 .add .i64 13 a = b := by rw [hb]; exact hk.add64 _ _ (by omega) (by omega)
 have t3 : i2 .add .i64 b B = c := by rw [hc]; exact hk.add64 _ _ (by omega) (by omega)
 have t4 : i2 .add .i64 c 12 = e := by rw [he]; exact hk.add64 _ _ (by omega) (by omega)
 by_cases h0 : lg = 0
 ·have hRv := hRv.1 h0
  have : R = c := by omega
  subst this
  subst h0
  (conv => cbv)
  repeat' (first | assumption | ((first | rw [hln] | rw [t1] | rw [t2] | rw [t3] | rw [t4] | refine stp ?_ | refine stpB (fun _ => ?_) (fun _ => ?_)) <;> (conv => cbv)) | exact stpF | fail)
  all_goals exact hk.fin0 rfl rfl (Wk.refl _ _)
 ·have hRv := hRv.2 h0
  have : R = e := by omega
  subst this
  (conv => cbv)
  repeat' (first | assumption | ((first | rw [hln] | rw [t1] | rw [t2] | rw [t3] | rw [t4] | refine stp ?_ | refine stpB (fun _ => ?_) (fun _ => ?_)) <;> (conv => cbv)) | exact stpF | fail)
  all_goals exact hk.fin0 rfl rfl (Wk.refl _ _)
theorem plain_da {kd vl sh : Int} {ix : List Int} {lg gn pt : Int} {rc da : List Int} {n d : Int} (hf : formE kd vl sh ix lg gn pt rc da n d = 0) (k2 : kd ≠ 2) (n2 : n ≤ 1024) : da.length ≤ 1024 := by
 obtain ⟨hkd, hdn⟩ := form_plain hf k2
 rcases hkd with h | h | h
 ·subst h
  unfold formE at hf
  rw [if_pos rfl] at hf
  split at hf
  ·rename_i hh; omega
  ·exact absurd hf (by decide)
 ·subst h
  unfold formE at hf
  rw [if_neg (by decide), if_pos rfl] at hf
  split at hf
  ·rename_i hh; omega
  ·exact absurd hf (by decide)
 ·have := hdn h; omega
theorem plain_vd {kd vl : Int} {sh : Int} {ix : List Int} {lg gn : Int} {da : List Int} {n d : Int} (n1 : 1 ≤ n) (k2 : kd ≠ 2) (hlk : (outL kd vl sh ix lg gn da n d).any (lacksP d) = false) :
 (kd = 1 → -2 ^ (d - 1).toNat ≤ vl ∧ vl < 2 ^ (d - 1).toNat) ∧ (kd = 3 → ∀ i, i < da.length → -2 ^ (d - 1).toNat ≤ da.getD i 0 ∧ da.getD i 0 < 2 ^ (d - 1).toNat) := by
 rw [List.any_eq_false] at hlk
 refine ⟨fun h1 => ?_, fun h3 i hi => ?_⟩
 ·subst h1
  exact lacks_no (d := d) (n := vl) (by
   have := hlk vl (by
    show vl ∈ List.replicate n.toNat vl
    exact List.mem_replicate.2 ⟨by omega, rfl⟩)
   simpa using this)
 ·subst h3
  exact lacks_no (by
   have := hlk (da.getD i 0) (mem_getD.2 ⟨i, hi, rfl⟩)
   simpa using this)
theorem pbits_len (kd vl : Int) (da : List Int) (d : Int) : (pbits kd vl da d).length = 2 + (if kd = 1 then d.toNat else if kd = 3 then d.toNat * da.length else 0) := by
 rw [pbits, List.length_append, bitsOf_len]
 split
 ·rw [sb_len]
 ·split
  ·rw [sbs_len]
  ·rfl
theorem rbits_any (x : BlkIn) (n d : Int) (hx : x.e n d = 0) (h : Heap) : Does PP 24 [x.v, I d] h (Is (I ((blkBits x d).length : Nat)) h) := by
 obtain ⟨kd, vl, sh, ix, lg, gn, pt, rc, da⟩ := x
 have hx1 : bsE kd vl sh ix lg gn pt rc da n d = 0 := hx
 obtain ⟨⟨n1, n2, d1, d2⟩, hf, hlk⟩ := bsE_ok hx1
 by_cases k2 : kd = 2
 ·subst k2
  exact rBitsT_spec vl sh ix lg gn pt rc da n d h hf d2 n1 n2
 ·have e : blkBits ⟨kd, vl, sh, ix, lg, gn, pt, rc, da⟩ d = pbits kd vl da d := if_neg k2
  have hkd := (form_plain hf k2).1
  have := rBits_spec kd vl sh ix lg gn pt rc da d h (by omega) d2 (plain_da hf k2 n2) hkd
  have el : (((pbits kd vl da d).length : Nat) : Int) = if kd = 1 then 2 + d else if kd = 3 then 2 + d * (da.length : Nat) else 2 := by
   rw [pbits_len]
   rcases hkd with h | h | h
   ·subst h; rfl
   ·subst h; simp only [if_true]; omega
   ·subst h
    simp only [if_true, show ¬ ((3 : Int) = 1) by decide, if_false]
    rw [Int.natCast_add, Int.natCast_mul]
    rw [show ((d.toNat : Nat) : Int) = d by omega]
    rfl
  rw [e, el]
  exact this
theorem bput_any (x : BlkIn) (n d : Int) (hn : n ≤ 64) (hx : x.e n d = 0) (h1 : x.ix.length ≤ 9223372036854775807) (h2 : x.rc.length ≤ 9223372036854775807) (h3 : x.da.length ≤ 9223372036854775807) :
 Does PP 38 [.ptr 0 0, x.v, I n, I d] (wr []) (Is (.bool true) (wr (blkBits x d))) := by
 obtain ⟨kd, vl, sh, ix, lg, gn, pt, rc, da⟩ := x
 have hx1 : bsE kd vl sh ix lg gn pt rc da n d = 0 := hx
 obtain ⟨⟨n1, n2, d1, d2⟩, hf, hlk⟩ := bsE_ok hx1
 by_cases k2 : kd = 2
 ·subst k2
  have hnm : nmE ix lg gn da d = 0 := by
   unfold bsE at hx1
   rw [if_neg (fun h => h ⟨n1, n2, d1, d2⟩), if_neg (fun h => h hf)] at hx1
   split at hx1
   ·exact absurd hx1 (by decide)
   ·rename_i hh
    exact Decidable.byContradiction fun h => hh ⟨rfl, h⟩
  obtain ⟨hE, hE2⟩ : onE lg gn da = 0 ∧ smE ix (pw d - 1) (onL lg gn da) = 0 := by
   unfold nmE at hnm
   by_cases h1 : onE lg gn da = 0
   ·by_cases h2 : smE ix (pw d - 1) (onL lg gn da) = 0
    ·exact ⟨h1, h2⟩
    ·simp [h1, h2] at hnm
   ·simp [h1] at hnm
  have := bPutT_spec vl sh ix lg gn pt rc da n d [] (by decide) n1 n2 d1 d2 h1 h2 h3 hf hE hE2 hlk
  exact this
 ·have e : blkBits ⟨kd, vl, sh, ix, lg, gn, pt, rc, da⟩ d = pbits kd vl da d := if_neg k2
  rw [e]
  obtain ⟨hv, hd⟩ := plain_vd n1 k2 hlk
  have ho : outL kd vl sh ix lg gn da n d = pout kd vl da n := by rw [outL, if_neg k2]; rfl
  rw [ho] at hlk
  exact bPut_spec kd vl sh ix lg gn pt rc da n d [] _ (fun h => bsamples_err kd vl sh ix lg gn pt rc da n d h n1 hn d1 d2 h1 h2 h3 hf k2 hlk) (bput_spec kd vl sh ix lg gn pt rc da d [] (by decide) (form_plain hf k2).1 d1 d2 hv hd (plain_da hf k2 n2))
theorem blk_len (x : BlkIn) (n d : Int) (hx : x.e n d = 0) : 2 ≤ (blkBits x d).length ∧ (blkBits x d).length < 1000000 := by
 obtain ⟨kd, vl, sh, ix, lg, gn, pt, rc, da⟩ := x
 have hx1 : bsE kd vl sh ix lg gn pt rc da n d = 0 := hx
 obtain ⟨⟨n1, n2, d1, d2⟩, hf, hlk⟩ := bsE_ok hx1
 by_cases k2 : kd = 2
 ·subst k2
  have e : blkBits ⟨2, vl, sh, ix, lg, gn, pt, rc, da⟩ d = nbits sh ix lg gn pt rc da := rfl
  rw [e]
  obtain ⟨f1, f2, f3, f4, f5, f6, f7⟩ := form_two hf d2 n2
  obtain ⟨_, g1, g2⟩ := form_two2 hf
  rw [← f7] at g1
  have ee : (nbits sh ix lg gn pt rc da).length = 12 + 7 * ix.length + (lagbits lg gn).length + (bitsOf pt.toNat 2 ++ pcodes da rc (da.length / 2 ^ pt.toNat) rc.length).length := by
   rw [nbits, nhead]
   simp only [List.length_append, bitsOf_len, sbs_len, show Int.toNat 7 = 7 from rfl]
   omega
  have hlb : (lagbits lg gn).length ≤ 13 := by unfold lagbits; split <;> simp [bitsOf_len]
  rw [List.length_append, bitsOf_len] at ee
  have g1' := g1
  unfold partsB at g1'
  simp only [Bool.and_eq_true, decide_eq_true_eq] at g1'
  obtain ⟨⟨w1, w2⟩, w3⟩ := g1'
  obtain ⟨_, _, p0, p3, _⟩ := whole_iff.1 w1
  rw [allP_iff] at w3
  have hks : ∀ i, i < rc.length → rc.getD i 0 ≤ 24 := fun i hi => by
   have := w3 i hi
   simp only [kP, Bool.or_eq_false_iff, decide_eq_false_iff_not] at this
   omega
  have hfar : ∀ x ∈ da, -8589934592 ≤ x ∧ x < 8589934592 := fun x hx => by
   rw [List.any_eq_false] at g2
   have := g2 x hx
   rw [farP, Bool.or_eq_true, decide_eq_true_eq, decide_eq_true_eq] at this
   omega
  have hrc8 : rc.length ≤ 8 := by
   have : ∀ k : Nat, k ≤ 3 → (2 : Int) ^ k ≤ 8 := by decide
   have := this pt.toNat (by omega)
   omega
  have h1 := pcodes_len da rc (da.length / 2 ^ pt.toNat) hks hfar rc.length (Nat.le_refl _)
  have hs1024 : da.length / 2 ^ pt.toNat ≤ 1024 := Nat.le_trans (Nat.div_le_self _ _) f6
  have h2 : rc.length * (5 + 59 * (da.length / 2 ^ pt.toNat)) ≤ 8 * (5 + 59 * 1024) := Nat.mul_le_mul (by omega) (by omega)
  have := f3.1
  omega
 ·have e : blkBits ⟨kd, vl, sh, ix, lg, gn, pt, rc, da⟩ d = pbits kd vl da d := if_neg k2
  rw [e, pbits_len]
  have hda := plain_da hf k2 n2
  split
  ·omega
  ·split
   ·have : d.toNat * da.length ≤ 26 * 1024 := Nat.mul_le_mul (by omega) hda
    omega
   ·omega
end Go.Proofs.YtoeekjddeknmbaaGreat
