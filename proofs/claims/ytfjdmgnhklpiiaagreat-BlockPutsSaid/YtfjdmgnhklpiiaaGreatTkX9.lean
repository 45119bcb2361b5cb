/-
  Contracts of functions of the program, proved over the abstract machine of the Al texts.
-/
import Derived.Test.YtfjdmgnhklpiiaaGreatTryTab
import Derived.Test.YtfjdmgnhklpiiaaGreatAl4
import Derived.Test.YtfjdmgnhklpiiaaGreatBaseX
import Derived.Test.YtfjdmgnhklpiiaaGreatRkX
import Derived.Test.YtfjdmgnhklpiiaaGreatPpX
import Derived.Test.YtfjdmgnhklpiiaaGreatSlX
import Derived.Test.YtfjdmgnhklpiiaaGreatBsX1
import Derived.Test.YtfjdmgnhklpiiaaGreatBsX3
import Derived.Test.YtfjdmgnhklpiiaaGreatTkX3
import Derived.Test.YtfjdmgnhklpiiaaGreatTkX7
import Derived.Test.YtfjdmgnhklpiiaaGreatPpZ
import Derived.Test.YtfjdmgnhklpiiaaGreatBsX2
import Derived.Test.YtfjdmgnhklpiiaaGreatBsX4
import Derived.Test.YtfjdmgnhklpiiaaGreatBsX5
import Derived.Test.YtfjdmgnhklpiiaaGreatBsX6
import Derived.Test.YtfjdmgnhklpiiaaGreatBsX8
import Derived.Test.YtfjdmgnhklpiiaaGreatPlX
import Derived.Test.YtfjdmgnhklpiiaaGreatSlW
import Derived.Test.YtfjdmgnhklpiiaaGreatTkX1
import Derived.Test.YtfjdmgnhklpiiaaGreatTkX6
import Derived.Test.YtfjdmgnhklpiiaaGreatPpY
import Derived.Test.YtfjdmgnhklpiiaaGreatBsX7
import Derived.Test.YtfjdmgnhklpiiaaGreatTkX8
set_option maxHeartbeats 4000000
set_option maxRecDepth 20000
set_option linter.unusedSimpArgs false
set_option linter.unusedVariables false
open Go Go.AL
namespace Go.Proofs.YtfjdmgnhklpiiaaGreat
theorem rLength_spec (n k : Int) (h : Heap) (h0 : -8589934592 ≤ n) (h1 : n < 8589934592) (k0 : 0 ≤ k) (k1 : k ≤ 24) : Does PP 132 [I n, I k] h (Is (I ((rcode n k).length : Nat)) h) := by
  obtain ⟨z0, z1⟩ := foldZ_range h0 h1
  have hfo := fun h => rFold_spec n h h0 h1
  have hpw := fun h => power_spec k h (by omega)
  have hp0 : (0 : Int) < 2 ^ k.toNat := Int.pow_pos (by decide)
  have hq0 : 0 ≤ foldZ n / 2 ^ k.toNat := Int.ediv_nonneg z0 (by omega)
  have hqz : foldZ n / 2 ^ k.toNat ≤ foldZ n := Int.ediv_le_self _ z0
  obtain ⟨r, hr⟩ : ∃ r : Int, r = ((rcode n k).length : Nat) := ⟨_, rfl⟩
  rw [← hr]
  have hr1 : foldZ n / 2 ^ k.toNat < 24 → r = foldZ n / 2 ^ k.toNat + 1 + k := fun h => by
    rw [hr, rcode, if_pos h, List.length_append, zb_len, bitsOf_len]; omega
  have hr2 : ¬ foldZ n / 2 ^ k.toNat < 24 → r = 59 := fun h => by
    rw [hr, rcode, if_neg h, List.length_append, zb_len, bitsOf_len]; rfl
  clear hr
  obtain ⟨P, hP⟩ : ∃ P : Int, P = 2 ^ k.toNat := ⟨_, rfl⟩
  obtain ⟨z, hz0⟩ : ∃ P : Int, P = foldZ n := ⟨_, rfl⟩
  simp only [← hP, ← hz0] at *
  obtain ⟨Q, hQ⟩ : ∃ P' : Int, P' = z / P := ⟨_, rfl⟩
  simp only [← hQ] at hq0 hqz hr1 hr2
  clear hP hz0
  refine pure0 ?_ rfl rfl h
  refine wlk Tryz.f132 ?_
  unhygienic intros
  have hP0 : P ≠ 0 := by omega
  have t1 : i2 .quo .i64 z P = Q := by rw [hk.i2_quo, Int.tdiv_eq_ediv_of_nonneg z0, ← hQ, wrap64 (by omega) (by omega)]
  have t2 : i2 .add .i64 Q 1 = Q + 1 := hk.add64 _ _ (by omega) (by omega)
  have t3 : Q < 24 → i2 .add .i64 (Q + 1) k = Q + 1 + k := fun h => hk.add64 _ _ (by omega) (by omega)
  obtain ⟨Q1, hQ1⟩ : ∃ x, x = Q + 1 := ⟨_, rfl⟩
  rw [← hQ1] at t2 t3 hr1
  obtain ⟨R1, hR1⟩ : ∃ x, x = Q1 + k := ⟨_, rfl⟩
  rw [← hR1] at t3 hr1
  clear hQ
  by_cases hq : Q < 24
  · have hr1 := hr1 hq
    have t3 := t3 hq
    subst hr1
    (conv => cbv)
    repeat' (first | assumption | ((first | refine hk.callA (hfo _) ?_ | refine hk.calldA hfo ?_ | refine hk.callA (hpw _) ?_ | refine hk.calldA hpw ?_ | rw [t1] | rw [t2] | rw [t3] | refine stp ?_ | refine stpB (fun _ => ?_) (fun _ => ?_)) <;> (conv => cbv)) | exact stpF | fail)
    all_goals exact hk.fin0 rfl rfl (Wk.refl _ _)
  · have hr2 := hr2 hq
    subst hr2
    (conv => cbv)
    repeat' (first | assumption | ((first | refine hk.callA (hfo _) ?_ | refine hk.calldA hfo ?_ | refine hk.callA (hpw _) ?_ | refine hk.calldA hpw ?_ | rw [t1] | refine stp ?_ | refine stpB (fun _ => ?_) (fun _ => ?_)) <;> (conv => cbv)) | exact stpF | fail)
    all_goals exact hk.fin0 rfl rfl (Wk.refl _ _)
theorem rTotal_spec (l : List Int) (k : Int) (h : Heap) (hl : l.length ≤ 1024) (hv : ∀ i, i < l.length → -8589934592 ≤ l.getD i 0 ∧ l.getD i 0 < 8589934592) (k0 : 0 ≤ k) (k1 : k ≤ 24) : Does PP 110 [LI l, I k] h (Is (I ((rcodes k l).length : Nat)) h) := by
  obtain ⟨T, hT⟩ : ∃ T : Int → Int, ∀ i, T i = ((rcodes k (l.take i.toNat)).length : Nat) := ⟨_, fun _ => rfl⟩
  obtain ⟨N, hN⟩ : ∃ N : Int, N = (l.length : Nat) := ⟨_, rfl⟩
  have hTN : (((rcodes k l).length : Nat) : Int) = T N := by rw [hT, hN, Int.toNat_natCast, List.take_length]
  have hT0 : T 0 = 0 := by rw [hT]; simp [rcodes]
  have hTr : ∀ i : Int, 0 ≤ i → i ≤ N → 0 ≤ T i ∧ T i ≤ 100000 := fun i a b => by
    have := rcodes_len k l k1 hv i.toNat (by omega)
    rw [hT]; omega
  have hst : ∀ i : Int, 0 ≤ i → i < N → ∃ v : Int, 0 ≤ v ∧ v ≤ 59 ∧ (∀ h, Does PP 132 [I (l.getD i.toNat 0), I k] h (Is (I v) h)) ∧ T (i + 1) = T i + v := fun i a b => by
    obtain ⟨c, d⟩ := hv i.toNat (by omega)
    refine ⟨((rcode (l.getD i.toNat 0) k).length : Nat), by omega, by have := rcode_len (l.getD i.toNat 0) k c d k1; omega, fun h => rLength_spec _ k h c d k0 k1, ?_⟩
    rw [hT, hT, show (i + 1).toNat = i.toNat + 1 by omega, rcodes_step k l _ (by omega), List.length_append]
    omega
  rw [hTN]
  clear hT hTN hv
  refine pure0 ?_ rfl rfl h
  refine wlk Tryz.f110 ?_
  unhygienic intros
  have hln : lnI l = N := by rw [hk.lnI_eq]; omega
  have hgt := hk.gtI_eq l
  (conv => cbv)
  repeat' (first | assumption | ((first | rw [hln] | refine stp ?_ | refine stpB (fun _ => ?_) (fun _ => ?_)) <;> (conv => cbv)) | exact stpF | fail)
  refine hk.loopI (loop_rule (α := Int) (fun i => [(0, .ls (.il .i64 l) .any), (1, .int .i64 k), (4, .int .i64 0), (5, .int .i64 (T i)), (8, .int .i64 N), (9, .int .i64 i)]) (fun _ => [])
    (fun i => 0 ≤ i ∧ i ≤ N) (fun i => (N - i).toNat) 0 ⟨by omega, by omega⟩ ?_ ?_)
  · rw [hT0]
    exact Gh.tm (by repeat (first | exact Holds.nil _ _ | refine Holds.cons (Wk.refl _ _) ?_))
  intro i ⟨hi, hi2⟩ Q' hb hx hr
  have hTi := hTr i hi hi2
  by_cases hin : i < N
  · obtain ⟨v, v0, v1, hlen, hv2⟩ := hst i hi hin
    obtain ⟨x, hx0⟩ : ∃ x, x = gtI l i := ⟨_, rfl⟩
    rw [← hgt, ← hx0] at hlen
    obtain ⟨T0, hT0⟩ : ∃ x, x = T i := ⟨_, rfl⟩
    obtain ⟨T1, hT1⟩ : ∃ x, x = T (i + 1) := ⟨_, rfl⟩
    rw [← hT0, ← hT1] at hv2
    rw [← hT0] at hTi
    rw [← hT0]
    have t1 : i2 .add .i64 T0 v = T1 := by rw [hv2]; exact hk.add64 _ _ (by omega) (by omega)
    (conv => cbv)
    repeat' (first | assumption | ((first | rw [hln] | refine hk.idxI hi hin ?_ | refine hk.idxI hi (by rw [hln]; exact hin) ?_ | rw [← hx0] | refine hk.callA (hlen _) ?_ | refine hk.calldA hlen ?_ | rw [t1] | refine stp ?_ | refine stpB (fun _ => ?_) (fun _ => ?_)) <;> (conv => cbv)) | exact stpF | fail)
    refine hb (i + 1) _ ⟨by omega, by omega⟩ (by omega) ?_
    rw [← hT1]
    refine Gh.tm ?_
    repeat' (first | exact Holds.nil _ _ | refine Holds.cons (Wk.refl _ _) ?_ | refine Holds.cons (Wk.of_eq ?_) ?_)
    all_goals first
      | (rw [← hk.add64 i 1 (by omega) (by omega)]; rfl)
      | rfl
      | skip
  · have : i = N := by omega
    subst this
    (conv => cbv)
    repeat' (first | assumption | ((first | refine hx _ _ ?_ | refine stp ?_ | refine stpB (fun _ => ?_) (fun _ => ?_)) <;> (conv => cbv)) | exact stpF | fail)
    all_goals exact hk.fin0 rfl rfl (Wk.refl _ _)
theorem rslBits_spec (l : List Int) (p : Int) (ks : List Int) (h : Heap) (hl1 : 1 ≤ l.length) (hl : l.length ≤ 1024) (hp : partsB (l.length : Nat) p ks = true) (hf : l.any farP = false) :
    Does PP 73 [LI l, .agg [I p, LI ks]] h (Is (I ((bitsOf p.toNat 2 ++ pcodes l ks (l.length / 2 ^ p.toNat) ks.length).length : Nat)) h) := by
  have hg1 := hp
  unfold partsB at hg1
  simp only [Bool.and_eq_true, decide_eq_true_eq] at hg1
  obtain ⟨⟨w1, w2⟩, w3⟩ := hg1
  obtain ⟨_, _, p0, p3, pm⟩ := whole_iff.1 w1
  rw [allP_iff] at w3
  have hp8 : ∀ k : Nat, k ≤ 3 → (1 : Int) ≤ 2 ^ k ∧ (2 : Int) ^ k ≤ 8 := by decide
  obtain ⟨q1, q8⟩ := hp8 p.toNat (by omega)
  obtain ⟨P, hP⟩ : ∃ P : Nat, P = 2 ^ p.toNat := ⟨_, rfl⟩
  have hPi : (2 : Int) ^ p.toNat = (P : Int) := by rw [hP]; simp
  rw [hPi] at w2 q1 q8 pm
  have hkl : ks.length = P := by omega
  have hdvd : l.length / P * P = l.length := by
    rw [Int.tmod_eq_emod_of_nonneg (by omega), ← Int.natCast_emod] at pm
    exact Nat.div_mul_cancel (Nat.dvd_of_mod_eq_zero (by omega))
  rw [← hP]
  obtain ⟨m, hm⟩ : ∃ m, m = l.length / P := ⟨_, rfl⟩
  rw [← hm] at hdvd
  rw [← hm]
  have hm1024 : m ≤ 1024 := by rw [hm]; exact Nat.le_trans (Nat.div_le_self _ _) hl
  have hks : ∀ i, i < ks.length → 0 ≤ ks.getD i 0 ∧ ks.getD i 0 ≤ 24 := fun i hi => by
    have := w3 i hi
    simp only [kP, Bool.or_eq_false_iff, decide_eq_false_iff_not] at this
    omega
  have hfar : ∀ x ∈ l, -8589934592 ≤ x ∧ x < 8589934592 := fun x hx => by
    rw [List.any_eq_false] at hf
    have := hf x hx
    rw [farP, Bool.or_eq_true, decide_eq_true_eq, decide_eq_true_eq] at this
    omega
  obtain ⟨B, hB⟩ : ∃ B : Int → Int, ∀ i, B i = 2 + ((pcodes l ks m i.toNat).length : Nat) := ⟨_, fun _ => rfl⟩
  obtain ⟨K, hK⟩ : ∃ N : Int, N = (ks.length : Nat) := ⟨_, rfl⟩
  obtain ⟨N, hN⟩ : ∃ N : Int, N = (l.length : Nat) := ⟨_, rfl⟩
  obtain ⟨M, hM⟩ : ∃ N : Int, N = (m : Nat) := ⟨_, rfl⟩
  have hBK : (((bitsOf p.toNat 2 ++ pcodes l ks m ks.length).length : Nat) : Int) = B K := by
    rw [hB, hK, Int.toNat_natCast, List.length_append, bitsOf_len]; omega
  have hB0 : B 0 = 2 := by rw [hB]; simp [pcodes]
  have hpl : ∀ i, (partL l m i).length ≤ 1024 := fun i => by rw [partL, List.length_take]; omega
  have hpv : ∀ i j, j < (partL l m i).length → -8589934592 ≤ (partL l m i).getD j 0 ∧ (partL l m i).getD j 0 < 8589934592 := fun i j hj => hfar _ (by
    have : (partL l m i).getD j 0 ∈ partL l m i := mem_getD.2 ⟨j, hj, rfl⟩
    generalize (partL l m i).getD j 0 = y at *
    rw [partL] at this
    exact List.mem_of_mem_drop (List.mem_of_mem_take this))
  have hBr : ∀ i : Int, 0 ≤ i → i ≤ K → 0 ≤ B i ∧ B i ≤ 1000000 := fun i a b => by
    have h1 := pcodes_len l ks m (fun i hi => (hks i hi).2) hfar i.toNat (by omega)
    have h2 : i.toNat * (5 + 59 * m) ≤ 8 * (5 + 59 * 1024) := Nat.mul_le_mul (by omega) (by omega)
    rw [hB]; omega
  have hst : ∀ i : Int, 0 ≤ i → i < K → ∃ (k v a b : Int) (x : List Int), ks.getD i.toNat 0 = k ∧ a = i * M ∧ b = (i + 1) * M ∧ 0 ≤ a ∧ a ≤ b ∧ b ≤ N ∧ (l.drop a.toNat).take (b - a).toNat = x ∧ 0 ≤ v ∧ v ≤ 100000 ∧ (∀ h, Does PP 110 [LI x, I k] h (Is (I v) h)) ∧ B (i + 1) = B i + 5 + v := fun i a b => by
    obtain ⟨k0, k1⟩ := hks i.toNat (by omega)
    have hin : ((i.toNat : Nat) : Int) = i := by omega
    have e1 : i * M = ((i.toNat * m : Nat) : Int) := by rw [hM, Int.natCast_mul, hin]
    have e2 : (i + 1) * M = (((i.toNat + 1) * m : Nat) : Int) := by rw [hM, Int.natCast_mul, Int.natCast_add, hin]; rfl
    have hb : (i.toNat + 1) * m ≤ l.length := by
      rw [← hdvd, Nat.mul_comm m P]
      exact Nat.mul_le_mul_right _ (by omega)
    have hsm : (i.toNat + 1) * m = i.toNat * m + m := Nat.succ_mul _ _
    have hx : (l.drop ((i * M).toNat)).take ((i + 1) * M - i * M).toNat = partL l m i.toNat := by
      rw [e1, e2, partL, Int.toNat_natCast, show ((((i.toNat + 1) * m : Nat) : Int) - ((i.toNat * m : Nat) : Int)).toNat = m by omega]
    have hrl := rcodes_len (ks.getD i.toNat 0) (partL l m i.toNat) k1 (hpv i.toNat) (partL l m i.toNat).length (Nat.le_refl _)
    rw [List.take_length] at hrl
    have := hpl i.toNat
    refine ⟨_, ((rcodes (ks.getD i.toNat 0) (partL l m i.toNat)).length : Nat), i * M, (i + 1) * M, partL l m i.toNat, rfl, rfl, rfl, by rw [e1]; omega, by rw [e1, e2]; omega, by rw [e2, hN]; omega, hx, by omega, by omega, fun h => rTotal_spec _ _ h (hpl _) (hpv _) k0 k1, ?_⟩
    rw [hB, hB, show (i + 1).toNat = i.toNat + 1 by omega, pcodes, List.length_append, pcode, List.length_append, bitsOf_len]
    omega
  have hN1 : 1 ≤ N ∧ N ≤ 1024 := by omega
  have hK1 : 1 ≤ K ∧ K ≤ 8 := by omega
  have hM1 : 0 ≤ M ∧ M ≤ 1024 := by omega
  have hNK : N / K = M := by rw [hN, hK, hM, hm, hkl, ← Int.natCast_ediv]
  have hlens : ((l.length : Nat) : Int) = N ∧ ((ks.length : Nat) : Int) = K := ⟨hN.symm, hK.symm⟩
  rw [hBK]
  clear hB hBK hpl hpv hks hfar hM hm hkl hdvd hP hPi w1 w2 w3 pm hp hf q1 q8 hm1024
  refine pure0 ?_ rfl rfl h
  refine wlk Tryz.f73 ?_
  unhygienic intros
  have e1 : lnI l = N := by rw [hk.lnI_eq]; exact hlens.1
  have e2 : lnI ks = K := by rw [hk.lnI_eq]; exact hlens.2
  have e3 : i2 .quo .i64 N K = M := by rw [hk.i2_quo, Int.tdiv_eq_ediv_of_nonneg (by omega), hNK, wrap64 (by omega) (by omega)]
  have hK0 : K ≠ 0 := by omega
  have hgk := hk.gtI_eq ks
  have hsb := hk.sbI_eq l
  clear hN hK hlens hNK
  (conv => cbv)
  repeat' (first | assumption | ((first | rw [e1] | rw [e2] | rw [e3] | refine stp ?_ | refine stpB (fun _ => ?_) (fun _ => ?_)) <;> (conv => cbv)) | exact stpF | fail)
  refine hk.loopI (loop_rule (α := Int) (fun i => [(0, .ls (.il .i64 l) .any), (3, .ptr 0 0), (4, .int .i64 0), (5, .int .i64 M), (6, .int .i64 (B i)), (16, .int .i64 K), (17, .int .i64 i)]) (fun _ => [.box [.int .i64 p, .ls (.il .i64 ks) .any]])
    (fun i => 0 ≤ i ∧ i ≤ K) (fun i => (K - i).toNat) 0 ⟨by omega, by omega⟩ ?_ ?_)
  · rw [hB0]
    exact Gh.tm (by repeat (first | exact Holds.nil _ _ | refine Holds.cons (Wk.refl _ _) ?_))
  intro i ⟨hi, hi2⟩ Q' hb hx hr
  have hBi := hBr i hi hi2
  by_cases hin : i < K
  · obtain ⟨k, v, a, b, x, c1, c3, c4, a0, ab, bN, hx0, v0, v1, htot, hv2⟩ := hst i hi hin
    obtain ⟨B0, hB0'⟩ : ∃ x, x = B i := ⟨_, rfl⟩
    obtain ⟨B1, hB1⟩ : ∃ x, x = B (i + 1) := ⟨_, rfl⟩
    rw [← hB0', ← hB1] at hv2
    rw [← hB0'] at hBi
    rw [← hB0']
    obtain ⟨B5, hB5⟩ : ∃ x, x = B0 + 5 := ⟨_, rfl⟩
    rw [← hB5] at hv2
    obtain ⟨i1', hi1'⟩ : ∃ x, x = i + 1 := ⟨_, rfl⟩
    rw [← hi1'] at c4
    have t1 : i2 .mul .i64 i M = a := by rw [c3]; exact hk.mul64 _ _ (by rw [← c3]; omega) (by rw [← c3]; omega)
    have t2 : i2 .add .i64 i 1 = i1' := by rw [hi1']; exact hk.add64 _ _ (by omega) (by omega)
    have t3 : i2 .mul .i64 i1' M = b := by rw [c4]; exact hk.mul64 _ _ (by rw [← c4]; omega) (by rw [← c4]; omega)
    have t4 : sbI l a b = x := by rw [hsb]; exact hx0
    have t5 : gtI ks i = k := by rw [hgk]; exact c1
    have t6 : i2 .add .i64 B0 5 = B5 := by rw [hB5]; exact hk.add64 _ _ (by omega) (by omega)
    have t7 : i2 .add .i64 B5 v = B1 := by rw [hv2]; exact hk.add64 _ _ (by omega) (by omega)
    clear c3 c4 hx0 c1
    (conv => cbv)
    repeat' (first | assumption | ((first | rw [e1] | rw [e2] | rw [t1] | rw [t2] | rw [t3] | rw [t4] | rw [t5] | rw [t6] | rw [t7] | refine hk.needI (by first | (simp only [rNd, hk.ad_eq, hk.sb_eq]; omega) | (simp [rNd, hk.ad_eq, hk.sb_eq]; omega)) ?_ | refine hk.idxI hi hin ?_ | refine hk.callA (htot _) ?_ | refine hk.calldA htot ?_ | refine stp ?_ | refine stpB (fun _ => ?_) (fun _ => ?_)) <;> (conv => cbv)) | exact stpF | fail)
    refine hb i1' _ ⟨by omega, by omega⟩ (by omega) ?_
    rw [hi1', ← hB1]
    skip
    refine Gh.tm ?_
    repeat' (first | exact Holds.nil _ _ | refine Holds.cons (Wk.refl _ _) ?_ | refine Holds.cons (Wk.of_eq ?_) ?_)
    all_goals first
      | (rw [← hk.add64 i 1 (by omega) (by omega)]; rfl)
      | rfl
      | skip
  · have : i = K := by omega
    subst this
    (conv => cbv)
    repeat' (first | assumption | ((first | refine hx _ _ ?_ | refine stp ?_ | refine stpB (fun _ => ?_) (fun _ => ?_)) <;> (conv => cbv)) | exact stpF | fail)
    all_goals exact hk.fin0 rfl rfl (Wk.refl _ _)
end Go.Proofs.YtfjdmgnhklpiiaaGreat
set_option maxHeartbeats 4000000
set_option maxRecDepth 20000
set_option linter.unusedSimpArgs false
set_option linter.unusedVariables false
open Go Go.AL
namespace Go.Proofs.YtfjdmgnhklpiiaaGreat
theorem rBitsT_spec (vl sh : Int) (ix : List Int) (lg gn pt : Int) (rc da : List Int) (n d : Int) (h : Heap) (hf : formE 2 vl sh ix lg gn pt rc da n d = 0) (hd : d ≤ 26) (hn1 : 1 ≤ n) (hn : n ≤ 1024) :
    Does PP 25 [.agg [I 2, I vl, I sh, LI ix, I lg, I gn, I pt, LI rc, LI da], I d] h (Is (I ((nbits sh ix lg gn pt rc da).length : Nat)) h) := by
  obtain ⟨f1, f2, f3, f4, f5, f6, f7⟩ := form_two hf hd hn
  obtain ⟨_, g1, g2⟩ := form_two2 hf
  rw [← f7] at g1
  have hsl := fun h => rslBits_spec da pt rc h (by omega) f6 g1 g2
  have hpa := fun h => rparts_spec 2 vl sh ix lg gn pt rc da h
  obtain ⟨B, hB⟩ : ∃ B : Int, B = ((bitsOf pt.toNat 2 ++ pcodes da rc (da.length / 2 ^ pt.toNat) rc.length).length : Nat) := ⟨_, rfl⟩
  simp only [← hB] at hsl
  obtain ⟨R, hR⟩ : ∃ B : Int, B = ((nbits sh ix lg gn pt rc da).length : Nat) := ⟨_, rfl⟩
  rw [← hR]
  obtain ⟨N, hN⟩ : ∃ B : Int, B = (ix.length : Nat) := ⟨_, rfl⟩
  have hBr : 0 ≤ B ∧ B ≤ 10000000 := by
    rw [hB, List.length_append, bitsOf_len]
    have g1' := g1
    unfold partsB at g1'
    simp only [Bool.and_eq_true, decide_eq_true_eq] at g1'
    obtain ⟨⟨w1, w2⟩, w3⟩ := g1'
    obtain ⟨_, _, p0, p3, _⟩ := whole_iff.1 w1
    rw [allP_iff] at w3
    have hks : ∀ i, i < rc.length → rc.getD i 0 ≤ 24 := fun i hi => by
      have := w3 i hi
      simp only [kP, Bool.or_eq_false_iff, decide_eq_false_iff_not] at this
      omega
    have hfar : ∀ x ∈ da, -8589934592 ≤ x ∧ x < 8589934592 := fun x hx => by
      rw [List.any_eq_false] at g2
      have := g2 x hx
      rw [farP, Bool.or_eq_true, decide_eq_true_eq, decide_eq_true_eq] at this
      omega
    have hrc8 : rc.length ≤ 8 := by
      have : ∀ k : Nat, k ≤ 3 → (2 : Int) ^ k ≤ 8 := by decide
      have := this pt.toNat (by omega)
      omega
    have h1 := pcodes_len da rc (da.length / 2 ^ pt.toNat) hks hfar rc.length (Nat.le_refl _)
    have hs1024 : da.length / 2 ^ pt.toNat ≤ 1024 := Nat.le_trans (Nat.div_le_self _ _) f6
    have h2 : rc.length * (5 + 59 * (da.length / 2 ^ pt.toNat)) ≤ 8 * (5 + 59 * 1024) := Nat.mul_le_mul (by omega) (by omega)
    omega
  have hRv : (lg = 0 → R = 13 + 7 * N + B) ∧ (¬ lg = 0 → R = 13 + 7 * N + B + 12) := by
    have e : (nbits sh ix lg gn pt rc da).length = 12 + 7 * ix.length + (lagbits lg gn).length + (bitsOf pt.toNat 2 ++ pcodes da rc (da.length / 2 ^ pt.toNat) rc.length).length := by
      rw [nbits, nhead]
      simp only [List.length_append, bitsOf_len, sbs_len, show Int.toNat 7 = 7 from rfl]
      omega
    refine ⟨fun h0 => ?_, fun h0 => ?_⟩
    · rw [lagbits, if_pos h0, bitsOf_len] at e; omega
    · rw [lagbits, if_neg h0, List.length_append, List.length_append, bitsOf_len, bitsOf_len, bitsOf_len] at e; omega
  have hN16 : 0 ≤ N ∧ N ≤ 16 := by have := f3.1; omega
  clear hB hR f3 f4 f5 g1 g2 hf
  refine pure0 ?_ rfl rfl h
  refine wlk Tryz.f25 ?_
  unhygienic intros
  have hln : lnI ix = N := by rw [hk.lnI_eq]; omega
  obtain ⟨a, ha⟩ : ∃ a, a = 7 * N := ⟨_, rfl⟩
  obtain ⟨b, hb⟩ : ∃ a', a' = 13 + a := ⟨_, rfl⟩
  obtain ⟨c, hc⟩ : ∃ a', a' = b + B := ⟨_, rfl⟩
  obtain ⟨e, he⟩ : ∃ a', a' = c + 12 := ⟨_, rfl⟩
  have t1 : i2 .mul .i64 7 N = a := by rw [ha]; exact hk.mul64 _ _ (by omega) (by omega)
  have t2 : i2 .add .i64 13 a = b := by rw [hb]; exact hk.add64 _ _ (by omega) (by omega)
  have t3 : i2 .add .i64 b B = c := by rw [hc]; exact hk.add64 _ _ (by omega) (by omega)
  have t4 : i2 .add .i64 c 12 = e := by rw [he]; exact hk.add64 _ _ (by omega) (by omega)
  by_cases h0 : lg = 0
  · have hRv := hRv.1 h0
    have : R = c := by omega
    subst this
    subst h0
    (conv => cbv)
    repeat' (first | assumption | ((first | rw [hln] | rw [t1] | rw [t2] | rw [t3] | rw [t4] | refine hk.callA (hpa _) ?_ | refine hk.calldA hpa ?_ | refine hk.callA (hsl _) ?_ | refine hk.calldA hsl ?_ | refine stp ?_ | refine stpB (fun _ => ?_) (fun _ => ?_)) <;> (conv => cbv)) | exact stpF | fail)
    all_goals exact hk.fin0 rfl rfl (Wk.refl _ _)
  · have hRv := hRv.2 h0
    have : R = e := by omega
    subst this
    (conv => cbv)
    repeat' (first | assumption | ((first | rw [hln] | rw [t1] | rw [t2] | rw [t3] | rw [t4] | refine hk.callA (hpa _) ?_ | refine hk.calldA hpa ?_ | refine hk.callA (hsl _) ?_ | refine hk.calldA hsl ?_ | refine stp ?_ | refine stpB (fun _ => ?_) (fun _ => ?_)) <;> (conv => cbv)) | exact stpF | fail)
    all_goals exact hk.fin0 rfl rfl (Wk.refl _ _)
theorem plain_da {kd vl sh : Int} {ix : List Int} {lg gn pt : Int} {rc da : List Int} {n d : Int} (hf : formE kd vl sh ix lg gn pt rc da n d = 0) (k2 : kd ≠ 2) (n2 : n ≤ 1024) : da.length ≤ 1024 := by
  obtain ⟨hkd, hdn⟩ := form_plain hf k2
  rcases hkd with h | h | h
  · subst h
    unfold formE at hf
    rw [if_pos rfl] at hf
    split at hf
    · rename_i hh; omega
    · exact absurd hf (by decide)
  · subst h
    unfold formE at hf
    rw [if_neg (by decide), if_pos rfl] at hf
    split at hf
    · rename_i hh; omega
    · exact absurd hf (by decide)
  · have := hdn h; omega
theorem plain_vd {kd vl : Int} {sh : Int} {ix : List Int} {lg gn : Int} {da : List Int} {n d : Int} (n1 : 1 ≤ n) (k2 : kd ≠ 2) (hlk : (outL kd vl sh ix lg gn da n d).any (lacksP d) = false) :
    (kd = 1 → -2 ^ (d - 1).toNat ≤ vl ∧ vl < 2 ^ (d - 1).toNat) ∧ (kd = 3 → ∀ i, i < da.length → -2 ^ (d - 1).toNat ≤ da.getD i 0 ∧ da.getD i 0 < 2 ^ (d - 1).toNat) := by
  rw [List.any_eq_false] at hlk
  refine ⟨fun h1 => ?_, fun h3 i hi => ?_⟩
  · subst h1
    exact lacks_no (d := d) (n := vl) (by
      have := hlk vl (by
        show vl ∈ List.replicate n.toNat vl
        exact List.mem_replicate.2 ⟨by omega, rfl⟩)
      simpa using this)
  · subst h3
    exact lacks_no (by
      have := hlk (da.getD i 0) (mem_getD.2 ⟨i, hi, rfl⟩)
      simpa using this)
theorem pbits_len (kd vl : Int) (da : List Int) (d : Int) : (pbits kd vl da d).length = 2 + (if kd = 1 then d.toNat else if kd = 3 then d.toNat * da.length else 0) := by
  rw [pbits, List.length_append, bitsOf_len]
  split
  · rw [sb_len]
  · split
    · rw [sbs_len]
    · rfl
theorem rbits_any (x : BlkIn) (n d : Int) (hx : x.e n d = 0) (h : Heap) : Does PP 25 [x.v, I d] h (Is (I ((blkBits x d).length : Nat)) h) := by
  obtain ⟨kd, vl, sh, ix, lg, gn, pt, rc, da⟩ := x
  have hx1 : bsE kd vl sh ix lg gn pt rc da n d = 0 := hx
  obtain ⟨⟨n1, n2, d1, d2⟩, hf, hlk⟩ := bsE_ok hx1
  by_cases k2 : kd = 2
  · subst k2
    exact rBitsT_spec vl sh ix lg gn pt rc da n d h hf d2 n1 n2
  · have e : blkBits ⟨kd, vl, sh, ix, lg, gn, pt, rc, da⟩ d = pbits kd vl da d := if_neg k2
    have hkd := (form_plain hf k2).1
    have := rBits_spec kd vl sh ix lg gn pt rc da d h (by omega) d2 (plain_da hf k2 n2) hkd
    have el : (((pbits kd vl da d).length : Nat) : Int) = if kd = 1 then 2 + d else if kd = 3 then 2 + d * (da.length : Nat) else 2 := by
      rw [pbits_len]
      rcases hkd with h | h | h
      · subst h; rfl
      · subst h; simp only [if_true]; omega
      · subst h
        simp only [if_true, show ¬ ((3 : Int) = 1) by decide, if_false]
        rw [Int.natCast_add, Int.natCast_mul]
        rw [show ((d.toNat : Nat) : Int) = d by omega]
        rfl
    rw [e, el]
    exact this
theorem bput_any (x : BlkIn) (n d : Int) (hn : n ≤ 64) (hx : x.e n d = 0) (h1 : x.ix.length ≤ 9223372036854775807) (h2 : x.rc.length ≤ 9223372036854775807) (h3 : x.da.length ≤ 9223372036854775807) :
    Does PP 22 [.ptr 0 0, x.v, I n, I d] (wr []) (Is (.bool true) (wr (blkBits x d))) := by
  obtain ⟨kd, vl, sh, ix, lg, gn, pt, rc, da⟩ := x
  have hx1 : bsE kd vl sh ix lg gn pt rc da n d = 0 := hx
  obtain ⟨⟨n1, n2, d1, d2⟩, hf, hlk⟩ := bsE_ok hx1
  by_cases k2 : kd = 2
  · subst k2
    have hnm : nmE ix lg gn da d = 0 := by
      unfold bsE at hx1
      rw [if_neg (fun h => h ⟨n1, n2, d1, d2⟩), if_neg (fun h => h hf)] at hx1
      split at hx1
      · exact absurd hx1 (by decide)
      · rename_i hh
        exact Decidable.byContradiction fun h => hh ⟨rfl, h⟩
    obtain ⟨hE, hE2⟩ : onE lg gn da = 0 ∧ smE ix (pw d - 1) (onL lg gn da) = 0 := by
      unfold nmE at hnm
      by_cases h1 : onE lg gn da = 0
      · by_cases h2 : smE ix (pw d - 1) (onL lg gn da) = 0
        · exact ⟨h1, h2⟩
        · simp [h1, h2] at hnm
      · simp [h1] at hnm
    have := bPutT_spec vl sh ix lg gn pt rc da n d [] (by decide) n1 n2 d1 d2 h1 h2 h3 hf hE hE2 hlk
    exact this
  · have e : blkBits ⟨kd, vl, sh, ix, lg, gn, pt, rc, da⟩ d = pbits kd vl da d := if_neg k2
    rw [e]
    obtain ⟨hv, hd⟩ := plain_vd n1 k2 hlk
    have ho : outL kd vl sh ix lg gn da n d = pout kd vl da n := by rw [outL, if_neg k2]; rfl
    rw [ho] at hlk
    exact bPut_spec kd vl sh ix lg gn pt rc da n d [] _ (fun h => bsamples_err kd vl sh ix lg gn pt rc da n d h n1 hn d1 d2 h1 h2 h3 hf k2 hlk) (bput_spec kd vl sh ix lg gn pt rc da d [] (by decide) (form_plain hf k2).1 d1 d2 hv hd (plain_da hf k2 n2))
theorem blk_len (x : BlkIn) (n d : Int) (hx : x.e n d = 0) : 2 ≤ (blkBits x d).length ∧ (blkBits x d).length < 1000000 := by
  obtain ⟨kd, vl, sh, ix, lg, gn, pt, rc, da⟩ := x
  have hx1 : bsE kd vl sh ix lg gn pt rc da n d = 0 := hx
  obtain ⟨⟨n1, n2, d1, d2⟩, hf, hlk⟩ := bsE_ok hx1
  by_cases k2 : kd = 2
  · subst k2
    have e : blkBits ⟨2, vl, sh, ix, lg, gn, pt, rc, da⟩ d = nbits sh ix lg gn pt rc da := rfl
    rw [e]
    obtain ⟨f1, f2, f3, f4, f5, f6, f7⟩ := form_two hf d2 n2
    obtain ⟨_, g1, g2⟩ := form_two2 hf
    rw [← f7] at g1
    have ee : (nbits sh ix lg gn pt rc da).length = 12 + 7 * ix.length + (lagbits lg gn).length + (bitsOf pt.toNat 2 ++ pcodes da rc (da.length / 2 ^ pt.toNat) rc.length).length := by
      rw [nbits, nhead]
      simp only [List.length_append, bitsOf_len, sbs_len, show Int.toNat 7 = 7 from rfl]
      omega
    have hlb : (lagbits lg gn).length ≤ 13 := by unfold lagbits; split <;> simp [bitsOf_len]
    rw [List.length_append, bitsOf_len] at ee
    have g1' := g1
    unfold partsB at g1'
    simp only [Bool.and_eq_true, decide_eq_true_eq] at g1'
    obtain ⟨⟨w1, w2⟩, w3⟩ := g1'
    obtain ⟨_, _, p0, p3, _⟩ := whole_iff.1 w1
    rw [allP_iff] at w3
    have hks : ∀ i, i < rc.length → rc.getD i 0 ≤ 24 := fun i hi => by
      have := w3 i hi
      simp only [kP, Bool.or_eq_false_iff, decide_eq_false_iff_not] at this
      omega
    have hfar : ∀ x ∈ da, -8589934592 ≤ x ∧ x < 8589934592 := fun x hx => by
      rw [List.any_eq_false] at g2
      have := g2 x hx
      rw [farP, Bool.or_eq_true, decide_eq_true_eq, decide_eq_true_eq] at this
      omega
    have hrc8 : rc.length ≤ 8 := by
      have : ∀ k : Nat, k ≤ 3 → (2 : Int) ^ k ≤ 8 := by decide
      have := this pt.toNat (by omega)
      omega
    have h1 := pcodes_len da rc (da.length / 2 ^ pt.toNat) hks hfar rc.length (Nat.le_refl _)
    have hs1024 : da.length / 2 ^ pt.toNat ≤ 1024 := Nat.le_trans (Nat.div_le_self _ _) f6
    have h2 : rc.length * (5 + 59 * (da.length / 2 ^ pt.toNat)) ≤ 8 * (5 + 59 * 1024) := Nat.mul_le_mul (by omega) (by omega)
    have := f3.1
    omega
  · have e : blkBits ⟨kd, vl, sh, ix, lg, gn, pt, rc, da⟩ d = pbits kd vl da d := if_neg k2
    rw [e, pbits_len]
    have hda := plain_da hf k2 n2
    split
    · omega
    · split
      · have : d.toNat * da.length ≤ 26 * 1024 := Nat.mul_le_mul (by omega) hda
        omega
      · omega
end Go.Proofs.YtfjdmgnhklpiiaaGreat
set_option maxHeartbeats 4000000
set_option maxRecDepth 20000
set_option linter.unusedSimpArgs false
set_option linter.unusedVariables false
open Go Go.AL
namespace Go.Proofs.YtfjdmgnhklpiiaaGreat
theorem puts_out (kd vl sh : Int) (ix : List Int) (lg gn pt : Int) (rc da : List Int) (n d : Int) (hn : fewB ix rc da = false ∨ 64 < n) :
    Does PP 5 [.agg [I kd, I vl, I sh, LI ix, I lg, I gn, I pt, LI rc, LI da], I n, I d] [] (Is (.bool true) []) := by
  have haw := awake10
  have hfw := fun h => few_spec kd vl sh ix lg gn pt rc da h
  obtain ⟨f, hf⟩ : ∃ f, f = fewB ix rc da := ⟨_, rfl⟩
  simp only [← hf] at hfw hn
  clear hf
  refine wlk Tryz.f5 ?_
  unhygienic intros
  cases f
  · (conv => cbv)
    repeat' (first | assumption | ((first | refine hk.callA (haw _) ?_ | refine hk.calldA haw ?_ | refine hk.callA (hfw _) ?_ | refine hk.calldA hfw ?_ | refine stp ?_ | refine stpB (fun _ => ?_) (fun _ => ?_)) <;> (conv => cbv)) | exact stpF | fail)
    all_goals exact hk.fin0 rfl rfl (Wk.refl _ _)
  · have : 64 < n := by rcases hn with h | h; exact absurd h (by decide); exact h
    (conv => cbv)
    repeat' (first | assumption | ((first | refine hk.callA (haw _) ?_ | refine hk.calldA haw ?_ | refine hk.callA (hfw _) ?_ | refine hk.calldA hfw ?_ | refine stp ?_ | refine stpB (fun _ => ?_) (fun _ => ?_)) <;> (conv => cbv)) | exact stpF | fail)
    all_goals exact hk.fin0 rfl rfl (Wk.refl _ _)
theorem puts_bad (kd vl sh : Int) (ix : List Int) (lg gn pt : Int) (rc da : List Int) (n d E : Int) (hn : n ≤ 64) (hE : E ≠ 0) (hf : fewB ix rc da = true)
    (hs : ∀ h, Does PP 19 [.agg [I kd, I vl, I sh, LI ix, I lg, I gn, I pt, LI rc, LI da], I n, I d] h (Is (.tup [LI [], I E]) h))
    (hr : ∀ h, Does PP 21 [.agg [I kd, I vl, I sh, LI ix, I lg, I gn, I pt, LI rc, LI da], I n, I d] h (Is (.tup [LI [], I E]) h)) :
    Does PP 5 [.agg [I kd, I vl, I sh, LI ix, I lg, I gn, I pt, LI rc, LI da], I n, I d] [] (Is (.bool true) []) := by
  have haw := awake10
  have hfw := fun h => few_spec kd vl sh ix lg gn pt rc da h
  rw [hf] at hfw
  have hpb := bPut_bad kd vl sh ix lg gn pt rc da n d E [] hE hs
  have hput : Does PP 22 [.ptr 0 0, .agg [I kd, I vl, I sh, LI ix, I lg, I gn, I pt, LI rc, LI da], I n, I d] [.box [.ls .nl .nil, .int .i64 0]] (Is (.bool false) [.box [.ls .nl .nil, .int .i64 0], .rw 0 (.il .u8 [])]) :=
    Does.ghost (GE.newRow (.il .u8 []) rfl) hpb (by simp)
  have hput1 : ∀ o, Does PP 22 [.ptr 1 0, .agg [I kd, I vl, I sh, LI ix, I lg, I gn, I pt, LI rc, LI da], I n, I d] [o, .box [.ls .nl .nil, .int .i64 0]] (Is (.bool false) [o, .box [.ls .nl .nil, .int .i64 0], .rw 0 (.il .u8 [])]) := fun o =>
    hput.renI [1] rfl (by decide) rfl ⟨rfl, trivial⟩ rfl rfl rfl rfl rfl rfl
  have hlen0 := wlen0
  have hlen1 : ∀ o, Does PP 24 [.ptr 1 0] [o, .box [.ls .nl .nil, .int .i64 0], .rw 0 (.il .u8 [])] (Is (I 0) [o, .box [.ls .nl .nil, .int .i64 0], .rw 0 (.il .u8 [])]) := fun o =>
    hlen0.renI [1] rfl (by decide) rfl ⟨rfl, trivial⟩ rfl rfl rfl rfl rfl rfl
  have hlenx : ∀ o x, Does PP 24 [.ptr 1 0] ([o, .box [.ls .nl .nil, .int .i64 0], .rw 0 (.il .u8 [])] ++ x) (Is (I 0) ([o, .box [.ls .nl .nil, .int .i64 0], .rw 0 (.il .u8 [])] ++ x)) := fun o x =>
    hlen0.renI [1] rfl (by decide) rfl ⟨rfl, trivial⟩ rfl rfl rfl rfl rfl (List.append_nil _)
  have hbits : ∀ h, Does PP 23 [.agg [I kd, I vl, I sh, LI ix, I lg, I gn, I pt, LI rc, LI da], I n, I d] h (Is (I 0) h) := fun h => by
    have hl : Does PP 24 [.ptr 1 0] [.box [I kd, I vl, I sh, LI ix, I lg, I gn, I pt, LI rc, LI da], .box [.ls .nl .nil, .int .i64 0], .rw 0 (.il .u8 [])] (Is (I 0) [.box [I kd, I vl, I sh, LI ix, I lg, I gn, I pt, LI rc, LI da], .box [.ls .nl .nil, .int .i64 0], .rw 0 (.il .u8 [])]) := hlen1 _
    refine pure0 ?_ rfl rfl h
    clear hpb hput hs hr
    refine wlk Tryz.f23 ?_
    unhygienic intros
    (conv => cbv)
    repeat' (first | assumption | ((first | refine hk.callA (hput1 _) ?_ | refine hk.callA hl ?_ | refine stp ?_ | refine stpB (fun _ => ?_) (fun _ => ?_)) <;> (conv => cbv)) | exact stpF | fail)
    all_goals exact hk.fin0 rfl rfl (Wk.refl _ _)
  have hdE : decide (E = 0) = false := decide_eq_false hE
  clear hpb hput hs
  refine wlkS (fun f => Nat.beq f 22) Tryz.f5 ?_
  unhygienic intros
  (conv => cbv)
  repeat' (first | assumption | ((first | refine hk.callA (haw _) ?_ | refine hk.calldA haw ?_ | refine hk.callA (hfw _) ?_ | refine hk.calldA hfw ?_ | refine hk.callA (hr _) ?_ | refine hk.calldA hr ?_ | refine hk.callA (hput1 _) ?_ | refine hk.callS (hput1 _) ?_ | refine hk.callA (hlen1 _) ?_ | refine hk.calld1 (hlenx _) ?_ | refine hk.callA (hbits _) ?_ | refine hk.calldA hbits ?_ | rw [hdE] | refine stp ?_ | refine stpB (fun _ => ?_) (fun _ => ?_)) <;> (conv => cbv)) | exact stpF | fail)
  all_goals exact hk.fin0 rfl rfl (Wk.of_eq (congrArg _ (by rw [hk.c2_eql]; simp)))
theorem puts_core (kd vl sh : Int) (ix : List Int) (lg gn pt : Int) (rc da L : List Int) (n d : Int) (bits : List Bool) (hn : n ≤ 64) (hf : fewB ix rc da = true) (hb2 : 2 ≤ bits.length) (hbl : bits.length < 1000000)
    (ok1 : ix.length ≤ 9223372036854775807) (ok2 : rc.length ≤ 9223372036854775807) (ok3 : da.length ≤ 9223372036854775807) (ok4 : L.length ≤ 9223372036854775807)
    (hr : ∀ h, Does PP 21 [.agg [I kd, I vl, I sh, LI ix, I lg, I gn, I pt, LI rc, LI da], I n, I d] h (Is (.tup [LI L, I 0]) h))
    (hput : Does PP 22 [.ptr 0 0, .agg [I kd, I vl, I sh, LI ix, I lg, I gn, I pt, LI rc, LI da], I n, I d] (wr []) (Is (.bool true) (wr bits)))
    (hbi : ∀ h, Does PP 23 [.agg [I kd, I vl, I sh, LI ix, I lg, I gn, I pt, LI rc, LI da], I n, I d] h (Is (I (bits.length : Nat)) h))
    (hrp : ∀ h, Does PP 14 [.agg [I kd, I vl, I sh, LI ix, I lg, I gn, I pt, LI rc, LI da], I d] h (Is (.str (strB bits)) h))
    (hrb : ∀ h, Does PP 25 [.agg [I kd, I vl, I sh, LI ix, I lg, I gn, I pt, LI rc, LI da], I d] h (Is (I (bits.length : Nat)) h))
    (htk : ∃ a2, Does PP 8 [.ptr 0 0, I n, I d] (rd (pack bits) 0 0) (Is (.tup [.agg [I kd, I vl, I sh, LI ix, I lg, I gn, I pt, LI rc, LI da], LI L]) (rd (pack bits) a2 0)) ∧
      Does PP 28 [.ptr 0 0] (rd (pack bits) a2 0) (Is (I 0) (rd (pack bits) a2 0))) :
    Does PP 5 [.agg [I kd, I vl, I sh, LI ix, I lg, I gn, I pt, LI rc, LI da], I n, I d] [] (Is (.bool true) []) := by
  have haw := awake10
  have hfw := fun h => few_spec kd vl sh ix lg gn pt rc da h
  rw [hf] at hfw
  obtain ⟨a2, htk, hen⟩ := htk
  have hput : Does PP 22 [.ptr 0 0, .agg [I kd, I vl, I sh, LI ix, I lg, I gn, I pt, LI rc, LI da], I n, I d] [.box [.ls .nl .nil, .int .i64 0]] (Is (.bool true) (wr bits)) :=
    Does.ghost (GE.newRow (.il .u8 []) rfl) hput (by simp)
  have hwl : wr bits = wl bits := by cases bits with | nil => simp at hb2 | cons a r => rfl
  have hle := lenL_spec bits
  have hby := bytes_spec bits (by omega)
  have hrby := fun h => refBytes_spec bits h (by omega)
  have hop := open_spec (pack bits)
  have hsm := fun h => rSame_spec kd vl sh ix lg gn pt rc da h ok1 ok2 ok3
  have hsl := fun h => same_spec L L h ok4 ok4
  rw [decide_eq_true rfl] at hsl
  rw [hwl] at hput hby
  unfold wl at hput hle hby
  unfold rd at htk hen hop
  obtain ⟨m, hm⟩ : ∃ m : Int, m = (bits.length : Nat) := ⟨_, rfl⟩
  obtain ⟨g, hg⟩ : ∃ g, g = nby bits.length := ⟨_, rfl⟩
  obtain ⟨gz, hgz⟩ : ∃ gz : Int, gz = (g : Nat) := ⟨_, rfl⟩
  obtain ⟨P, hP⟩ : ∃ g, g = pack bits := ⟨_, rfl⟩
  obtain ⟨S, hS⟩ : ∃ S, S = strB bits := ⟨_, rfl⟩
  have hSl : (S.length : Int) = m := by rw [hS, strB_len, hm]
  have hPl : P.length ≤ 200000 := by rw [hP, pack_len, nby]; omega
  simp only [← hm, ← hg, ← hgz, ← hP, ← hS] at hput hle hby hrby hbi hrp hrb htk hen hop
  clear hm hg hgz hP hS hwl
  have hput1 : ∀ o, Does PP 22 [.ptr 1 0, .agg [I kd, I vl, I sh, LI ix, I lg, I gn, I pt, LI rc, LI da], I n, I d] [o, .box [.ls .nl .nil, .int .i64 0]] (Is (.bool true) [o, .box [.sl 2 g 0 gz, I m], .rw g (.il .u8 P)]) := fun o =>
    hput.renI [1] rfl (by decide) rfl ⟨rfl, trivial⟩ rfl rfl rfl rfl rfl rfl
  have hlex : ∀ o x, Does PP 24 [.ptr 1 0] ([o, .box [.sl 2 g 0 gz, I m], .rw g (.il .u8 P)] ++ x) (Is (I m) ([o, .box [.sl 2 g 0 gz, I m], .rw g (.il .u8 P)] ++ x)) := fun o x =>
    hle.renI [1, 2] rfl (by decide) rfl ⟨rfl, rfl, trivial⟩ rfl rfl rfl rfl rfl (List.append_nil _)
  have hbyx : ∀ o x, Does PP 26 [.ptr 1 0] ([o, .box [.sl 2 g 0 gz, I m], .rw g (.il .u8 P)] ++ x) (Is (L8 P) ([o, .box [.sl 2 g 0 gz, I m], .rw g (.il .u8 P)] ++ x)) := fun o x =>
    hby.renI [1, 2] rfl (by decide) rfl ⟨rfl, rfl, trivial⟩ rfl rfl rfl rfl rfl (List.append_nil _)
  have hle1 : ∀ o, Does PP 24 [.ptr 1 0] [o, .box [.sl 2 g 0 gz, I m], .rw g (.il .u8 P)] (Is (I m) [o, .box [.sl 2 g 0 gz, I m], .rw g (.il .u8 P)]) := fun o => hlex o []
  have hby1 : ∀ o, Does PP 26 [.ptr 1 0] [o, .box [.sl 2 g 0 gz, I m], .rw g (.il .u8 P)] (Is (L8 P) [o, .box [.sl 2 g 0 gz, I m], .rw g (.il .u8 P)]) := fun o => hbyx o []
  have hop1 : ∀ o o2 o3, Does PP 7 [L8 P] [o, o2, o3] (Is (.ptr 3 0) [o, o2, o3, .box [.ls (.il .u8 P) .any, .int .i64 0, .int .i64 0]]) := fun o o2 o3 =>
    hop.renI [] rfl (by decide) rfl trivial rfl rfl rfl rfl rfl rfl
  have htk1 : ∀ o o2 o3, Does PP 8 [.ptr 3 0, I n, I d] [o, o2, o3, .box [.ls (.il .u8 P) .any, .int .i64 0, .int .i64 0]] (Is (.tup [.agg [I kd, I vl, I sh, LI ix, I lg, I gn, I pt, LI rc, LI da], LI L]) [o, o2, o3, .box [.ls (.il .u8 P) .any, .int .i64 a2, .int .i64 0]]) := fun o o2 o3 =>
    htk.renI [3] rfl (by decide) rfl ⟨rfl, trivial⟩ rfl rfl rfl rfl rfl rfl
  have hen1 : ∀ o o2 o3, Does PP 28 [.ptr 3 0] [o, o2, o3, .box [.ls (.il .u8 P) .any, .int .i64 a2, .int .i64 0]] (Is (I 0) [o, o2, o3, .box [.ls (.il .u8 P) .any, .int .i64 a2, .int .i64 0]]) := fun o o2 o3 =>
    hen.renI [3] rfl (by decide) rfl ⟨rfl, trivial⟩ rfl rfl rfl rfl rfl rfl
  have henx : ∀ o o2 o3 x, Does PP 28 [.ptr 3 0] ([o, o2, o3, .box [.ls (.il .u8 P) .any, .int .i64 a2, .int .i64 0]] ++ x) (Is (I 0) ([o, o2, o3, .box [.ls (.il .u8 P) .any, .int .i64 a2, .int .i64 0]] ++ x)) := fun o o2 o3 x =>
    hen.renI [3] rfl (by decide) rfl ⟨rfl, trivial⟩ rfl rfl rfl rfl rfl (List.append_nil _)
  have hen2 : ∀ o o2 o3 o4, Does PP 28 [.ptr 3 0] [o, o2, o3, .box [.ls (.il .u8 P) .any, .int .i64 a2, .int .i64 0], o4] (Is (I 0) [o, o2, o3, .box [.ls (.il .u8 P) .any, .int .i64 a2, .int .i64 0], o4]) := fun o o2 o3 o4 => henx o o2 o3 [o4]
  have henx2 : ∀ o o2 o3 o4 x, Does PP 28 [.ptr 3 0] ([o, o2, o3, .box [.ls (.il .u8 P) .any, .int .i64 a2, .int .i64 0], o4] ++ x) (Is (I 0) ([o, o2, o3, .box [.ls (.il .u8 P) .any, .int .i64 a2, .int .i64 0], o4] ++ x)) := fun o o2 o3 o4 x => henx o o2 o3 (o4 :: x)
  clear hput hle hby hop htk hen
  refine wlkS (fun f => Nat.beq f 22 || Nat.beq f 8) Tryz.f5 ?_
  unhygienic intros
  have hsc : sc .eql (b2s P) (b2s P) = true := by rw [hk.sc_eq]; simp [rSc]
  have hsn : sc .neq (b2s P) (b2s P) = false := by rw [hk.sc_eq]; simp [rSc]
  have hls : sln S = m := by rw [hk.sln_eq]; exact hSl
  clear hSl
  (conv => cbv)
  repeat' (first | assumption | ((first | refine hk.callA (haw _) ?_ | refine hk.calldA haw ?_ | refine hk.callA (hfw _) ?_ | refine hk.calldA hfw ?_ | refine hk.callA (hr _) ?_ | refine hk.calldA hr ?_ | refine hk.callA (hput1 _) ?_ | refine hk.callS (hput1 _) ?_ | refine hk.callA (hle1 _) ?_ | refine hk.calld1 (hlex _) ?_ | refine hk.callA (hbi _) ?_ | refine hk.calldA hbi ?_ | refine hk.callA (hrp _) ?_ | refine hk.calldA hrp ?_ | rw [hls] | refine hk.callA (hrb _) ?_ | refine hk.calldA hrb ?_ | refine hk.callA (hby1 _) ?_ | refine hk.calld1 (hbyx _) ?_ | refine hk.callA (hrby _) ?_ | refine hk.calldA hrby ?_ | rw [hsc] | rw [hsn] | refine hk.callA (hop1 _ _ _) ?_ | refine hk.callA (htk1 _ _ _) ?_ | refine hk.callS (htk1 _ _ _) ?_ | refine hk.callA (hen1 _ _ _) ?_ | refine hk.calld1 (henx _ _ _) ?_ | refine hk.callA (hen2 _ _ _ _) ?_ | refine hk.calld1 (henx2 _ _ _ _) ?_ | refine hk.callA (hsm _) ?_ | refine hk.calldA hsm ?_ | refine hk.callA (hsl _) ?_ | refine hk.calldA hsl ?_ | refine stp ?_ | refine stpB (fun _ => ?_) (fun _ => ?_)) <;> (conv => cbv)) | exact stpF | fail)
  all_goals exact hk.fin0 rfl rfl (Wk.refl _ _)
theorem num_zeros : ∀ k : Nat, num (List.replicate k false) = 0
  | 0 => rfl
  | k + 1 => by rw [List.replicate_succ', num_snoc, num_zeros k]; rfl
theorem enV_zeros (k : Nat) (hk : k < 8) : enV (List.replicate k false) 0 = 0 := by
  unfold enV
  rw [if_neg (by rw [List.length_replicate]; omega)]
  unfold alV
  have hF : tkF (List.replicate k false) 0 (((List.replicate k false).length % 8 : Nat) : Int) = 0 := by
    rw [List.length_replicate]
    unfold tkF
    rw [if_neg (by decide), if_neg (by omega), if_neg (by rw [List.length_replicate]; omega)]
  simp only [hF, if_true]
  rw [if_pos]
  rw [List.length_replicate, Int.toNat_natCast, Nat.mod_eq_of_lt hk, List.take_of_length_le (by rw [List.length_replicate]; exact Nat.le_refl _)]
  exact num_zeros k
theorem blockPuts_law (x : BlkIn) (hx : x.ok) (n d : Int) : Does PP 5 [x.v, .int .i64 n, .int .i64 d] [] (Is (.bool true) []) := by
  obtain ⟨_, hl1, hl2, hl3⟩ := hx
  by_cases hfe : fewB x.ix x.rc x.da = false
  · exact puts_out _ _ _ _ _ _ _ _ _ _ _ (.inl hfe)
  by_cases hn : 64 < n
  · exact puts_out _ _ _ _ _ _ _ _ _ _ _ (.inr hn)
  have hfe : fewB x.ix x.rc x.da = true := by simpa using hfe
  have hn : n ≤ 64 := by omega
  obtain ⟨hsB, hsR⟩ := smp_both x.kd x.vl x.sh x.ix x.lg x.gn x.pt x.rc x.da n d hn hl1 hl2 hl3
  by_cases hE : x.e n d = 0
  · have hE' : bsE x.kd x.vl x.sh x.ix x.lg x.gn x.pt x.rc x.da n d = 0 := hE
    obtain ⟨⟨n1, n2, d1, d2⟩, _⟩ := bsE_ok hE'
    obtain ⟨b2, bl⟩ := blk_len x n d hE
    have hput := bput_any x n d hn hE hl1 hl2 hl3
    have hL : (x.l n d).length ≤ 9223372036854775807 := Nat.le_trans (bsL_len _ _ _ _ _ _ _ _ _ _ _) (by decide)
    rw [hE'] at hsR
    refine puts_core x.kd x.vl x.sh x.ix x.lg x.gn x.pt x.rc x.da (x.l n d) n d (blkBits x d) hn hfe b2 bl hl1 hl2 hl3 hL hsR hput
      (fun h => bBits_spec _ _ _ _ _ _ _ _ _ _ _ _ h bl (fun h => by rw [h] at b2; simp at b2) hput) (fun h => rput_any x n d hE hl2 h) (fun h => rbits_any x n d hE h) ?_
    obtain ⟨k, hk8, hpad⟩ : ∃ k, k < 8 ∧ padTo (blkBits x d) = blkBits x d ++ List.replicate k false := ⟨(8 - (blkBits x d).length % 8) % 8, Nat.mod_lt _ (by decide), rfl⟩
    have hup : unpack (pack (blkBits x d)) = blkBits x d ++ List.replicate k false := by rw [unpack_pack, hpad]
    have hB := pack_bytes (blkBits x d)
    have hPl : (pack (blkBits x d)).length < 137438953472 := by rw [pack_len, nby]; omega
    obtain ⟨P, hP⟩ : ∃ P, P = pack (blkBits x d) := ⟨_, rfl⟩
    rw [← hP] at hup hB hPl ⊢
    have ht := btake_rh P hB hPl (unpack P, 0) (RV_open P) n d n1 hn d1 d2
    obtain ⟨p1, p2, p3⟩ := bk_put x n d (List.replicate k false) hE
    rw [← hup] at p1 p2 p3
    rw [p1, p2, p3] at ht
    have e0 : rh P (unpack P, 0) = rd P 0 0 := by
      unfold rh rpos
      rw [unpack_len]
      simp
    rw [e0] at ht
    have hv : RV P (List.replicate k false, 0) := ⟨blkBits x d, hup.symm⟩
    obtain ⟨q0, q1⟩ := RV_pos hv
    have hen := rend_spec P (rpos P (List.replicate k false, 0)) 0 hB q0 q1 hPl
    rw [RV_rem hv] at hen
    simp only [enV_zeros k hk8] at hen
    exact ⟨_, ht, hen⟩
  · have hE' : bsE x.kd x.vl x.sh x.ix x.lg x.gn x.pt x.rc x.da n d ≠ 0 := hE
    have hL : bsL x.kd x.vl x.sh x.ix x.lg x.gn x.pt x.rc x.da n d = [] := by rw [bsL, if_neg hE']
    rw [hL] at hsB hsR
    exact puts_bad _ _ _ _ _ _ _ _ _ _ _ _ hn hE' hfe hsB hsR
end Go.Proofs.YtfjdmgnhklpiiaaGreat
