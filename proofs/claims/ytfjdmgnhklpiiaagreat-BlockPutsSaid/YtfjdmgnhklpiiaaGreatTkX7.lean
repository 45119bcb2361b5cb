/-
  Contracts of functions of the program, proved over the abstract machine of the Al texts.
-/
import Derived.Test.YtfjdmgnhklpiiaaGreatTryTab
import Derived.Test.YtfjdmgnhklpiiaaGreatAl4
import Derived.Test.YtfjdmgnhklpiiaaGreatBaseX
import Derived.Test.YtfjdmgnhklpiiaaGreatPpX
import Derived.Test.YtfjdmgnhklpiiaaGreatPpY
import Derived.Test.YtfjdmgnhklpiiaaGreatSlX
import Derived.Test.YtfjdmgnhklpiiaaGreatBsX1
import Derived.Test.YtfjdmgnhklpiiaaGreatRkX
import Derived.Test.YtfjdmgnhklpiiaaGreatBsX3
import Derived.Test.YtfjdmgnhklpiiaaGreatTkX3
import Derived.Test.YtfjdmgnhklpiiaaGreatBsX4
import Derived.Test.YtfjdmgnhklpiiaaGreatBsX6
set_option maxHeartbeats 4000000
set_option maxRecDepth 20000
set_option linter.unusedSimpArgs false
set_option linter.unusedVariables false
open Go Go.AL
namespace Go.Proofs.YtfjdmgnhklpiiaaGreat
theorem rSigned_spec (v n : Int) (h : Heap) (h1 : 1 ≤ n) (h2 : n ≤ 47) (hv : -2 ^ (n - 1).toNat ≤ v) (hv2 : v < 2 ^ (n - 1).toNat) : Does PP 43 [I v, I n] h (Is (.str (strB (sb v n))) h) := by
  have hp : (2 : Int) ^ n.toNat = 2 * 2 ^ (n - 1).toNat := by rw [show n.toNat = (n - 1).toNat + 1 by omega, Int.pow_succ, Int.mul_comm]
  have hp47 : (2 : Int) ^ n.toNat ≤ 2 ^ 47 := by
    have := Nat.pow_le_pow_right (n := 2) (by decide) (show n.toNat ≤ 47 by omega)
    exact Int.ofNat_le.2 this
  have h47 : (2 : Int) ^ 47 = 140737488355328 := by decide
  rw [h47] at hp47
  have hpp : (0 : Int) < 2 ^ n.toNat := Int.pow_pos (by decide)
  have hm0 : 0 ≤ v % 2 ^ n.toNat := Int.emod_nonneg _ (by omega)
  have hm1 : v % 2 ^ n.toNat < 2 ^ n.toNat := Int.emod_lt_of_pos _ hpp
  have hput := fun h => refPut_spec (v % 2 ^ n.toNat) n h hm0 (by omega) (by omega)
  have esb : strB (bitsOf (v % 2 ^ n.toNat).toNat n.toNat) = strB (sb v n) := rfl
  have hpw := fun h => power_spec n h (by omega)
  have hneg : v < 0 → v % 2 ^ n.toNat = v + 2 ^ n.toNat := fun h => by rw [← Int.add_emod_right, Int.emod_eq_of_lt (by omega) (by omega)]
  have hpos : ¬ v < 0 → v % 2 ^ n.toNat = v := fun h => Int.emod_eq_of_lt (by omega) (by omega)
  simp only [esb] at hput
  obtain ⟨S, hS⟩ : ∃ S, S = strB (sb v n) := ⟨_, rfl⟩
  simp only [← hS] at hput
  rw [← hS]
  obtain ⟨M, hM⟩ : ∃ M, M = v % 2 ^ n.toNat := ⟨_, rfl⟩
  simp only [← hM] at hput hneg hpos hm0 hm1
  obtain ⟨W, hW⟩ : ∃ M : Int, M = 2 ^ n.toNat := ⟨_, rfl⟩
  simp only [← hW] at hneg hm1 hpw hp hp47
  clear hS hM hW esb h47 hpp
  refine pure0 ?_ rfl rfl h
  refine wlk Tryz.f43 ?_
  unhygienic intros
  by_cases hv0 : v < 0
  · have hneg := hneg hv0
    have t1 : i2 .add .i64 v W = M := by rw [hneg]; exact hk.add64 _ _ (by omega) (by omega)
    clear hneg hpos
    (conv => cbv)
    repeat' (first | assumption | ((first | refine hk.callA (hpw _) ?_ | refine hk.calldA hpw ?_ | rw [t1] | refine hk.callA (hput _) ?_ | refine hk.calldA hput ?_ | refine stp ?_ | refine stpB (fun _ => ?_) (fun _ => ?_)) <;> (conv => cbv)) | exact stpF | fail)
    all_goals exact hk.fin0 rfl rfl (Wk.refl _ _)
  · have hpos := hpos hv0
    subst hpos
    (conv => cbv)
    repeat' (first | assumption | ((first | refine hk.callA (hput _) ?_ | refine hk.calldA hput ?_ | refine stp ?_ | refine stpB (fun _ => ?_) (fun _ => ?_)) <;> (conv => cbv)) | exact stpF | fail)
    all_goals exact hk.fin0 rfl rfl (Wk.refl _ _)
theorem rZeros_spec (n : Int) (h : Heap) (h0 : 0 ≤ n) (h1 : n ≤ 1000) : Does PP 114 [I n] h (Is (.str (strB (zb n))) h) := by
  obtain ⟨S, hS⟩ : ∃ S : Int → List UInt8, ∀ i, S i = strB (zb i) := ⟨_, fun _ => rfl⟩
  rw [← hS]
  refine pure0 ?_ rfl rfl h
  refine wlk Tryz.f114 ?_
  unhygienic intros
  have hS0 : S 0 = [49] := by rw [hS]; rfl
  have hap : ∀ i : Int, 0 ≤ i → sap [48] (S i) = S (i + 1) := fun i h => by
    rw [hk.sap_eq, hS, hS, zb, zb, show (i + 1).toNat = i.toNat + 1 by omega, List.replicate_succ]
    rfl
  have hln : ∀ i : Int, 0 ≤ i → sln (S i) = i + 1 := fun i h => by rw [hk.sln_eq, hS, strB_len, zb_len]; omega
  have hl1 : sln [48] = 1 := by rw [hk.sln_eq]; rfl
  clear hS
  (conv => cbv)
  refine hk.loopI (loop_rule (α := Int) (fun i => [(0, .int .i64 n), (2, .str []), (3, .str (S i)), (4, .int .i64 i)]) (fun _ => [])
    (fun i => 0 ≤ i ∧ i ≤ n) (fun i => (n - i).toNat) 0 ⟨by omega, h0⟩ ?_ ?_)
  · rw [hS0]
    exact Gh.tm (by repeat (first | exact Holds.nil _ _ | refine Holds.cons (Wk.refl _ _) ?_))
  intro i ⟨hi, hi2⟩ Q' hb hx hr
  have hap := hap i hi
  have hln := hln i hi
  by_cases hin : i < n
  · obtain ⟨S1, hS1⟩ : ∃ x, x = S (i + 1) := ⟨_, rfl⟩
    rw [← hS1] at hap
    (conv => cbv)
    repeat' (first | assumption | ((first | rw [hap] | rw [hl1] | rw [hln] | refine hk.needI (by first | (simp only [rNd, hk.ad_eq, hk.sb_eq]; omega) | (simp [rNd, hk.ad_eq, hk.sb_eq]; omega)) ?_ | refine stp ?_ | refine stpB (fun _ => ?_) (fun _ => ?_)) <;> (conv => cbv)) | exact stpF | fail)
    refine hb (i + 1) _ ⟨by omega, by omega⟩ (by omega) ?_
    rw [← hS1]
    refine Gh.tm ?_
    repeat' (first | exact Holds.nil _ _ | refine Holds.cons (Wk.refl _ _) ?_ | refine Holds.cons (Wk.of_eq ?_) ?_)
    all_goals first
      | (rw [← hk.add64 i 1 (by omega) (by omega)]; rfl)
      | rfl
      | skip
  · have : i = n := by omega
    subst this
    (conv => cbv)
    repeat' (first | assumption | ((first | refine hx _ _ ?_ | refine stp ?_ | refine stpB (fun _ => ?_) (fun _ => ?_)) <;> (conv => cbv)) | exact stpF | fail)
    all_goals exact hk.fin0 rfl rfl (Wk.refl _ _)
theorem rFold_spec (n : Int) (h : Heap) (h0 : -8589934592 ≤ n) (h1 : n < 8589934592) : Does PP 113 [I n] h (Is (I (foldZ n)) h) := by
  obtain ⟨r, hr⟩ : ∃ r, r = foldZ n := ⟨_, rfl⟩
  rw [← hr]
  have hr1 : n < 0 → r = -2 * n - 1 := fun h => by rw [hr, foldZ, if_pos h]
  have hr2 : ¬ n < 0 → r = 2 * n := fun h => by rw [hr, foldZ, if_neg h]
  clear hr
  refine pure0 ?_ rfl rfl h
  refine wlk Tryz.f113 ?_
  unhygienic intros
  obtain ⟨a, ha⟩ : ∃ a, a = n + 1 := ⟨_, rfl⟩
  obtain ⟨na, hna⟩ : ∃ x, x = -a := ⟨_, rfl⟩
  obtain ⟨b, hb⟩ : ∃ x, x = na * 2 := ⟨_, rfl⟩
  obtain ⟨b1, hb1⟩ : ∃ x, x = b + 1 := ⟨_, rfl⟩
  obtain ⟨e, he⟩ : ∃ x, x = n * 2 := ⟨_, rfl⟩
  have t1 : i2 .add .i64 n 1 = a := by rw [ha]; exact hk.add64 _ _ (by omega) (by omega)
  have t2 : u1 .neg .i64 a = na := by rw [hk.u1_neg, hna, show (0 : Int) - a = -a by omega]; exact wrap64 (by omega) (by omega)
  have t3 : i2 .mul .i64 na 2 = b := by rw [hb]; exact hk.mul64 _ _ (by omega) (by omega)
  have t4 : i2 .add .i64 b 1 = b1 := by rw [hb1]; exact hk.add64 _ _ (by omega) (by omega)
  have t5 : i2 .mul .i64 n 2 = e := by rw [he]; exact hk.mul64 _ _ (by omega) (by omega)
  by_cases hn : n < 0
  · have hr1 := hr1 hn
    have : r = b1 := by omega
    subst this
    (conv => cbv)
    repeat' (first | assumption | ((first | rw [t1] | rw [t2] | rw [t3] | rw [t4] | rw [t5] | refine stp ?_ | refine stpB (fun _ => ?_) (fun _ => ?_)) <;> (conv => cbv)) | exact stpF | fail)
    all_goals exact hk.fin0 rfl rfl (Wk.refl _ _)
  · have hr2 := hr2 hn
    have : r = e := by omega
    subst this
    (conv => cbv)
    repeat' (first | assumption | ((first | rw [t1] | rw [t2] | rw [t3] | rw [t4] | rw [t5] | refine stp ?_ | refine stpB (fun _ => ?_) (fun _ => ?_)) <;> (conv => cbv)) | exact stpF | fail)
    all_goals exact hk.fin0 rfl rfl (Wk.refl _ _)
theorem rCode_spec (n k : Int) (h : Heap) (h0 : -8589934592 ≤ n) (h1 : n < 8589934592) (k0 : 0 ≤ k) (k1 : k ≤ 24) : Does PP 83 [I n, I k] h (Is (.tup [.str (strB (rcode n k)), .bool true]) h) := by
  obtain ⟨z0, z1⟩ := foldZ_range h0 h1
  have hfo := fun h => rFold_spec n h h0 h1
  have hpw := fun h => power_spec k h (by omega)
  have hp0 : (0 : Int) < 2 ^ k.toNat := Int.pow_pos (by decide)
  have hpk : (2 : Int) ^ k.toNat ≤ 16777216 := by
    have := Nat.pow_le_pow_right (n := 2) (by decide) (show k.toNat ≤ 24 by omega)
    exact Int.ofNat_le.2 this
  have hq0 : 0 ≤ foldZ n / 2 ^ k.toNat := Int.ediv_nonneg z0 (by omega)
  have hqz : foldZ n / 2 ^ k.toNat ≤ foldZ n := Int.ediv_le_self _ z0
  have hm0 : 0 ≤ foldZ n % 2 ^ k.toNat := Int.emod_nonneg _ (by omega)
  have hm1 : foldZ n % 2 ^ k.toNat < 2 ^ k.toNat := Int.emod_lt_of_pos _ hp0
  by_cases hq : foldZ n / 2 ^ k.toNat < 24
  · have erc : rcode n k = zb (foldZ n / 2 ^ k.toNat) ++ bitsOf (foldZ n % 2 ^ k.toNat).toNat k.toNat := if_pos hq
    rw [erc, strB_append]
    have hz := fun h => rZeros_spec (foldZ n / 2 ^ k.toNat) h hq0 (by omega)
    have hput := fun h => refPut_spec (foldZ n % 2 ^ k.toNat) k h hm0 (by omega) (by omega)
    have hl1 : (strB (zb (foldZ n / 2 ^ k.toNat))).length ≤ 100 := by rw [strB_len, zb_len]; omega
    have hl2 : (strB (bitsOf (foldZ n % 2 ^ k.toNat).toNat k.toNat)).length ≤ 100 := by rw [strB_len, bitsOf_len]; omega
    obtain ⟨A, hA⟩ : ∃ S, S = strB (zb (foldZ n / 2 ^ k.toNat)) := ⟨_, rfl⟩
    obtain ⟨B, hB⟩ : ∃ S, S = strB (bitsOf (foldZ n % 2 ^ k.toNat).toNat k.toNat) := ⟨_, rfl⟩
    simp only [← hA, ← hB] at hz hput hl1 hl2 ⊢
    obtain ⟨C, hC⟩ : ∃ S, S = A ++ B := ⟨_, rfl⟩
    rw [← hC]
    obtain ⟨P, hP⟩ : ∃ P : Int, P = 2 ^ k.toNat := ⟨_, rfl⟩
    simp only [← hP] at *
    obtain ⟨z, hz0⟩ : ∃ P : Int, P = foldZ n := ⟨_, rfl⟩
    simp only [← hz0] at *
    obtain ⟨Q, hQ⟩ : ∃ P' : Int, P' = z / P := ⟨_, rfl⟩
    obtain ⟨M, hM⟩ : ∃ P' : Int, P' = z % P := ⟨_, rfl⟩
    simp only [← hQ, ← hM] at hz hput hq hq0 hqz hm0 hm1
    clear hA hB hP hz0 erc
    refine pure0 ?_ rfl rfl h
    refine wlk Tryz.f83 ?_
    unhygienic intros
    have hP0 : P ≠ 0 := by omega
    have t1 : i2 .quo .i64 z P = Q := by rw [hk.i2_quo, Int.tdiv_eq_ediv_of_nonneg z0, ← hQ, wrap64 (by omega) (by omega)]
    have t2 : i2 .rem .i64 z P = M := by rw [hk.i2_rem, Int.tmod_eq_emod_of_nonneg z0, ← hM]
    have t3 : sap A B = C := by rw [hk.sap_eq, hC]
    have t4 : sln A ≤ 100 := by rw [hk.sln_eq]; omega
    have t5 : sln B ≤ 100 := by rw [hk.sln_eq]; omega
    clear hQ hM hC
    (conv => cbv)
    repeat' (first | assumption | ((first | refine hk.callA (hfo _) ?_ | refine hk.calldA hfo ?_ | refine hk.callA (hpw _) ?_ | refine hk.calldA hpw ?_ | rw [t1] | rw [t2] | refine hk.callA (hz _) ?_ | refine hk.calldA hz ?_ | refine hk.callA (hput _) ?_ | refine hk.calldA hput ?_ | rw [t3] | refine hk.needI (by first | (simp only [rNd, hk.ad_eq, hk.sb_eq]; omega) | (simp [rNd, hk.ad_eq, hk.sb_eq]; omega)) ?_ | refine stp ?_ | refine stpB (fun _ => ?_) (fun _ => ?_)) <;> (conv => cbv)) | exact stpF | fail)
    all_goals exact hk.fin0 rfl rfl (Wk.refl _ _)
  · have erc : rcode n k = zb 24 ++ bitsOf (foldZ n).toNat 34 := if_neg hq
    rw [erc, strB_append]
    have hz := fun h => rZeros_spec 24 h (by decide) (by decide)
    have hput := fun h => refPut_spec (foldZ n) 34 h z0 (by omega) (by decide)
    rw [show (34 : Int).toNat = 34 from rfl] at hput
    have hl1 : (strB (zb 24)).length ≤ 100 := by rw [strB_len, zb_len]; decide
    have hl2 : (strB (bitsOf (foldZ n).toNat 34)).length ≤ 100 := by rw [strB_len, bitsOf_len]; decide
    obtain ⟨A, hA⟩ : ∃ S, S = strB (zb 24) := ⟨_, rfl⟩
    obtain ⟨B, hB⟩ : ∃ S, S = strB (bitsOf (foldZ n).toNat 34) := ⟨_, rfl⟩
    simp only [← hA, ← hB] at hz hput hl1 hl2 ⊢
    obtain ⟨C, hC⟩ : ∃ S, S = A ++ B := ⟨_, rfl⟩
    rw [← hC]
    obtain ⟨P, hP⟩ : ∃ P : Int, P = 2 ^ k.toNat := ⟨_, rfl⟩
    simp only [← hP] at *
    obtain ⟨z, hz0⟩ : ∃ P : Int, P = foldZ n := ⟨_, rfl⟩
    simp only [← hz0] at *
    obtain ⟨Q, hQ⟩ : ∃ P' : Int, P' = z / P := ⟨_, rfl⟩
    simp only [← hQ] at hq hq0 hqz
    clear hA hB hP hz0 erc hm0 hm1
    refine pure0 ?_ rfl rfl h
    refine wlk Tryz.f83 ?_
    unhygienic intros
    have hP0 : P ≠ 0 := by omega
    have t1 : i2 .quo .i64 z P = Q := by rw [hk.i2_quo, Int.tdiv_eq_ediv_of_nonneg z0, ← hQ, wrap64 (by omega) (by omega)]
    have t3 : sap A B = C := by rw [hk.sap_eq, hC]
    have t4 : sln A ≤ 100 := by rw [hk.sln_eq]; omega
    have t5 : sln B ≤ 100 := by rw [hk.sln_eq]; omega
    clear hQ hC
    (conv => cbv)
    repeat' (first | assumption | ((first | refine hk.callA (hfo _) ?_ | refine hk.calldA hfo ?_ | refine hk.callA (hpw _) ?_ | refine hk.calldA hpw ?_ | rw [t1] | refine hk.callA (hz _) ?_ | refine hk.calldA hz ?_ | refine hk.callA (hput _) ?_ | refine hk.calldA hput ?_ | rw [t3] | refine hk.needI (by first | (simp only [rNd, hk.ad_eq, hk.sb_eq]; omega) | (simp [rNd, hk.ad_eq, hk.sb_eq]; omega)) ?_ | refine stp ?_ | refine stpB (fun _ => ?_) (fun _ => ?_)) <;> (conv => cbv)) | exact stpF | fail)
    all_goals exact hk.fin0 rfl rfl (Wk.refl _ _)
end Go.Proofs.YtfjdmgnhklpiiaaGreat
set_option maxHeartbeats 4000000
set_option maxRecDepth 20000
set_option linter.unusedSimpArgs false
set_option linter.unusedVariables false
open Go Go.AL
namespace Go.Proofs.YtfjdmgnhklpiiaaGreat
def pW (l ks : List Int) (m i : Nat) : List Bool := pcodes l ks m (i / m) ++ (if i % m = 0 then [] else bitsOf (ks.getD (i / m) 0).toNat 5 ++ rcodes (ks.getD (i / m) 0) ((partL l m (i / m)).take (i % m)))
theorem partL_get (l : List Int) (m q r : Nat) (hr : r < m) (h : q * m + r < l.length) : r < (partL l m q).length ∧ (partL l m q).getD r 0 = l.getD (q * m + r) 0 := by
  refine ⟨?_, ?_⟩
  · rw [partL, List.length_take, List.length_drop]; omega
  · rw [partL, List.getD_eq_getElem?_getD, List.getElem?_take_of_lt hr, List.getElem?_drop, List.getD_eq_getElem?_getD]
theorem pW_step (l ks : List Int) (m i : Nat) (hm : 1 ≤ m) (hi : i < l.length) :
    pW l ks m (i + 1) = pW l ks m i ++ ((if i % m = 0 then bitsOf (ks.getD (i / m) 0).toNat 5 else []) ++ rcode (l.getD i 0) (ks.getD (i / m) 0)) := by
  have hr : i % m < m := Nat.mod_lt _ hm
  have hqr : i / m * m + i % m = i := by rw [Nat.mul_comm]; exact Nat.div_add_mod i m
  obtain ⟨p1, p2⟩ := partL_get l m (i / m) (i % m) hr (by rw [hqr]; exact hi)
  rw [hqr] at p2
  have hstep := rcodes_step (ks.getD (i / m) 0) (partL l m (i / m)) (i % m) p1
  rw [p2] at hstep
  by_cases hlast : i % m + 1 = m
  · have h1 : (i + 1) / m = i / m + 1 := by
      have : i + 1 = (i / m + 1) * m := by rw [Nat.succ_mul]; omega
      rw [this, Nat.mul_div_cancel _ (by omega)]
    have h2 : (i + 1) % m = 0 := by
      have : i + 1 = (i / m + 1) * m := by rw [Nat.succ_mul]; omega
      rw [this, Nat.mul_mod_left]
    have hfull : (partL l m (i / m)).take (i % m + 1) = partL l m (i / m) := List.take_of_length_le (by rw [partL, List.length_take]; omega)
    rw [hfull] at hstep
    unfold pW
    rw [h1, h2, if_pos rfl, List.append_nil, pcodes, pcode, hstep]
    by_cases h0 : i % m = 0
    · rw [if_pos h0, if_pos h0, h0, List.take_zero]
      simp [rcodes]
    · rw [if_neg h0, if_neg h0]
      simp only [List.append_assoc, List.nil_append]
  · have h1 : (i + 1) / m = i / m := by
      have : i + 1 = (i % m + 1) + i / m * m := by omega
      rw [this, Nat.add_mul_div_right _ _ (by omega), Nat.div_eq_of_lt (by omega), Nat.zero_add]
    have h2 : (i + 1) % m = i % m + 1 := by
      have : i + 1 = (i % m + 1) + i / m * m := by omega
      rw [this, Nat.add_mul_mod_self_right, Nat.mod_eq_of_lt (by omega)]
    unfold pW
    rw [h1, h2, if_neg (by omega), hstep]
    by_cases h0 : i % m = 0
    · rw [if_pos h0, if_pos h0, h0, List.take_zero]
      simp [rcodes]
    · rw [if_neg h0, if_neg h0]
      simp only [List.append_assoc, List.nil_append]
theorem rslput_spec (l : List Int) (p : Int) (ks : List Int) (h : Heap) (hl1 : 1 ≤ l.length) (hl : l.length ≤ 1024) (hp : partsB (l.length : Nat) p ks = true) (hf : l.any farP = false) :
    Does PP 44 [LI l, .agg [I p, LI ks]] h (Is (.tup [.str (strB (bitsOf p.toNat 2 ++ pcodes l ks (l.length / 2 ^ p.toNat) ks.length)), .bool true]) h) := by
  have hg1 := hp
  unfold partsB at hg1
  simp only [Bool.and_eq_true, decide_eq_true_eq] at hg1
  obtain ⟨⟨w1, w2⟩, w3⟩ := hg1
  obtain ⟨_, _, p0, p3, pm⟩ := whole_iff.1 w1
  rw [allP_iff] at w3
  have hp8 : ∀ k : Nat, k ≤ 3 → (1 : Int) ≤ 2 ^ k ∧ (2 : Int) ^ k ≤ 8 := by decide
  obtain ⟨q1, q8⟩ := hp8 p.toNat (by omega)
  have hgd := fun h => rgoodP_spec (l.length : Nat) p ks h (by omega)
  rw [hp] at hgd
  have hls := fun h => rlist_spec l h (by omega)
  have hlB : listB l = true := by
    unfold listB
    rw [Bool.and_eq_true, Bool.and_eq_true, decide_eq_true_eq, decide_eq_true_eq, allP_iff]
    refine ⟨⟨hl1, hl⟩, fun i hi => ?_⟩
    rw [List.any_eq_false] at hf
    have := hf (l.getD i 0) (mem_getD.2 ⟨i, hi, rfl⟩)
    simpa using this
  rw [hlB] at hls
  have hput := fun h => refPut_spec p 2 h p0 (by omega) (by decide)
  rw [show (2 : Int).toNat = 2 from rfl] at hput
  obtain ⟨P, hP⟩ : ∃ P : Nat, P = 2 ^ p.toNat := ⟨_, rfl⟩
  have hPi : (2 : Int) ^ p.toNat = (P : Int) := by rw [hP]; simp
  rw [hPi] at w2 q1 q8 pm
  have hkl : ks.length = P := by omega
  have hdvd : l.length / P * P = l.length := by
    rw [Int.tmod_eq_emod_of_nonneg (by omega), ← Int.natCast_emod] at pm
    exact Nat.div_mul_cancel (Nat.dvd_of_mod_eq_zero (by omega))
  have hm1 : 1 ≤ l.length / P := by
    rcases Nat.eq_zero_or_pos (l.length / P) with h0 | h0
    · rw [h0] at hdvd; omega
    · exact h0
  rw [← hP]
  obtain ⟨m, hm⟩ : ∃ m, m = l.length / P := ⟨_, rfl⟩
  rw [← hm] at hdvd hm1
  rw [← hm]
  obtain ⟨S, hS⟩ : ∃ S : Int → List UInt8, ∀ i, S i = strB (bitsOf p.toNat 2 ++ pW l ks m i.toNat) := ⟨_, fun _ => rfl⟩
  have hS0 : strB (bitsOf p.toNat 2) = S 0 := by rw [hS]; simp [pW, pcodes]
  have hSN : strB (bitsOf p.toNat 2 ++ pcodes l ks m ks.length) = S (l.length : Nat) := by
    rw [hS, pW, Int.toNat_natCast, ← hdvd, Nat.mul_div_cancel_left _ (show 0 < m by omega), Nat.mul_mod_right, if_pos rfl, List.append_nil, hkl]
  rw [hSN]
  simp only [hS0] at hput
  have hks : ∀ i, i < ks.length → 0 ≤ ks.getD i 0 ∧ ks.getD i 0 ≤ 24 := fun i hi => by
    have := w3 i hi
    simp only [kP, Bool.or_eq_false_iff, decide_eq_false_iff_not] at this
    omega
  have hfar : ∀ i, i < l.length → -8589934592 ≤ l.getD i 0 ∧ l.getD i 0 < 8589934592 := fun i hi => by
    rw [List.any_eq_false] at hf
    have := hf (l.getD i 0) (mem_getD.2 ⟨i, hi, rfl⟩)
    rw [farP, Bool.or_eq_true, decide_eq_true_eq, decide_eq_true_eq] at this
    omega
  have hSl : ∀ i : Nat, i ≤ l.length → (strB (bitsOf p.toNat 2 ++ pW l ks m i)).length ≤ 2 + 64 * i := fun i => by
    induction i with
    | zero => intro _; simp [pW, pcodes, strB_len, bitsOf_len]
    | succ i ih =>
      intro hi
      have ih := ih (by omega)
      rw [strB_len, List.length_append] at ih ⊢
      rw [pW_step l ks m i hm1 (by omega), List.length_append, List.length_append]
      have hq : i / m < ks.length := by
        rw [hkl]
        exact (Nat.div_lt_iff_lt_mul (by omega)).2 (by rw [Nat.mul_comm]; omega)
      have := rcode_len (l.getD i 0) (ks.getD (i / m) 0) (hfar i (by omega)).1 (hfar i (by omega)).2 (hks _ hq).2
      have h5 : (if i % m = 0 then bitsOf (ks.getD (i / m) 0).toNat 5 else []).length ≤ 5 := by split <;> simp [bitsOf_len]
      omega
  obtain ⟨N, hN⟩ : ∃ N : Int, N = (l.length : Nat) := ⟨_, rfl⟩
  obtain ⟨K, hK⟩ : ∃ N : Int, N = (ks.length : Nat) := ⟨_, rfl⟩
  obtain ⟨M, hM⟩ : ∃ N : Int, N = (m : Nat) := ⟨_, rfl⟩
  have hstep : ∀ i : Int, 0 ≤ i → i < N → ∃ (k : Int) (A B : List UInt8), ks.getD (i / M).toNat 0 = k ∧ 0 ≤ i / M ∧ i / M < K ∧ A.length ≤ 100 ∧ B.length ≤ 100 ∧ (S i).length ≤ 100000 ∧ (∀ h, Does PP 42 [I k, I 5] h (Is (.str A) h)) ∧
      (∀ h, Does PP 83 [I (l.getD i.toNat 0), I k] h (Is (.tup [.str B, .bool true]) h)) ∧ ((i % M = 0 ∧ S i ++ A ++ B = S (i + 1)) ∨ (¬ i % M = 0 ∧ S i ++ B = S (i + 1))) := fun i i0 i1 => by
    obtain ⟨j, hj⟩ : ∃ j : Nat, i = j := ⟨i.toNat, by omega⟩
    subst hj
    have hjl : j < l.length := by omega
    have hq : j / m < ks.length := by
      rw [hkl]
      exact (Nat.div_lt_iff_lt_mul (by omega)).2 (by rw [Nat.mul_comm]; omega)
    obtain ⟨k0, k1⟩ := hks _ hq
    obtain ⟨f0, f1⟩ := hfar j hjl
    have e1 : ((j : Int) / M).toNat = j / m := by rw [hM, ← Int.natCast_ediv, Int.toNat_natCast]
    have e2 : (j : Int) % M = ((j % m : Nat) : Int) := by rw [hM, ← Int.natCast_emod]
    refine ⟨ks.getD (j / m) 0, strB (bitsOf (ks.getD (j / m) 0).toNat 5), strB (rcode (l.getD j 0) (ks.getD (j / m) 0)), by rw [e1], ?_, ?_, by rw [strB_len, bitsOf_len]; decide, ?_, ?_, fun h => ?_, fun h => ?_, ?_⟩
    · rw [hM]; exact Int.ediv_nonneg (by omega) (by omega)
    · rw [hM, ← Int.natCast_ediv]; omega
    · rw [strB_len]
      have := rcode_len (l.getD j 0) (ks.getD (j / m) 0) f0 f1 k1
      omega
    · rw [hS, Int.toNat_natCast]
      have := hSl j (by omega)
      omega
    · have := refPut_spec (ks.getD (j / m) 0) 5 h k0 (by omega) (by decide)
      exact this
    · exact rCode_spec (l.getD j 0) (ks.getD (j / m) 0) h f0 f1 k0 k1
    · have hst := pW_step l ks m j hm1 hjl
      rw [e2, hS, hS, Int.toNat_natCast, show ((j : Int) + 1).toNat = j + 1 by omega, hst]
      by_cases h0 : j % m = 0
      · left
        refine ⟨by omega, ?_⟩
        rw [if_pos h0]
        simp only [strB_append, List.append_assoc]
      · right
        refine ⟨by omega, ?_⟩
        rw [if_neg h0, List.nil_append]
        simp only [strB_append, List.append_assoc]
  have hNK : N / K = M := by
    rw [hN, hK, hM, hm, hkl, ← Int.natCast_ediv]
  have hN1 : 1 ≤ N ∧ N ≤ 1024 := by omega
  have hM1 : 1 ≤ M := by omega
  have hK1 : 1 ≤ K := by omega
  have hlens : ((l.length : Nat) : Int) = N ∧ ((ks.length : Nat) : Int) = K := ⟨hN.symm, hK.symm⟩
  rw [hlens.1]
  rw [hlens.1] at hgd
  clear hS hS0 hSN hSl hfar hks hM hm hkl hdvd hm1 hP hPi w1 w2 w3 pm hp hlB hf q1 q8
  refine pure0 ?_ rfl rfl h
  refine wlk Tryz.f44 ?_
  unhygienic intros
  have e1 : lnI l = N := by rw [hk.lnI_eq]; exact hlens.1
  have e2 : lnI ks = K := by rw [hk.lnI_eq]; exact hlens.2
  have e3 : i2 .quo .i64 N K = M := by rw [hk.i2_quo, Int.tdiv_eq_ediv_of_nonneg (by omega), hNK, wrap64 (by omega) (by have := Int.ediv_le_self (a := N) K (by omega); omega)]
  have hK0 : K ≠ 0 := by omega
  have hM0 : M ≠ 0 := by omega
  have hgl := hk.gtI_eq l
  have hgk := hk.gtI_eq ks
  clear hN hK hlens hNK
  (conv => cbv)
  repeat' (first | assumption | ((first | rw [e1] | rw [e2] | rw [e3] | refine hk.callA (hgd _) ?_ | refine hk.calldA hgd ?_ | refine hk.callA (hls _) ?_ | refine hk.calldA hls ?_ | refine hk.callA (hput _) ?_ | refine hk.calldA hput ?_ | refine stp ?_ | refine stpB (fun _ => ?_) (fun _ => ?_)) <;> (conv => cbv)) | exact stpF | fail)
  refine hk.loopI (loop_rule (α := Int) (fun i => [(0, .ls (.il .i64 l) .any), (3, .ptr 0 0), (4, .str []), (5, .bool false), (6, .str (S i)), (7, .int .i64 M), (32, .int .i64 N), (33, .int .i64 i)]) (fun _ => [.box [.int .i64 p, .ls (.il .i64 ks) .any]])
    (fun i => 0 ≤ i ∧ i ≤ N) (fun i => (N - i).toNat) 0 ⟨by omega, by omega⟩ ?_ ?_)
  · exact Gh.tm (by repeat (first | exact Holds.nil _ _ | refine Holds.cons (Wk.refl _ _) ?_))
  intro i ⟨hi, hi2⟩ Q' hb hx hr
  by_cases hin : i < N
  · obtain ⟨k, A, B, c1, c2, c3, c4, c5, c6, hpk, hcd, hc⟩ := hstep i hi hin
    obtain ⟨x, hx0⟩ : ∃ x, x = gtI l i := ⟨_, rfl⟩
    rw [← hgl, ← hx0] at hcd
    obtain ⟨q, hq⟩ : ∃ x, x = i / M := ⟨_, rfl⟩
    rw [← hq] at c1 c2 c3
    obtain ⟨r, hr0⟩ : ∃ x, x = i % M := ⟨_, rfl⟩
    rw [← hr0] at hc
    have t1 : i2 .quo .i64 i M = q := by
      rw [hk.i2_quo, Int.tdiv_eq_ediv_of_nonneg hi, ← hq, wrap64 (by omega) (by have := Int.ediv_le_self (a := i) M hi; omega)]
    have t2 : i2 .rem .i64 i M = r := by rw [hk.i2_rem, Int.tmod_eq_emod_of_nonneg hi, ← hr0]
    have t3 : gtI ks q = k := by rw [hgk]; exact c1
    have t4 : sln (S i) ≤ 100000 := by rw [hk.sln_eq]; omega
    have t5 : sln A ≤ 100 := by rw [hk.sln_eq]; omega
    have t6 : sln B ≤ 100 := by rw [hk.sln_eq]; omega
    obtain ⟨S0, hS0⟩ : ∃ x, x = S i := ⟨_, rfl⟩
    obtain ⟨S1, hS1⟩ : ∃ x, x = S (i + 1) := ⟨_, rfl⟩
    rw [← hS0, ← hS1] at hc
    rw [← hS0] at t4
    rw [← hS0]
    rcases hc with ⟨h0, hc⟩ | ⟨h0, hc⟩
    · obtain ⟨SA, hSA⟩ : ∃ x, x = S0 ++ A := ⟨_, rfl⟩
      rw [← hSA] at hc
      have t7 : sap S0 A = SA := by rw [hk.sap_eq, hSA]
      have t8 : sap SA B = S1 := by rw [hk.sap_eq, hc]
      have t9 : sln SA ≤ 100100 := by rw [hk.sln_eq, hSA, List.length_append]; rw [hk.sln_eq] at t4 t5; omega
      clear hc hSA
      subst h0
      (conv => cbv)
      repeat' (first | assumption | ((first | rw [e2] | rw [t1] | rw [t2] | refine hk.idxI c2 c3 ?_ | rw [t3] | refine hk.callA (hpk _) ?_ | refine hk.calldA hpk ?_ | rw [t7] | refine hk.needI (by first | (simp only [rNd, hk.ad_eq, hk.sb_eq]; omega) | (simp [rNd, hk.ad_eq, hk.sb_eq]; omega)) ?_ | refine hk.idxI hi (by rw [e1]; exact hin) ?_ | refine hk.idxI hi hin ?_ | rw [← hx0] | refine hk.callA (hcd _) ?_ | refine hk.calldA hcd ?_ | rw [t8] | refine stp ?_ | refine stpB (fun _ => ?_) (fun _ => ?_)) <;> (conv => cbv)) | exact stpF | fail)
      refine hb (i + 1) _ ⟨by omega, by omega⟩ (by omega) ?_
      rw [← hS1]
      refine Gh.tm ?_
      repeat' (first | exact Holds.nil _ _ | refine Holds.cons (Wk.refl _ _) ?_ | refine Holds.cons (Wk.of_eq ?_) ?_)
      all_goals first
        | (rw [← hk.add64 i 1 (by omega) (by omega)]; rfl)
        | rfl
        | skip
    · have t8 : sap S0 B = S1 := by rw [hk.sap_eq, hc]
      clear hc
      (conv => cbv)
      repeat' (first | assumption | ((first | rw [e2] | rw [t1] | rw [t2] | refine hk.idxI c2 c3 ?_ | rw [t3] | refine hk.needI (by first | (simp only [rNd, hk.ad_eq, hk.sb_eq]; omega) | (simp [rNd, hk.ad_eq, hk.sb_eq]; omega)) ?_ | refine hk.idxI hi (by rw [e1]; exact hin) ?_ | refine hk.idxI hi hin ?_ | rw [← hx0] | refine hk.callA (hcd _) ?_ | refine hk.calldA hcd ?_ | rw [t8] | refine stp ?_ | refine stpB (fun _ => ?_) (fun _ => ?_)) <;> (conv => cbv)) | exact stpF | fail)
      refine hb (i + 1) _ ⟨by omega, by omega⟩ (by omega) ?_
      rw [← hS1]
      refine Gh.tm ?_
      repeat' (first | exact Holds.nil _ _ | refine Holds.cons (Wk.refl _ _) ?_ | refine Holds.cons (Wk.of_eq ?_) ?_)
      all_goals first
        | (rw [← hk.add64 i 1 (by omega) (by omega)]; rfl)
        | rfl
        | skip
  · have : i = N := by omega
    subst this
    (conv => cbv)
    repeat' (first | assumption | ((first | refine hx _ _ ?_ | refine stp ?_ | refine stpB (fun _ => ?_) (fun _ => ?_)) <;> (conv => cbv)) | exact stpF | fail)
    all_goals exact hk.fin0 rfl rfl (Wk.refl _ _)
end Go.Proofs.YtfjdmgnhklpiiaaGreat
set_option maxHeartbeats 4000000
set_option maxRecDepth 20000
set_option linter.unusedSimpArgs false
set_option linter.unusedVariables false
open Go Go.AL
namespace Go.Proofs.YtfjdmgnhklpiiaaGreat
theorem rput_plain (kd vl sh : Int) (ix : List Int) (lg gn pt : Int) (rc da : List Int) (d : Int) (h : Heap) (hkd : kd = 0 ∨ kd = 1 ∨ kd = 3) (h3 : 8 ≤ d) (h4 : d ≤ 26)
    (hv : kd = 1 → -2 ^ (d - 1).toNat ≤ vl ∧ vl < 2 ^ (d - 1).toNat) (hda : kd = 3 → ∀ i, i < da.length → -2 ^ (d - 1).toNat ≤ da.getD i 0 ∧ da.getD i 0 < 2 ^ (d - 1).toNat) (hdl : da.length ≤ 1024) :
    Does PP 14 [.agg [I kd, I vl, I sh, LI ix, I lg, I gn, I pt, LI rc, LI da], I d] h (Is (.str (strB (pbits kd vl da d))) h) := by
  have hp := fun h => refPut_spec kd 2 h (by omega) (by omega) (by decide)
  rw [show (2 : Int).toNat = 2 from rfl] at hp
  refine pure0 ?_ rfl rfl h
  rcases hkd with e | e | e
  · subst e
    have e0 : pbits 0 vl da d = bitsOf (0 : Int).toNat 2 := by rw [pbits, if_neg (by decide), if_neg (by decide), List.append_nil]
    rw [e0]
    obtain ⟨S, hS⟩ : ∃ S, S = strB (bitsOf (0 : Int).toNat 2) := ⟨_, rfl⟩
    simp only [← hS] at hp ⊢
    clear hS e0 hv hda
    refine wlk Tryz.f14 ?_
    unhygienic intros
    (conv => cbv)
    repeat' (first | assumption | ((first | refine hk.callA (hp _) ?_ | refine hk.calldA hp ?_ | refine stp ?_ | refine stpB (fun _ => ?_) (fun _ => ?_)) <;> (conv => cbv)) | exact stpF | fail)
    all_goals exact hk.fin0 rfl rfl (Wk.refl _ _)
  · subst e
    have e0 : strB (pbits 1 vl da d) = strB (bitsOf (1 : Int).toNat 2) ++ strB (sb vl d) := by rw [pbits, if_pos rfl, strB_append]
    have hsg := fun h => rSigned_spec vl d h (by omega) (by omega) (hv rfl).1 (hv rfl).2
    have hl1 : (strB (bitsOf (1 : Int).toNat 2)).length ≤ 100 := by rw [strB_len, bitsOf_len]; decide
    have hl2 : (strB (sb vl d)).length ≤ 100 := by rw [strB_len, sb_len]; omega
    obtain ⟨S, hS⟩ : ∃ S, S = strB (bitsOf (1 : Int).toNat 2) := ⟨_, rfl⟩
    obtain ⟨B, hB⟩ : ∃ S, S = strB (sb vl d) := ⟨_, rfl⟩
    obtain ⟨C, hC⟩ : ∃ S, S = strB (pbits 1 vl da d) := ⟨_, rfl⟩
    rw [← hS, ← hB, ← hC] at e0
    simp only [← hS, ← hB, ← hC] at hp hsg hl1 hl2 ⊢
    clear hS hB hC hv hda
    refine wlk Tryz.f14 ?_
    unhygienic intros
    have t1 : sap S B = C := by rw [hk.sap_eq, e0]
    have t2 : sln S ≤ 100 := by rw [hk.sln_eq]; omega
    have t3 : sln B ≤ 100 := by rw [hk.sln_eq]; omega
    clear e0
    (conv => cbv)
    repeat' (first | assumption | ((first | refine hk.callA (hp _) ?_ | refine hk.calldA hp ?_ | refine hk.callA (hsg _) ?_ | refine hk.calldA hsg ?_ | rw [t1] | refine hk.needI (by first | (simp only [rNd, hk.ad_eq, hk.sb_eq]; omega) | (simp [rNd, hk.ad_eq, hk.sb_eq]; omega)) ?_ | refine stp ?_ | refine stpB (fun _ => ?_) (fun _ => ?_)) <;> (conv => cbv)) | exact stpF | fail)
    all_goals exact hk.fin0 rfl rfl (Wk.refl _ _)
  · subst e
    obtain ⟨S, hS⟩ : ∃ S : Int → List UInt8, ∀ i, S i = strB (bitsOf (3 : Int).toNat 2) ++ strB (sbs d (da.take i.toNat)) := ⟨_, fun _ => rfl⟩
    have hS0 : strB (bitsOf (3 : Int).toNat 2) = S 0 := by rw [hS]; simp [sbs, strB]
    obtain ⟨N, hN⟩ : ∃ N : Int, N = (da.length : Nat) := ⟨_, rfl⟩
    have hSN : strB (pbits 3 vl da d) = S N := by
      rw [hS, hN, Int.toNat_natCast, List.take_length, pbits, if_neg (by decide), if_pos rfl, strB_append]
    have hSl : ∀ i : Int, 0 ≤ i → i ≤ N → (S i).length ≤ 100000 := fun i a b => by
      rw [hS, List.length_append, strB_len, strB_len, bitsOf_len, sbs_len, List.length_take]
      have : d.toNat * min i.toNat da.length ≤ 26 * 1024 := Nat.mul_le_mul (by omega) (by omega)
      omega
    have hst : ∀ i : Int, 0 ≤ i → i < N → ∃ B : List UInt8, B.length ≤ 100 ∧ (∀ h, Does PP 43 [I (da.getD i.toNat 0), I d] h (Is (.str B) h)) ∧ S i ++ B = S (i + 1) := fun i a b => by
      obtain ⟨u, v⟩ := hda rfl i.toNat (by omega)
      refine ⟨strB (sb (da.getD i.toNat 0) d), by rw [strB_len, sb_len]; omega, fun h => rSigned_spec _ d h (by omega) (by omega) u v, ?_⟩
      rw [hS, hS, show (i + 1).toNat = i.toNat + 1 by omega, sbs_step d da _ (by omega), strB_append, List.append_assoc]
    rw [hSN]
    simp only [hS0] at hp
    clear hS hS0 hSN hv hda
    refine wlk Tryz.f14 ?_
    unhygienic intros
    have hln : lnI da = N := by rw [hk.lnI_eq]; omega
    have hgt := hk.gtI_eq da
    (conv => cbv)
    repeat' (first | assumption | ((first | rw [hln] | refine hk.callA (hp _) ?_ | refine hk.calldA hp ?_ | refine stp ?_ | refine stpB (fun _ => ?_) (fun _ => ?_)) <;> (conv => cbv)) | exact stpF | fail)
    refine hk.loopI (loop_rule (α := Int) (fun i => [(1, .int .i64 d), (2, .ptr 0 0), (4, .str []), (5, .str (S i)), (27, .int .i64 N), (28, .int .i64 i)]) (fun _ => [.box [.int .i64 3, .int .i64 vl, .int .i64 sh, .ls (.il .i64 ix) .any, .int .i64 lg, .int .i64 gn, .int .i64 pt, .ls (.il .i64 rc) .any, .ls (.il .i64 da) .any]])
      (fun i => 0 ≤ i ∧ i ≤ N) (fun i => (N - i).toNat) 0 ⟨by omega, by omega⟩ ?_ ?_)
    · exact Gh.tm (by repeat (first | exact Holds.nil _ _ | refine Holds.cons (Wk.refl _ _) ?_))
    intro i ⟨hi, hi2⟩ Q' hb hx hr
    by_cases hin : i < N
    · obtain ⟨B, c1, hsg, c2⟩ := hst i hi hin
      obtain ⟨x, hx0⟩ : ∃ x, x = gtI da i := ⟨_, rfl⟩
      rw [← hgt, ← hx0] at hsg
      have hSl := hSl i hi (by omega)
      obtain ⟨S0, hS0⟩ : ∃ x, x = S i := ⟨_, rfl⟩
      obtain ⟨S1, hS1⟩ : ∃ x, x = S (i + 1) := ⟨_, rfl⟩
      rw [← hS0, ← hS1] at c2
      rw [← hS0] at hSl
      rw [← hS0]
      have t1 : sap S0 B = S1 := by rw [hk.sap_eq, c2]
      have t2 : sln S0 ≤ 100000 := by rw [hk.sln_eq]; omega
      have t3 : sln B ≤ 100 := by rw [hk.sln_eq]; omega
      (conv => cbv)
      repeat' (first | assumption | ((first | rw [hln] | refine hk.idxI hi hin ?_ | refine hk.idxI hi (by rw [hln]; exact hin) ?_ | rw [← hx0] | refine hk.callA (hsg _) ?_ | refine hk.calldA hsg ?_ | rw [t1] | refine hk.needI (by first | (simp only [rNd, hk.ad_eq, hk.sb_eq]; omega) | (simp [rNd, hk.ad_eq, hk.sb_eq]; omega)) ?_ | refine stp ?_ | refine stpB (fun _ => ?_) (fun _ => ?_)) <;> (conv => cbv)) | exact stpF | fail)
      refine hb (i + 1) _ ⟨by omega, by omega⟩ (by omega) ?_
      rw [← hS1]
      refine Gh.tm ?_
      repeat' (first | exact Holds.nil _ _ | refine Holds.cons (Wk.refl _ _) ?_ | refine Holds.cons (Wk.of_eq ?_) ?_)
      all_goals first
        | (rw [← hk.add64 i 1 (by omega) (by omega)]; rfl)
        | rfl
        | skip
    · have : i = N := by omega
      subst this
      (conv => cbv)
      repeat' (first | assumption | ((first | refine hx _ _ ?_ | refine stp ?_ | refine stpB (fun _ => ?_) (fun _ => ?_)) <;> (conv => cbv)) | exact stpF | fail)
      all_goals exact hk.fin0 rfl rfl (Wk.refl _ _)
theorem rputT_spec (vl sh : Int) (ix : List Int) (lg gn pt : Int) (rc da : List Int) (n d : Int) (h : Heap) (hf : formE 2 vl sh ix lg gn pt rc da n d = 0) (hd : d ≤ 26) (hn1 : 1 ≤ n) (hn : n ≤ 1024) (hrl : rc.length ≤ 9223372036854775807) :
    Does PP 14 [.agg [I 2, I vl, I sh, LI ix, I lg, I gn, I pt, LI rc, LI da], I d] h (Is (.str (strB (nbits sh ix lg gn pt rc da))) h) := by
  obtain ⟨f1, f2, f3, f4, f5, f6, f7⟩ := form_two hf hd hn
  obtain ⟨_, g1, g2⟩ := form_two2 hf
  rw [← f7] at g1
  have hsl := fun h => rslput_spec da pt rc h (by omega) f6 g1 g2
  have htb : (lg = 0 ∧ gn = 0) ∨ (1 ≤ lg ∧ lg ≤ 255 ∧ 1 ≤ gn ∧ gn ≤ 15) := by simpa [termB] using f4
  have hpa := fun h => rparts_spec 2 vl sh ix lg gn pt rc da h
  have hp0 := fun h => refPut_spec 2 2 h (by decide) (by decide) (by decide)
  have hp1 := fun h => refPut_spec sh 5 h f1 (by omega) (by decide)
  have hp2 := fun h => refPut_spec (ix.length : Nat) 5 h (by omega) (by have := f3.1; omega) (by decide)
  have hp3 := fun h => refPut_spec lg 8 h (by omega) (by omega) (by decide)
  have hp4 := fun h => refPut_spec gn 4 h (by omega) (by omega) (by decide)
  obtain ⟨A0, hA0⟩ : ∃ S, S = strB (bitsOf (2 : Int).toNat (2 : Int).toNat) := ⟨_, rfl⟩
  obtain ⟨A1, hA1⟩ : ∃ S, S = strB (bitsOf sh.toNat (5 : Int).toNat) := ⟨_, rfl⟩
  obtain ⟨A2, hA2⟩ : ∃ S, S = strB (bitsOf ((ix.length : Nat) : Int).toNat (5 : Int).toNat) := ⟨_, rfl⟩
  obtain ⟨A3, hA3⟩ : ∃ S, S = strB (bitsOf lg.toNat (8 : Int).toNat) := ⟨_, rfl⟩
  obtain ⟨A4, hA4⟩ : ∃ S, S = strB (bitsOf gn.toNat (4 : Int).toNat) := ⟨_, rfl⟩
  obtain ⟨D, hD⟩ : ∃ S, S = strB (bitsOf pt.toNat 2 ++ pcodes da rc (da.length / 2 ^ pt.toNat) rc.length) := ⟨_, rfl⟩
  obtain ⟨N, hN⟩ : ∃ N : Int, N = (ix.length : Nat) := ⟨_, rfl⟩
  simp only [← hA0] at hp0
  simp only [← hA1] at hp1
  simp only [← hA2] at hp2
  simp only [← hA3] at hp3
  simp only [← hA4] at hp4
  simp only [← hD] at hsl
  simp only [← hN] at hp2
  have hl0 : A0.length ≤ 100 ∧ A1.length ≤ 100 ∧ A2.length ≤ 100 ∧ A3.length ≤ 100 ∧ A4.length ≤ 100 := by
    rw [hA0, hA1, hA2, hA3, hA4, strB_len, strB_len, strB_len, strB_len, strB_len, bitsOf_len, bitsOf_len, bitsOf_len, bitsOf_len, bitsOf_len]
    decide
  have hDl : D.length ≤ 10000000 := by
    rw [hD, strB_len, List.length_append, bitsOf_len]
    have g1' := g1
    unfold partsB at g1'
    simp only [Bool.and_eq_true, decide_eq_true_eq] at g1'
    obtain ⟨⟨w1, w2⟩, w3⟩ := g1'
    obtain ⟨_, _, p0, p3, _⟩ := whole_iff.1 w1
    rw [allP_iff] at w3
    have hks : ∀ i, i < rc.length → rc.getD i 0 ≤ 24 := fun i hi => by
      have := w3 i hi
      simp only [kP, Bool.or_eq_false_iff, decide_eq_false_iff_not] at this
      omega
    have hfar : ∀ x ∈ da, -8589934592 ≤ x ∧ x < 8589934592 := fun x hx => by
      rw [List.any_eq_false] at g2
      have := g2 x hx
      rw [farP, Bool.or_eq_true, decide_eq_true_eq, decide_eq_true_eq] at this
      omega
    have hrc8 : rc.length ≤ 8 := by
      have : ∀ k : Nat, k ≤ 3 → (2 : Int) ^ k ≤ 8 := by decide
      have := this pt.toNat (by omega)
      omega
    have h1 := pcodes_len da rc (da.length / 2 ^ pt.toNat) hks hfar rc.length (Nat.le_refl _)
    have hs1024 : da.length / 2 ^ pt.toNat ≤ 1024 := Nat.le_trans (Nat.div_le_self _ _) f6
    have h2 : rc.length * (5 + 59 * (da.length / 2 ^ pt.toNat)) ≤ 8 * (5 + 59 * 1024) := Nat.mul_le_mul (by omega) (by omega)
    omega
  obtain ⟨T, hT⟩ : ∃ T : Int → List UInt8, ∀ i, T i = A0 ++ A1 ++ A2 ++ strB (sbs 7 (ix.take i.toNat)) := ⟨_, fun _ => rfl⟩
  have hT0 : A0 ++ A1 ++ A2 = T 0 := by rw [hT]; simp [sbs, strB]
  have hTl : ∀ i : Int, 0 ≤ i → i ≤ N → (T i).length ≤ 100000 := fun i a b => by
    rw [hT, List.length_append, List.length_append, List.length_append, strB_len, sbs_len, List.length_take]
    have : (7 : Int).toNat * min i.toNat ix.length ≤ 7 * 16 := Nat.mul_le_mul (by decide) (by have := f3.1; omega)
    omega
  have hst : ∀ i : Int, 0 ≤ i → i < N → ∃ B : List UInt8, B.length ≤ 100 ∧ (∀ h, Does PP 43 [I (ix.getD i.toNat 0), I 7] h (Is (.str B) h)) ∧ T i ++ B = T (i + 1) := fun i a b => by
    have h64 : (2 : Int) ^ (Int.toNat (7 - 1)) = 64 := by decide
    have := f3.2 i.toNat (by omega)
    refine ⟨strB (sb (ix.getD i.toNat 0) 7), by rw [strB_len, sb_len]; decide, fun h => rSigned_spec _ 7 h (by decide) (by decide) (by omega) (by omega), ?_⟩
    rw [hT, hT, show (i + 1).toNat = i.toNat + 1 by omega, sbs_step 7 ix _ (by omega), strB_append]
    simp only [List.append_assoc]
  have hR : (lg = 0 ∧ strB (nbits sh ix lg gn pt rc da) = T N ++ [48] ++ D) ∨ (¬ lg = 0 ∧ strB (nbits sh ix lg gn pt rc da) = T N ++ [49] ++ A3 ++ A4 ++ D) := by
    have hTN : T N = A0 ++ A1 ++ A2 ++ strB (sbs 7 ix) := by rw [hT, hN, Int.toNat_natCast, List.take_length]
    by_cases h0 : lg = 0
    · left
      refine ⟨h0, ?_⟩
      rw [hTN, nbits, nhead, lagbits, if_pos h0, hA0, hA1, hA2, hD]
      simp only [strB_append, List.append_assoc, Int.toNat_natCast]
      rfl
    · right
      refine ⟨h0, ?_⟩
      rw [hTN, nbits, nhead, lagbits, if_neg h0, hA0, hA1, hA2, hA3, hA4, hD]
      simp only [strB_append, List.append_assoc, Int.toNat_natCast]
      rfl
  obtain ⟨R, hR0⟩ : ∃ R, R = strB (nbits sh ix lg gn pt rc da) := ⟨_, rfl⟩
  rw [← hR0] at hR
  rw [← hR0]
  obtain ⟨A01, hA01⟩ : ∃ x, x = A0 ++ A1 := ⟨_, rfl⟩
  rw [← hA01] at hT0
  have hl01 : A01.length ≤ 200 := by rw [hA01, List.length_append]; omega
  have hN16 : N ≤ 16 := by have := f3.1; omega
  clear hT hR0 hA0 hA1 hA2 hA3 hA4 hD f3 f4 f5 g1 g2 hf
  refine pure0 ?_ rfl rfl h
  refine wlk Tryz.f14 ?_
  unhygienic intros
  have hln : lnI ix = N := by rw [hk.lnI_eq]; omega
  have hgt := hk.gtI_eq ix
  have s01 : sap A0 A1 = A01 := by rw [hk.sap_eq, hA01]
  have s02 : sap A01 A2 = T 0 := by rw [hk.sap_eq, hT0]
  have n0 : sln A0 ≤ 100 := by rw [hk.sln_eq]; omega
  have n1 : sln A1 ≤ 100 := by rw [hk.sln_eq]; omega
  have n2 : sln A2 ≤ 100 := by rw [hk.sln_eq]; omega
  have n3 : sln A3 ≤ 100 := by rw [hk.sln_eq]; omega
  have n4 : sln A4 ≤ 100 := by rw [hk.sln_eq]; omega
  have n01 : sln A01 ≤ 200 := by rw [hk.sln_eq]; omega
  have nD : sln D ≤ 10000000 := by rw [hk.sln_eq]; omega
  have nc : ∀ c, sln [c] = 1 := fun c => by rw [hk.sln_eq]; rfl
  clear hA01 hT0 hl0 hl01
  (conv => cbv)
  repeat' (first | assumption | ((first | rw [hln] | refine hk.callA (hp0 _) ?_ | refine hk.calldA hp0 ?_ | refine hk.callA (hp1 _) ?_ | refine hk.calldA hp1 ?_ | refine hk.callA (hp2 _) ?_ | refine hk.calldA hp2 ?_ | rw [s01] | rw [s02] | refine hk.needI (by first | (simp only [rNd, hk.ad_eq, hk.sb_eq]; omega) | (simp [rNd, hk.ad_eq, hk.sb_eq]; omega)) ?_ | refine stp ?_ | refine stpB (fun _ => ?_) (fun _ => ?_)) <;> (conv => cbv)) | exact stpF | fail)
  refine hk.loopI (loop_rule (α := Int) (fun i => [(2, .ptr 0 0), (4, .str []), (5, .str (T i)), (56, .int .i64 N), (57, .int .i64 i)]) (fun _ => [.box [.int .i64 2, .int .i64 vl, .int .i64 sh, .ls (.il .i64 ix) .any, .int .i64 lg, .int .i64 gn, .int .i64 pt, .ls (.il .i64 rc) .any, .ls (.il .i64 da) .any]])
    (fun i => 0 ≤ i ∧ i ≤ N) (fun i => (N - i).toNat) 0 ⟨by omega, by omega⟩ ?_ ?_)
  · exact Gh.tm (by repeat (first | exact Holds.nil _ _ | refine Holds.cons (Wk.refl _ _) ?_))
  intro i ⟨hi, hi2⟩ Q' hb hx hr
  have hTli := hTl i hi hi2
  by_cases hin : i < N
  · obtain ⟨B, c1, hsg, c2⟩ := hst i hi hin
    obtain ⟨x, hx0⟩ : ∃ x, x = gtI ix i := ⟨_, rfl⟩
    rw [← hgt, ← hx0] at hsg
    obtain ⟨S0, hS0⟩ : ∃ x, x = T i := ⟨_, rfl⟩
    obtain ⟨S1, hS1⟩ : ∃ x, x = T (i + 1) := ⟨_, rfl⟩
    rw [← hS0, ← hS1] at c2
    rw [← hS0] at hTli
    rw [← hS0]
    have t1 : sap S0 B = S1 := by rw [hk.sap_eq, c2]
    have t2 : sln S0 ≤ 100000 := by rw [hk.sln_eq]; omega
    have t3 : sln B ≤ 100 := by rw [hk.sln_eq]; omega
    (conv => cbv)
    repeat' (first | assumption | ((first | rw [hln] | refine hk.idxI hi hin ?_ | refine hk.idxI hi (by rw [hln]; exact hin) ?_ | rw [← hx0] | refine hk.callA (hsg _) ?_ | refine hk.calldA hsg ?_ | rw [t1] | refine hk.needI (by first | (simp only [rNd, hk.ad_eq, hk.sb_eq]; omega) | (simp [rNd, hk.ad_eq, hk.sb_eq]; omega)) ?_ | refine stp ?_ | refine stpB (fun _ => ?_) (fun _ => ?_)) <;> (conv => cbv)) | exact stpF | fail)
    refine hb (i + 1) _ ⟨by omega, by omega⟩ (by omega) ?_
    rw [← hS1]
    refine Gh.tm ?_
    repeat' (first | exact Holds.nil _ _ | refine Holds.cons (Wk.refl _ _) ?_ | refine Holds.cons (Wk.of_eq ?_) ?_)
    all_goals first
      | (rw [← hk.add64 i 1 (by omega) (by omega)]; rfl)
      | rfl
      | skip
  · have : i = N := by omega
    subst this
    obtain ⟨S0, hS0⟩ : ∃ x, x = T i := ⟨_, rfl⟩
    rw [← hS0] at hR hTli
    rw [← hS0]
    have t2 : sln S0 ≤ 100000 := by rw [hk.sln_eq]; omega
    rcases hR with ⟨h0, hR⟩ | ⟨h0, hR⟩
    · obtain ⟨S1, hS1⟩ : ∃ x, x = S0 ++ [48] := ⟨_, rfl⟩
      rw [← hS1] at hR
      have t3 : sap S0 [48] = S1 := by rw [hk.sap_eq, hS1]
      have t4 : sap S1 D = R := by rw [hk.sap_eq, hR]
      have t5 : sln S1 ≤ 100001 := by rw [hk.sln_eq, hS1, List.length_append]; simp only [List.length_cons, List.length_nil]; omega
      subst h0
      (conv => cbv)
      repeat' (first | assumption | ((first | refine hx _ _ ?_ | rw [t3] | rw [t4] | rw [nc] | refine hk.callA (hpa _) ?_ | refine hk.calldA hpa ?_ | refine hk.callA (hsl _) ?_ | refine hk.calldA hsl ?_ | refine hk.needI (by first | (simp only [rNd, hk.ad_eq, hk.sb_eq]; omega) | (simp [rNd, hk.ad_eq, hk.sb_eq]; omega)) ?_ | refine stp ?_ | refine stpB (fun _ => ?_) (fun _ => ?_)) <;> (conv => cbv)) | exact stpF | fail)
      all_goals exact hk.fin0 rfl rfl (Wk.refl _ _)
    · obtain ⟨S1, hS1⟩ : ∃ x, x = S0 ++ [49] := ⟨_, rfl⟩
      obtain ⟨S2, hS2⟩ : ∃ x, x = S1 ++ A3 := ⟨_, rfl⟩
      obtain ⟨S3, hS3⟩ : ∃ x, x = S2 ++ A4 := ⟨_, rfl⟩
      rw [← hS1, ← hS2, ← hS3] at hR
      have t3 : sap S0 [49] = S1 := by rw [hk.sap_eq, hS1]
      have t4 : sap S1 A3 = S2 := by rw [hk.sap_eq, hS2]
      have t5 : sap S2 A4 = S3 := by rw [hk.sap_eq, hS3]
      have t6 : sap S3 D = R := by rw [hk.sap_eq, hR]
      have t7 : sln S1 ≤ 100001 := by rw [hk.sln_eq, hS1, List.length_append]; simp only [List.length_cons, List.length_nil]; omega
      have t8 : sln S2 ≤ 100101 := by rw [hk.sln_eq, hS2, List.length_append]; rw [hk.sln_eq] at t7 n3; omega
      have t9 : sln S3 ≤ 100201 := by rw [hk.sln_eq, hS3, List.length_append]; rw [hk.sln_eq] at t8 n4; omega
      (conv => cbv)
      repeat' (first | assumption | ((first | refine hx _ _ ?_ | rw [t3] | rw [t4] | rw [t5] | rw [t6] | rw [nc] | refine hk.callA (hp3 _) ?_ | refine hk.calldA hp3 ?_ | refine hk.callA (hp4 _) ?_ | refine hk.calldA hp4 ?_ | refine hk.callA (hpa _) ?_ | refine hk.calldA hpa ?_ | refine hk.callA (hsl _) ?_ | refine hk.calldA hsl ?_ | refine hk.needI (by first | (simp only [rNd, hk.ad_eq, hk.sb_eq]; omega) | (simp [rNd, hk.ad_eq, hk.sb_eq]; omega)) ?_ | refine stp ?_ | refine stpB (fun _ => ?_) (fun _ => ?_)) <;> (conv => cbv)) | exact stpF | fail)
      all_goals exact hk.fin0 rfl rfl (Wk.refl _ _)
end Go.Proofs.YtfjdmgnhklpiiaaGreat
