/-
  Contracts of functions of the program, proved over the abstract machine of the Al texts.
-/
import Derived.Test.YtfjdmgnhklpiiaaGreatBaseX
import Derived.Test.YtfjdmgnhklpiiaaGreatBsX1
import Derived.Test.YtfjdmgnhklpiiaaGreatBsX3
import Derived.Test.YtfjdmgnhklpiiaaGreatBsX7
import Derived.Test.YtfjdmgnhklpiiaaGreatPpZ
import Derived.Test.YtfjdmgnhklpiiaaGreatSlX
import Derived.Test.YtfjdmgnhklpiiaaGreatPpX
set_option maxHeartbeats 4000000
set_option maxRecDepth 20000
set_option linter.unusedSimpArgs false
set_option linter.unusedVariables false
open Go Go.AL
namespace Go.Proofs.YtfjdmgnhklpiiaaGreat
def chkE (l : List Int) (d : Int) : Int := if ¬ (1 ≤ l.length ∧ l.length ≤ 1024 ∧ 8 ≤ d ∧ d ≤ 26) then 1 else if l.any (lacksP d) = true then 9 else 0
theorem check_spec (l : List Int) (d : Int) (h : Heap) (hl : l.length ≤ 9223372036854775807) : Does PP 46 [LI l, I d] h (Is (I (chkE l d)) h) := by
  obtain ⟨n, hn⟩ : ∃ n : Int, n = (l.length : Nat) := ⟨_, rfl⟩
  have hd := fun h => bdepth_spec d h
  have hc := fun h => bcount_spec n h
  refine pure0 ?_ rfl rfl h
  by_cases h1 : 1 ≤ n ∧ n ≤ 1024
  case neg =>
    rw [chkE, if_pos (by omega)]
    rw [show (decide (1 ≤ n) && decide (n ≤ 1024)) = false by rw [Bool.and_eq_false_iff, decide_eq_false_iff_not, decide_eq_false_iff_not]; omega] at hc
    refine wlk Tryz.f46 ?_
    unhygienic intros
    have hln : lnI l = n := by rw [hk.lnI_eq]; omega
    (conv => cbv)
    repeat' (first | assumption | ((first | rw [hln] | refine hk.callA (hc _) ?_ | refine hk.calldA hc ?_ | refine hk.callA (hd _) ?_ | refine hk.calldA hd ?_ | refine stp ?_ | refine stpB (fun _ => ?_) (fun _ => ?_)) <;> (conv => cbv)) | exact stpF | fail)
  rw [decide_eq_true h1.1, decide_eq_true h1.2] at hc
  by_cases h2 : 8 ≤ d ∧ d ≤ 26
  case neg =>
    rw [chkE, if_pos (by omega)]
    rw [show (decide (8 ≤ d) && decide (d ≤ 26)) = false by rw [Bool.and_eq_false_iff, decide_eq_false_iff_not, decide_eq_false_iff_not]; omega] at hd
    refine wlk Tryz.f46 ?_
    unhygienic intros
    have hln : lnI l = n := by rw [hk.lnI_eq]; omega
    (conv => cbv)
    repeat' (first | assumption | ((first | rw [hln] | refine hk.callA (hc _) ?_ | refine hk.calldA hc ?_ | refine hk.callA (hd _) ?_ | refine hk.calldA hd ?_ | refine stp ?_ | refine stpB (fun _ => ?_) (fun _ => ?_)) <;> (conv => cbv)) | exact stpF | fail)
  rw [decide_eq_true h2.1, decide_eq_true h2.2] at hd
  rw [chkE, if_neg (by omega)]
  have hco := fun h => contains1_spec l 68 (I d) (lacksP d) h hl (fun n => lacks_spec d n h h2.1 h2.2)
  obtain ⟨b, hb⟩ : ∃ b, b = l.any (lacksP d) := ⟨_, rfl⟩
  simp only [← hb] at hco
  rw [← hb]
  refine wlk Tryz.f46 ?_
  unhygienic intros
  have hln : lnI l = n := by rw [hk.lnI_eq]; omega
  clear hb
  cases b
  all_goals
    (conv => cbv)
    repeat' (first | assumption | ((first | rw [hln] | refine hk.callA (hc _) ?_ | refine hk.calldA hc ?_ | refine hk.callA (hd _) ?_ | refine hk.calldA hd ?_ | refine hk.callA (hco _) ?_ | refine hk.calldA hco ?_ | refine stp ?_ | refine stpB (fun _ => ?_) (fun _ => ?_)) <;> (conv => cbv)) | exact stpF | fail)
end Go.Proofs.YtfjdmgnhklpiiaaGreat
set_option maxHeartbeats 4000000
set_option maxRecDepth 20000
set_option linter.unusedSimpArgs false
set_option linter.unusedVariables false
open Go Go.AL
namespace Go.Proofs.YtfjdmgnhklpiiaaGreat
end Go.Proofs.YtfjdmgnhklpiiaaGreat
set_option maxHeartbeats 4000000
set_option maxRecDepth 20000
set_option linter.unusedSimpArgs false
set_option linter.unusedVariables false
open Go Go.AL
namespace Go.Proofs.YtfjdmgnhklpiiaaGreat
theorem fold_spec (n : Int) (h : Heap) (h0 : -8589934592 ≤ n) (h1 : n < 8589934592) : Does PP 145 [I n] h (Is (I (foldZ n)) h) := by
  obtain ⟨r, hr⟩ : ∃ r, r = foldZ n := ⟨_, rfl⟩
  rw [← hr]
  have hr1 : n < 0 → r = -2 * n - 1 := fun h => by rw [hr, foldZ, if_pos h]
  have hr2 : ¬ n < 0 → r = 2 * n := fun h => by rw [hr, foldZ, if_neg h]
  clear hr
  refine pure0 ?_ rfl rfl h
  refine wlk Tryz.f145 ?_
  unhygienic intros
  obtain ⟨a, ha⟩ : ∃ a, a = -2 * n := ⟨_, rfl⟩
  obtain ⟨b, hb⟩ : ∃ a, a = 2 * n := ⟨_, rfl⟩
  have hm : i2 .mul .i64 (-2) n = a := by rw [hk.mul64 _ _ (by omega) (by omega)]; exact ha.symm
  have hm2 : i2 .mul .i64 2 n = b := by rw [hk.mul64 _ _ (by omega) (by omega)]; exact hb.symm
  have hs : i2 .sub .i64 a 1 = a - 1 := hk.sub64 _ _ (by omega) (by omega)
  by_cases hn : n < 0
  · have hr1 := hr1 hn
    obtain ⟨a1, ha1⟩ : ∃ x, x = a - 1 := ⟨_, rfl⟩
    rw [← ha1] at hs
    have : r = a1 := by omega
    subst this
    (conv => cbv)
    repeat' (first | assumption | ((first | rw [hm] | rw [hs] | rw [hm2] | refine stp ?_ | refine stpB (fun _ => ?_) (fun _ => ?_)) <;> (conv => cbv)) | exact stpF | fail)
    all_goals first
      | exact hk.fin0 rfl rfl (Wk.refl _ _)
      | skip
  · have hr2 := hr2 hn
    have : r = b := by omega
    subst this
    (conv => cbv)
    repeat' (first | assumption | ((first | rw [hm] | rw [hs] | rw [hm2] | refine stp ?_ | refine stpB (fun _ => ?_) (fun _ => ?_)) <;> (conv => cbv)) | exact stpF | fail)
    all_goals first
      | exact hk.fin0 rfl rfl (Wk.refl _ _)
      | skip
theorem may_spec (n k : Int) (h : Heap) (h0 : -8589934592 ≤ n) (h1 : n < 8589934592) (h2 : 0 ≤ k) (h3 : k ≤ 24) : Does PP 144 [I n, I k] h (Is (.bool true) h) := by
  refine pure0 ?_ rfl rfl h
  refine wlk Tryz.f144 ?_
  unhygienic intros
  (conv => cbv)
  repeat' (first | assumption | ((first | refine stp ?_ | refine stpB (fun _ => ?_) (fun _ => ?_)) <;> (conv => cbv)) | exact stpF | fail)
  all_goals first
    | exact hk.fin0 rfl rfl (Wk.of_eq (by rw [hk.c2_leq, decide_eq_true (by omega)]))
    | exact hk.fin0 rfl rfl (Wk.refl _ _)
    | skip
end Go.Proofs.YtfjdmgnhklpiiaaGreat
set_option maxHeartbeats 4000000
set_option maxRecDepth 20000
set_option linter.unusedSimpArgs false
set_option linter.unusedVariables false
open Go Go.AL
namespace Go.Proofs.YtfjdmgnhklpiiaaGreat
theorem part_spec (p : Int) (ks l : List Int) (i : Int) (h : Heap) (hl : l.length ≤ 1024) (h0 : 0 ≤ p) (h1 : p ≤ 12) (hi : 0 ≤ i) (hi2 : i < 2 ^ p.toNat) (hs : (l.length / 2 ^ p.toNat) * 2 ^ p.toNat = l.length) :
    Does PP 120 [.agg [I p, LI ks], LI l, I i] h (Is (LI (partL l (l.length / 2 ^ p.toNat) i.toNat)) h) := by
  have hp12 : (2 : Int) ^ p.toNat ≤ 2 ^ 12 := by
    have := Nat.pow_le_pow_right (n := 2) (by decide) (show p.toNat ≤ 12 by omega)
    exact Int.ofNat_le.2 this
  have hi9 : i < 4096 := by omega
  have hsh := shr_nat .i64 l.length p.toNat (by simp [IntKind.bits]; omega)
  rw [show ((p.toNat : Nat) : Int) = p by omega] at hsh
  obtain ⟨s, hs0⟩ : ∃ s, s = l.length / 2 ^ p.toNat := ⟨_, rfl⟩
  rw [← hs0] at hsh hs ⊢
  have hile : (i.toNat + 1) * s ≤ l.length := by
    rw [← hs, Nat.mul_comm s]
    refine Nat.mul_le_mul_right _ ?_
    have : i < ((2 ^ p.toNat : Nat) : Int) := by simpa using hi2
    omega
  obtain ⟨n, hn⟩ : ∃ n : Int, n = (l.length : Nat) := ⟨_, rfl⟩
  rw [← hn] at hsh
  obtain ⟨S, hS⟩ : ∃ S : Int, S = (s : Nat) := ⟨_, rfl⟩
  rw [← hS] at hsh
  have hm1 : i * S = ((i.toNat * s : Nat) : Int) := by rw [hS, Int.natCast_mul]; congr 1; omega
  have hm2 : (i + 1) * S = (((i.toNat + 1) * s : Nat) : Int) := by rw [hS, Int.natCast_mul]; congr 1; omega
  have hadd : (i.toNat + 1) * s = i.toNat * s + s := Nat.succ_mul _ _
  obtain ⟨R, hR⟩ : ∃ R, R = partL l s i.toNat := ⟨_, rfl⟩
  rw [← hR]
  obtain ⟨a, ha⟩ : ∃ a : Int, a = i * S := ⟨_, rfl⟩
  obtain ⟨b, hb⟩ : ∃ b : Int, b = (i + 1) * S := ⟨_, rfl⟩
  have hRe : (l.drop a.toNat).take (b - a).toNat = R := by
    rw [hR, partL, ha, hb, hm1, hm2]
    congr 1
    · omega
  refine pure0 ?_ rfl rfl h
  refine wlk Tryz.f120 ?_
  unhygienic intros
  have hln : lnI l = n := by rw [hk.lnI_eq]; omega
  have t1 : i2 .shr .i64 n p = S := by rw [hk.i2_eq]; exact hsh
  have t2 : i2 .mul .i64 i S = a := by rw [hk.mul64 _ _ (by omega) (by omega)]; exact ha.symm
  obtain ⟨i1, hi1⟩ : ∃ i1, i1 = i + 1 := ⟨_, rfl⟩
  have t3 : i2 .add .i64 i 1 = i1 := by rw [hk.add64 _ _ (by omega) (by omega)]; exact hi1.symm
  have t4 : i2 .mul .i64 i1 S = b := by rw [hi1, hk.mul64 _ _ (by omega) (by omega)]; exact hb.symm
  have t5 : sbI l a b = R := by rw [hk.sbI_eq]; exact hRe
  have hab : 0 ≤ a ∧ a ≤ b ∧ b ≤ n := by omega
  clear hm1 hm2 hsh hRe hS ha hb hi1 hR
  (conv => cbv)
  repeat' (first | assumption | ((first | rw [hln] | rw [t1] | rw [t2] | rw [t3] | rw [t4] | rw [t5] | refine stp ?_ | refine stpB (fun _ => ?_) (fun _ => ?_)) <;> (conv => cbv)) | exact stpF | fail)
  all_goals first
    | exact hk.fin0 rfl rfl (Wk.refl _ _)
    | exact hk.fin0 rfl rfl (Wk.any _ _ _)
    | skip
end Go.Proofs.YtfjdmgnhklpiiaaGreat
set_option maxHeartbeats 4000000
set_option maxRecDepth 20000
set_option linter.unusedSimpArgs false
set_option linter.unusedVariables false
open Go Go.AL
namespace Go.Proofs.YtfjdmgnhklpiiaaGreat
end Go.Proofs.YtfjdmgnhklpiiaaGreat
