/-
  Contracts of functions of the program, proved over the abstract machine of the Al texts.
-/
import Derived.Test.YtoeekjddeknmbaaGreatTryTab
import Derived.Test.YtoeekjddeknmbaaGreatAl4
import Derived.Test.YtoeekjddeknmbaaGreatBaseX
import Derived.Test.YtoeekjddeknmbaaGreatRkX
import Derived.Test.YtoeekjddeknmbaaGreatBsX1
import Derived.Test.YtoeekjddeknmbaaGreatBsX3
import Derived.Test.YtoeekjddeknmbaaGreatBsX8
import Derived.Test.YtoeekjddeknmbaaGreatPlX
import Derived.Test.YtoeekjddeknmbaaGreatTkX1
import Derived.Test.YtoeekjddeknmbaaGreatTkX3
import Derived.Test.YtoeekjddeknmbaaGreatNoX
import Derived.Test.YtoeekjddeknmbaaGreatTuX3
import Derived.Test.YtoeekjddeknmbaaGreatTuX4
set_option maxHeartbeats 4000000
set_option maxRecDepth 20000
set_option linter.unusedSimpArgs false
set_option linter.unusedVariables false
open Go Go.AL
namespace Go.Proofs.YtoeekjddeknmbaaGreat
theorem right13_spec (l : List Int) (d o dp : Int) (lags wv sft : Bool) (h : Heap) (hl : l.length ≤ 1024) : Does PP 10 [LI l, I d, .agg [I o, I dp, .bool lags, .bool wv, .bool sft]] h (Is (I (bestE l d o)) h) := by
  obtain ⟨n, hn⟩ : ∃ n : Int, n = (l.length : Nat) := ⟨_, rfl⟩
  have hdp := fun h => rdepth_spec d h
  obtain ⟨E, hE⟩ : ∃ E, E = bestE l d o := ⟨_, rfl⟩
  rw [← hE]
  have e1 : ¬ (0 ≤ o ∧ o ≤ 16) → E = 1 := fun e => by rw [hE, bestE, if_neg e]
  have e2 : 0 ≤ o ∧ o ≤ 16 → E = chkE l d := fun e => by rw [hE, bestE, if_pos e]
  have e3 : ¬ (1 ≤ n ∧ 8 ≤ d ∧ d ≤ 26) → chkE l d = 1 := fun e => by unfold chkE; rw [if_pos (by omega)]
  have e4 : (1 ≤ n ∧ 8 ≤ d ∧ d ≤ 26) → chkE l d = if l.any (lacksP d) = true then 9 else 0 := fun e => by unfold chkE; rw [if_neg (by omega)]
  refine pure0 ?_ rfl rfl h
  by_cases ho : 0 ≤ o ∧ o ≤ 16
  case neg =>
    have e1 := e1 ho
    clear e2 hE
    subst e1
    refine wlk Tryz.f10 ?_
    unhygienic intros
    by_cases h1 : o < 0
    · (conv => cbv)
      repeat' (first | assumption | ((first | refine stp ?_ | refine stpB (fun _ => ?_) (fun _ => ?_)) <;> (conv => cbv)) | exact stpF | fail)
      all_goals exact hk.fin0 rfl rfl (Wk.refl _ _)
    · have h2 : o > 16 := by omega
      (conv => cbv)
      repeat' (first | assumption | ((first | refine stp ?_ | refine stpB (fun _ => ?_) (fun _ => ?_)) <;> (conv => cbv)) | exact stpF | fail)
      all_goals exact hk.fin0 rfl rfl (Wk.refl _ _)
  have e2 := e2 ho
  rw [e2]
  obtain ⟨o0, o1⟩ := ho
  have o2 : ¬ o < 0 := by omega
  have o3 : ¬ o > 16 := by omega
  clear e1 hE
  by_cases hr : 1 ≤ n ∧ 8 ≤ d ∧ d ≤ 26
  case neg =>
    rw [e3 hr]
    by_cases h1 : n < 1
    · refine wlk Tryz.f10 ?_
      unhygienic intros
      have hln : lnI l = n := by rw [hk.lnI_eq]; omega
      (conv => cbv)
      repeat' (first | assumption | ((first | rw [hln] | refine stp ?_ | refine stpB (fun _ => ?_) (fun _ => ?_)) <;> (conv => cbv)) | exact stpF | fail)
      all_goals exact hk.fin0 rfl rfl (Wk.refl _ _)
    · rw [show (decide (8 ≤ d) && decide (d ≤ 26)) = false by
        rw [Bool.eq_false_iff]; intro h; rw [Bool.and_eq_true, decide_eq_true_eq, decide_eq_true_eq] at h; omega] at hdp
      refine wlk Tryz.f10 ?_
      unhygienic intros
      have hln : lnI l = n := by rw [hk.lnI_eq]; omega
      (conv => cbv)
      repeat' (first | assumption | ((first | rw [hln] | refine hk.callA (hdp _) ?_ | refine hk.calldA hdp ?_ | refine stp ?_ | refine stpB (fun _ => ?_) (fun _ => ?_)) <;> (conv => cbv)) | exact stpF | fail)
      all_goals exact hk.fin0 rfl rfl (Wk.refl _ _)
  rw [e4 hr]
  obtain ⟨r1, r2, r3⟩ := hr
  have r4 : ¬ n < 1 := by omega
  rw [decide_eq_true r2, decide_eq_true r3, Bool.true_and] at hdp
  have hhas := fun v h => rhas_spec d v h r2 r3
  have hf1 : ∀ i : Int, 0 ≤ i → i < n → lacksP d (l.getD i.toNat 0) = true → (if l.any (lacksP d) = true then (9 : Int) else 0) = 9 := fun i a b e => by
    rw [if_pos]
    rw [List.any_eq_true]
    exact ⟨_, mem_getD.2 ⟨i.toNat, by omega, rfl⟩, e⟩
  have hf2 : (∀ j, j < n.toNat → lacksP d (l.getD j 0) = false) → (if l.any (lacksP d) = true then (9 : Int) else 0) = 0 := fun e => by
    rw [if_neg]
    rw [List.any_eq_true]
    rintro ⟨x, hx, hx2⟩
    obtain ⟨j, hj, rfl⟩ := mem_getD.1 hx
    rw [e j (by omega)] at hx2
    cases hx2
  obtain ⟨E9, hE9⟩ : ∃ E : Int, E = if l.any (lacksP d) = true then (9 : Int) else 0 := ⟨_, rfl⟩
  simp only [← hE9] at hf1 hf2 ⊢
  obtain ⟨L, hL⟩ : ∃ L : Int → Bool, ∀ v, L v = lacksP d v := ⟨_, fun _ => rfl⟩
  simp only [← hL] at hf1 hf2 hhas
  clear hE9 e2 e3 e4 hL
  refine wlk Tryz.f10 ?_
  unhygienic intros
  have hln : lnI l = n := by rw [hk.lnI_eq]; omega
  have hgl := hk.gtI_eq l
  have hbn := hk.bn_eq
  (conv => cbv)
  repeat' (first | assumption | ((first | rw [hln] | refine hk.callA (hdp _) ?_ | refine hk.calldA hdp ?_ | refine stp ?_ | refine stpB (fun _ => ?_) (fun _ => ?_)) <;> (conv => cbv)) | exact stpF | fail)
  refine hk.loopI (loop_rule (α := Int) (fun i => [(1, .int .i64 d), (6, .int .i64 0), (27, .ls (.il .i64 l) .any), (28, .int .i64 n), (29, .int .i64 i)]) (fun _ => [.box [.int .i64 o, .int .i64 dp, .bool lags, .bool wv, .bool sft]])
    (fun i => 0 ≤ i ∧ i ≤ n ∧ ∀ j, j < i.toNat → L (l.getD j 0) = false) (fun i => (n - i).toNat) 0 ⟨by omega, by omega, fun j hj => by omega⟩ ?_ ?_)
  · exact Gh.tm (by repeat (first | exact Holds.nil _ _ | refine Holds.cons (Wk.refl _ _) ?_))
  intro i ⟨hi, hi2, hi3⟩ Q' hb hx hr
  by_cases h3 : i < n
  · have hf1 := hf1 i hi h3
    have hgi := hgl i
    obtain ⟨v, hv⟩ : ∃ v, v = l.getD i.toNat 0 := ⟨_, rfl⟩
    rw [← hv] at hgi hf1
    have hhv := fun h => hhas v h
    obtain ⟨b, hb0⟩ : ∃ b, b = L v := ⟨_, rfl⟩
    rw [← hb0] at hf1
    simp only [← hb0] at hhv
    cases b
    · clear hf1
      (conv => cbv)
      repeat' (first | assumption | ((first | rw [hln] | rw [hgi] | refine hk.idxI hi h3 ?_ | refine hk.callA (hhv _) ?_ | refine hk.calldA hhv ?_ | refine hr _ ?_ | refine stp ?_ | refine stpB (fun _ => ?_) (fun _ => ?_)) <;> (conv => cbv)) | exact stpF | fail)
      refine hb (i + 1) _ ⟨by omega, by omega, fun j hj => ?_⟩ (by omega) ?_
      · by_cases e : j < i.toNat
        · exact hi3 j e
        · rw [show j = i.toNat by omega, ← hv]; exact hb0.symm
      refine Gh.tm ?_
      repeat' (first | exact Holds.nil _ _ | refine Holds.cons (Wk.refl _ _) ?_ | refine Holds.cons (Wk.of_eq ?_) ?_)
      all_goals first
        | (rw [← hk.add64 i 1 (by omega) (by omega)]; rfl)
        | rfl
        | skip
    · have hf1 := hf1 rfl
      subst hf1
      (conv => cbv)
      repeat' (first | assumption | ((first | rw [hln] | rw [hgi] | refine hk.idxI hi h3 ?_ | refine hk.callA (hhv _) ?_ | refine hk.calldA hhv ?_ | refine hr _ ?_ | refine stp ?_ | refine stpB (fun _ => ?_) (fun _ => ?_)) <;> (conv => cbv)) | exact stpF | fail)
      all_goals exact hk.fin0 rfl rfl (Wk.refl _ _)
  · have : i = n := by omega
    subst this
    have hf2 := hf2 hi3
    subst hf2
    (conv => cbv)
    repeat' (first | assumption | ((first | rw [hln] | refine hx _ _ ?_ | refine stp ?_ | refine stpB (fun _ => ?_) (fun _ => ?_)) <;> (conv => cbv)) | exact stpF | fail)
    all_goals exact hk.fin0 rfl rfl (Wk.refl _ _)
theorem true_core (l : List Int) (d o dp : Int) (lags wv sft : Bool) (x : BlkIn) (E nb : Int) (hl : l.length ≤ 9223372036854775807)
    (hR : l.length ≤ 64 → ∀ h, Does PP 10 [LI l, I d, .agg [I o, I dp, .bool lags, .bool wv, .bool sft]] h (Is (I E) h))
    (hB : l.length ≤ 64 → E = 0 → ∀ h, Does PP 9 [LI l, I d, .agg [I o, I dp, .bool lags, .bool wv, .bool sft]] h (Is (.tup [x.v, I 0]) h))
    (hS : l.length ≤ 64 → E = 0 → ∀ h, Does PP 14 [x.v, I (l.length : Nat), I d] h (Is (.tup [LI l, I 0]) h))
    (hBt : l.length ≤ 64 → E = 0 → ∀ h, Does PP 16 [x.v, I (l.length : Nat), I d] h (Is (I nb) h))
    (hC : l.length ≤ 64 → E = 0 → ∀ h, Does PP 12 [LI l, I d, .agg [I o, I dp, .bool lags, .bool wv, .bool sft]] h (Is (I nb) h))
    (hd : E = 0 → 8 ≤ d ∧ d ≤ 26) (hnb : E = 0 → nb ≤ 2 + (l.length : Nat) * d) :
    Does PP 4 [LI l, I d, .agg [I o, I dp, .bool lags, .bool wv, .bool sft]] [] (Is (.bool true) []) := by
  have haw := awake13
  have hsl := fun (h1 : l.length ≤ 64) h => same_spec l l h hl hl
  rw [decide_eq_true rfl] at hsl
  obtain ⟨n, hn⟩ : ∃ n : Int, n = (l.length : Nat) := ⟨_, rfl⟩
  rw [← hn] at hS hBt hnb
  by_cases h1 : n > 64
  · clear hR hB hS hBt hC hsl
    refine wlk Tryz.f4 ?_
    unhygienic intros
    have hln : lnI l = n := by rw [hk.lnI_eq]; omega
    (conv => cbv)
    repeat' (first | assumption | ((first | rw [hln] | refine hk.callA (haw _) ?_ | refine hk.calldA haw ?_ | refine stp ?_ | refine stpB (fun _ => ?_) (fun _ => ?_)) <;> (conv => cbv)) | exact stpF | fail)
    all_goals exact hk.fin0 rfl rfl (Wk.refl _ _)
  have h64 : l.length ≤ 64 := by omega
  replace hR := hR h64
  have hsl := hsl h64
  by_cases h2 : lags = true ∧ n > 24
  · obtain ⟨rfl, h2⟩ := h2
    clear hR hB hS hBt hC hsl
    refine wlk Tryz.f4 ?_
    unhygienic intros
    have hln : lnI l = n := by rw [hk.lnI_eq]; omega
    (conv => cbv)
    repeat' (first | assumption | ((first | rw [hln] | refine hk.callA (haw _) ?_ | refine hk.calldA haw ?_ | refine stp ?_ | refine stpB (fun _ => ?_) (fun _ => ?_)) <;> (conv => cbv)) | exact stpF | fail)
    all_goals exact hk.fin0 rfl rfl (Wk.refl _ _)
  by_cases h3 : E = 0
  · replace hB := hB h64 h3
    replace hS := hS h64 h3
    replace hBt := hBt h64 h3
    replace hC := hC h64 h3
    obtain ⟨d8, d26⟩ := hd h3
    replace hnb := hnb h3
    obtain ⟨kd, vl, sh, ix, lg, gn, pt, rc, da⟩ := x
    have m0 : 0 ≤ n * d := Int.mul_nonneg (by omega) (by omega)
    have m1 : n * d ≤ 64 * d := Int.mul_le_mul_of_nonneg_right (by omega) (by omega)
    obtain ⟨p, hp⟩ : ∃ p, p = n * d := ⟨_, rfl⟩
    rw [← hp] at m0 m1 hnb
    obtain ⟨q, hq⟩ : ∃ q, q = 2 + p := ⟨_, rfl⟩
    rw [← hq] at hnb
    subst h3
    cases lags
    · refine wlk Tryz.f4 ?_
      unhygienic intros
      have hln : lnI l = n := by rw [hk.lnI_eq]; omega
      have hmu : i2 .mul .i64 n d = p := by rw [hp]; exact hk.mul64 _ _ (by rw [← hp]; omega) (by rw [← hp]; omega)
      have hadd : i2 .add .i64 2 p = q := by rw [hq]; exact hk.add64 _ _ (by omega) (by omega)
      (conv => cbv)
      repeat' (first | assumption | ((first | rw [hln] | rw [hmu] | rw [hadd] | refine hk.callA (haw _) ?_ | refine hk.calldA haw ?_ | refine hk.callA (hR _) ?_ | refine hk.calldA hR ?_ | refine hk.callA (hB _) ?_ | refine hk.calldA hB ?_ | refine hk.callA (hS _) ?_ | refine hk.calldA hS ?_ | refine hk.callA (hsl _) ?_ | refine hk.calldA hsl ?_ | refine hk.callA (hBt _) ?_ | refine hk.calldA hBt ?_ | refine hk.callA (hC _) ?_ | refine hk.calldA hC ?_ | refine stp ?_ | refine stpB (fun _ => ?_) (fun _ => ?_)) <;> (conv => cbv)) | exact stpF | fail)
      all_goals exact hk.fin0 rfl rfl (Wk.of_eq (congrArg _ (by rw [hk.c2_eql]; simp)))
    · have h2 : ¬ n > 24 := fun h => h2 ⟨rfl, h⟩
      refine wlk Tryz.f4 ?_
      unhygienic intros
      have hln : lnI l = n := by rw [hk.lnI_eq]; omega
      have hmu : i2 .mul .i64 n d = p := by rw [hp]; exact hk.mul64 _ _ (by rw [← hp]; omega) (by rw [← hp]; omega)
      have hadd : i2 .add .i64 2 p = q := by rw [hq]; exact hk.add64 _ _ (by omega) (by omega)
      (conv => cbv)
      repeat' (first | assumption | ((first | rw [hln] | rw [hmu] | rw [hadd] | refine hk.callA (haw _) ?_ | refine hk.calldA haw ?_ | refine hk.callA (hR _) ?_ | refine hk.calldA hR ?_ | refine hk.callA (hB _) ?_ | refine hk.calldA hB ?_ | refine hk.callA (hS _) ?_ | refine hk.calldA hS ?_ | refine hk.callA (hsl _) ?_ | refine hk.calldA hsl ?_ | refine hk.callA (hBt _) ?_ | refine hk.calldA hBt ?_ | refine hk.callA (hC _) ?_ | refine hk.calldA hC ?_ | refine stp ?_ | refine stpB (fun _ => ?_) (fun _ => ?_)) <;> (conv => cbv)) | exact stpF | fail)
      all_goals exact hk.fin0 rfl rfl (Wk.of_eq (congrArg _ (by rw [hk.c2_eql]; simp)))
  · clear hB hS hBt hC hsl
    cases lags
    · refine wlk Tryz.f4 ?_
      unhygienic intros
      have hln : lnI l = n := by rw [hk.lnI_eq]; omega
      (conv => cbv)
      repeat' (first | assumption | ((first | rw [hln] | refine hk.callA (haw _) ?_ | refine hk.calldA haw ?_ | refine hk.callA (hR _) ?_ | refine hk.calldA hR ?_ | refine stp ?_ | refine stpB (fun _ => ?_) (fun _ => ?_)) <;> (conv => cbv)) | exact stpF | fail)
      all_goals exact hk.fin0 rfl rfl (Wk.refl _ _)
    · have h2 : ¬ n > 24 := fun h => h2 ⟨rfl, h⟩
      refine wlk Tryz.f4 ?_
      unhygienic intros
      have hln : lnI l = n := by rw [hk.lnI_eq]; omega
      (conv => cbv)
      repeat' (first | assumption | ((first | rw [hln] | refine hk.callA (haw _) ?_ | refine hk.calldA haw ?_ | refine hk.callA (hR _) ?_ | refine hk.calldA hR ?_ | refine stp ?_ | refine stpB (fun _ => ?_) (fun _ => ?_)) <;> (conv => cbv)) | exact stpF | fail)
      all_goals exact hk.fin0 rfl rfl (Wk.refl _ _)
theorem bestE_ok {l : List Int} {d o : Int} (h : bestE l d o = 0) : (0 ≤ o ∧ o ≤ 16) ∧ chkE l d = 0 := by
  unfold bestE at h
  split at h
  · exact ⟨by assumption, h⟩
  · cases h
theorem tuneTrue_law (l : List Int) (hl : l.length ≤ 9223372036854775807) (d : Int) (c : ChIn) (hc : -9223372036854775808 ≤ c.o ∧ c.o ≤ 9223372036854775807) : Does PP 4 [LI l, I d, c.v] [] (Is (.bool true) []) := by
  obtain ⟨o, dp, lags, wv, sft⟩ := c
  refine true_core l d o dp lags wv sft (bestR l d o lags sft).1 (bestE l d o) (bestR l d o lags sft).2.1 hl
    (fun h1 h => right13_spec l d o dp lags wv sft h (by omega)) (fun h1 he h => ?_) (fun h1 he h => ?_) (fun h1 he h => ?_) (fun h1 he h => ?_) (fun he => ?_) (fun he => ?_)
  · have := tbest_spec l d o dp lags wv sft h h1
    unfold bestX at this
    rw [if_pos he, he] at this
    exact this
  · obtain ⟨a, b, _, c1, c2, c3⟩ := bestR_tr (lags := lags) (sft := sft) he
    have := bsmp_any (bestR l d o lags sft).1.kd (bestR l d o lags sft).1.vl (bestR l d o lags sft).1.sh (bestR l d o lags sft).1.ix (bestR l d o lags sft).1.lg (bestR l d o lags sft).1.gn (bestR l d o lags sft).1.pt (bestR l d o lags sft).1.rc (bestR l d o lags sft).1.da (l.length : Nat) d (by omega)
      (Nat.le_trans c1 (by decide)) (Nat.le_trans c2 (by decide)) (Nat.le_trans c3 (by decide)) h
    unfold BlkIn.e at a
    unfold BlkIn.l at b
    simp only at a b
    rw [a, b] at this
    exact this
  · obtain ⟨a, b, c, c1, c2, c3⟩ := bestR_tr (lags := lags) (sft := sft) he
    have := bbits_any (bestR l d o lags sft).1 (l.length : Nat) d h (by omega) a c1 c2 c3
    simp only at c
    rw [c]
    exact this
  · have := tcost_spec l d o dp lags wv sft h h1
    unfold bestC at this
    rw [if_pos he] at this
    exact this
  · obtain ⟨_, he⟩ := bestE_ok he
    obtain ⟨_, _, d1, d2, _⟩ := chkE_ok he
    exact ⟨d1, d2⟩
  · obtain ⟨_, he⟩ := bestE_ok he
    obtain ⟨l1, _, d1, d2, _⟩ := chkE_ok he
    exact Int.le_trans (bestR_le l d o lags sft) (nb_raw l1 d1)
end Go.Proofs.YtoeekjddeknmbaaGreat
