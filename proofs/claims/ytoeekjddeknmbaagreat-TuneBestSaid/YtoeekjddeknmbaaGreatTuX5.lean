/-
  Contracts of functions of the program, proved over the abstract machine of the Al texts.
-/
import Derived.Test.YtoeekjddeknmbaaGreatTryTab
import Derived.Test.YtoeekjddeknmbaaGreatAl4
import Derived.Test.YtoeekjddeknmbaaGreatBaseX
import Derived.Test.YtoeekjddeknmbaaGreatRkX
import Derived.Test.YtoeekjddeknmbaaGreatBsX1
import Derived.Test.YtoeekjddeknmbaaGreatBsX3
import Derived.Test.YtoeekjddeknmbaaGreatBsX8
import Derived.Test.YtoeekjddeknmbaaGreatPlX
import Derived.Test.YtoeekjddeknmbaaGreatTkX1
import Derived.Test.YtoeekjddeknmbaaGreatTkX3
import Derived.Test.YtoeekjddeknmbaaGreatNoX
import Derived.Test.YtoeekjddeknmbaaGreatTuX3
import Derived.Test.YtoeekjddeknmbaaGreatTuX4
set_option maxHeartbeats 4000000
set_option maxRecDepth 20000
set_option linter.unusedSimpArgs false
set_option linter.unusedVariables false
open Go Go.AL
namespace Go.Proofs.YtoeekjddeknmbaaGreat
theorem right13_spec (l : List Int) (d o dp : Int) (lags wv sft : Bool) (h : Heap) (hl : l.length ≤ 1024) : Does PP 10 [LI l, I d, .agg [I o, I dp, .bool lags, .bool wv, .bool sft]] h (Is (I (bestE l d o)) h) := by
 obtain ⟨n, hn⟩ : ∃ n : Int, n = (l.length : Nat) := ⟨_, rfl⟩
 have hdp := fun h => rdepth_spec d h
 obtain ⟨E, hE⟩ : ∃ E, E = bestE l d o := ⟨_, rfl⟩
 rw [← hE]
 have e1 : ¬ (0 ≤ o ∧ o ≤ 16) → E = 1 := fun e => by rw [hE, bestE, if_neg e]
 have e2 : 0 ≤ o ∧ o ≤ 16 → E = chkE l d := fun e => by rw [hE, bestE, if_pos e]
 have e3 : ¬ (1 ≤ n ∧ 8 ≤ d ∧ d ≤ 26) → chkE l d = 1 := fun e => by unfold chkE; rw [if_pos (by omega)]
 have e4 : (1 ≤ n ∧ 8 ≤ d ∧ d ≤ 26) → chkE l d = if l.any (lacksP d) = true then 9 else 0 := fun e => by unfold chkE; rw [if_neg (by omega)]
 refine pure0 ?_ rfl rfl h
 by_cases ho : 0 ≤ o ∧ o ≤ 16
 case neg =>
  have e1 := e1 ho
  clear e2 hE
  subst e1
  refine wlk Tryz.f10 ?_
  unhygienic intros
  by_cases h1 : o < 0
  ·(conv => cbv)
   repeat' (first | assumption | ((first | refine stp ?_ | refine stpB (fun _ => ?_) (fun _ => ?_)) <;> (conv => cbv)) | exact stpF | fail)
   all_goals exact hk.fin0 rfl rfl (Wk.refl _ _)
  ·have h2 : o > 16 := by omega
   (conv => cbv)
   repeat' (first | assumption | ((first | refine stp ?_ | refine stpB (fun _ => ?_) (fun _ => ?_)) <;> (conv => cbv)) | exact stpF | fail)
   all_goals exact hk.fin0 rfl rfl (Wk.refl _ _)
 have e2 := e2 ho
 rw [e2]
 obtain ⟨o0, o1⟩ := ho
 have o2 : ¬ o < 0 := by omega
 have o3 : ¬ o > 16 := by omega
 clear e1 hE
 by_cases hr : 1 ≤ n ∧ 8 ≤ d ∧ d ≤ 26
 case neg =>
  rw [e3 hr]
  by_cases h1 : n < 1
  ·refine wlk Tryz.f10 ?_
   unhygienic intros
   have hln : lnI l = n := by rw [hk.lnI_eq]; omega
   (conv => cbv)
   repeat' (first | assumption | ((first | rw [hln] | refine stp ?_ | refine stpB (fun _ => ?_) (fun _ => ?_)) <;> (conv => cbv)) | exact stpF | fail)
   all_goals exact hk.fin0 rfl rfl (Wk.refl _ _)
  ·rw [show (decide (8 ≤ d) && decide (d ≤ 26)) = false by
    rw [Bool.eq_false_iff]; intro h; rw [Bool.and_eq_true, decide_eq_true_eq, decide_eq_true_eq] at h; omega] at hdp
   refine wlk Tryz.f10 ?_
   unhygienic intros
   have hln : lnI l = n := by rw [hk.lnI_eq]; omega
   (conv => cbv)
   repeat' (first | assumption | ((first | rw [hln] | refine stp ?_ | refine stpB (fun _ => ?_) (fun _ => ?_)) <;> (conv => cbv)) | exact stpF | fail)
   all_goals exact hk.fin0 rfl rfl (Wk.refl _ _)
 rw [e4 hr]
 obtain ⟨r1, r2, r3⟩ := hr
 have r4 : ¬ n < 1 := by omega
 rw [decide_eq_true r2, decide_eq_true r3, Bool.true_and] at hdp
 have hhas := fun v h => rhas_spec d v h r2 r3
 have hf1 : ∀ i : Int, 0 ≤ i → i < n → lacksP d (l.getD i.toNat 0) = true → (if l.any (lacksP d) = true then (9 : Int) else 0) = 9 := fun i a b e => by
  rw [if_pos]
  rw [List.any_eq_true]
  exact ⟨_, mem_getD.2 ⟨i.toNat, by omega, rfl⟩, e⟩
 have hf2 : (∀ j, j < n.toNat → lacksP d (l.getD j 0) = false) → (if l.any (lacksP d) = true then (9 : Int) else 0) = 0 := fun e => by
  rw [if_neg]
  rw [List.any_eq_true]
  rintro ⟨x, hx, hx2⟩
  obtain ⟨j, hj, rfl⟩ := mem_getD.1 hx
  rw [e j (by omega)] at hx2
  cases hx2
 obtain ⟨E9, hE9⟩ : ∃ E : Int, E = if l.any (lacksP d) = true then (9 : Int) else 0 := ⟨_, rfl⟩
 simp only [← hE9] at hf1 hf2 ⊢
 obtain ⟨L, hL⟩ : ∃ L : Int → Bool, ∀ v, L v = lacksP d v := ⟨_, fun _ => rfl⟩
 simp only [← hL] at hf1 hf2 hhas
 clear hE9 e2 e3 e4 hL
 refine wlk Tryz.f10 ?_
 unhygienic intros
 have hln : lnI l = n := by rw [hk.lnI_eq]; omega
 have hgl := hk.gtI_eq l
 have hbn := hk.bn_eq
 (conv => cbv)
 repeat' (first | assumption | ((first | rw [hln] | refine stp ?_ | refine stpB (fun _ => ?_) (fun _ => ?_)) <;> (conv => cbv)) | exact stpF | fail)
 refine hk.loopI (loop_rule (α := Int) (fun i => [(1, .int .i64 d), (6, .int .i64 0), (27, .ls (.il .i64 l) .any), (28, .int .i64 n), (29, .int .i64 i)]) (fun _ => [.box [.int .i64 o, .int .i64 dp, .bool lags, .bool wv, .bool sft]])
  (fun i => 0 ≤ i ∧ i ≤ n ∧ ∀ j, j < i.toNat → L (l.getD j 0) = false) (fun i => (n - i).toNat) 0 ⟨by omega, by omega, fun j hj => by omega⟩ ?_ ?_)
 ·exact ghT
 intro i ⟨hi, hi2, hi3⟩ Q' hb hx hr
 by_cases h3 : i < n
 ·have hf1 := hf1 i hi h3
  have hgi := hgl i
  obtain ⟨v, hv⟩ : ∃ v, v = l.getD i.toNat 0 := ⟨_, rfl⟩
  rw [← hv] at hgi hf1
  have hhv := fun h => hhas v h
  obtain ⟨b, hb0⟩ : ∃ b, b = L v := ⟨_, rfl⟩
  rw [← hb0] at hf1
  simp only [← hb0] at hhv
  cases b
  ·clear hf1
   (conv => cbv)
   repeat' (first | assumption | ((first | rw [hln] | rw [hgi] | refine hk.idxI hi h3 ?_ | refine hr _ ?_ | refine stp ?_ | refine stpB (fun _ => ?_) (fun _ => ?_)) <;> (conv => cbv)) | exact stpF | fail)
   refine hb (i + 1) _ ⟨by omega, by omega, fun j hj => ?_⟩ (by omega) ?_
   ·by_cases e : j < i.toNat
    ·exact hi3 j e
    ·rw [show j = i.toNat by omega, ← hv]; exact hb0.symm
   refine Gh.tm ?_
   repeat' (first | exact Holds.nil _ _ | refine Holds.cons (Wk.refl _ _) ?_ | refine Holds.cons (Wk.of_eq ?_) ?_)
   all_goals first
    | (rw [← hk.add64 i 1 (by omega) (by omega)]; rfl)
    | rfl
    | skip
  ·have hf1 := hf1 rfl
   subst hf1
   (conv => cbv)
   repeat' (first | assumption | ((first | rw [hln] | rw [hgi] | refine hk.idxI hi h3 ?_ | refine hr _ ?_ | refine stp ?_ | refine stpB (fun _ => ?_) (fun _ => ?_)) <;> (conv => cbv)) | exact stpF | fail)
   all_goals exact hk.fin0 rfl rfl (Wk.refl _ _)
 ·have : i = n := by omega
  subst this
  have hf2 := hf2 hi3
  subst hf2
  (conv => cbv)
  repeat' (first | assumption | ((first | rw [hln] | refine hx _ _ ?_ | refine stp ?_ | refine stpB (fun _ => ?_) (fun _ => ?_)) <;> (conv => cbv)) | exact stpF | fail)
  all_goals exact hk.fin0 rfl rfl (Wk.refl _ _)
theorem bestE_ok {l : List Int} {d o : Int} (h : bestE l d o = 0) : (0 ≤ o ∧ o ≤ 16) ∧ chkE l d = 0 := by
 unfold bestE at h
 split at h
 ·exact ⟨by assumption, h⟩
 ·cases h
end Go.Proofs.YtoeekjddeknmbaaGreat
