/-
  Contracts of functions of the program, proved over the abstract machine of the Al texts.
-/
import Derived.Test.YtoeekjddeknmbaaGreatBaseX
import Derived.Test.YtoeekjddeknmbaaGreatRkX
import Derived.Test.YtoeekjddeknmbaaGreatBsX1
import Derived.Test.YtoeekjddeknmbaaGreatBsX3
set_option maxHeartbeats 4000000
set_option maxRecDepth 20000
set_option linter.unusedSimpArgs false
set_option linter.unusedVariables false
open Go Go.AL
namespace Go.Proofs.YtoeekjddeknmbaaGreat
def bareP (sh : Int) (ix : List Int) (lg gn pt : Int) (rc : List Int) : Prop := sh = 0 ∧ ix.length = 0 ∧ lg = 0 ∧ gn = 0 ∧ pt = 0 ∧ rc.length = 0
instance (sh : Int) (ix : List Int) (lg gn pt : Int) (rc : List Int) : Decidable (bareP sh ix lg gn pt rc) := by unfold bareP; infer_instance
theorem bare_spec (kd vl sh : Int) (ix : List Int) (lg gn pt : Int) (rc da : List Int) (h : Heap) : Does PP 64 [.agg [I kd, I vl, I sh, LI ix, I lg, I gn, I pt, LI rc, LI da]] h (Is (.bool (decide (bareP sh ix lg gn pt rc))) h) := by
 obtain ⟨r, hr⟩ : ∃ r, r = decide (bareP sh ix lg gn pt rc) := ⟨_, rfl⟩
 rw [← hr]
 have hn : ¬ (sh = 0 ∧ (ix.length : Int) = 0 ∧ lg = 0 ∧ gn = 0 ∧ pt = 0) → r = false := fun h => by
  rw [hr, decide_eq_false_iff_not]; exact fun h2 => h ⟨h2.1, by rw [h2.2.1]; rfl, h2.2.2.1, h2.2.2.2.1, h2.2.2.2.2.1⟩
 have hy : (sh = 0 ∧ (ix.length : Int) = 0 ∧ lg = 0 ∧ gn = 0 ∧ pt = 0) → r = decide ((rc.length : Int) = 0) := fun h => by
  rw [hr]; exact decide_eq_decide.2 ⟨fun h2 => by rw [h2.2.2.2.2.2]; rfl, fun h2 => ⟨h.1, by omega, h.2.2.1, h.2.2.2.1, h.2.2.2.2, by omega⟩⟩
 clear hr
 refine pure0 ?_ rfl rfl h
 refine wlk Tryz.f64 ?_
 unhygienic intros
 have hc2 : ∀ a b, c2 .eql a b = decide (a = b) := hk.c2_eql
 rw [← hk.lnI_eq, ← hk.lnI_eq] at hy
 rw [← hk.lnI_eq] at hn
 obtain ⟨m, hm⟩ : ∃ m, m = lnI ix := ⟨_, rfl⟩
 rw [← hm] at hy hn
 (conv => cbv)
 repeat' (first | assumption | ((first | rw [← hm] | refine stp ?_ | refine stpB (fun _ => ?_) (fun _ => ?_)) <;> (conv => cbv)) | exact stpF | fail)
 ·rw [hy ⟨by omega, by omega, by omega, by omega, by omega⟩, hc2]
  exact hk.fin0 rfl rfl (.refl _ _)
 all_goals
  rw [hn (by omega)]
  exact hk.fin0 rfl rfl (.refl _ _)
theorem parts_spec (kd vl sh : Int) (ix : List Int) (lg gn pt : Int) (rc da : List Int) (h : Heap) : Does PP 69 [.agg [I kd, I vl, I sh, LI ix, I lg, I gn, I pt, LI rc, LI da]] h (Is (.agg [I pt, LI rc]) h) := by
 refine pure0 ?_ rfl rfl h
 refine wlk Tryz.f69 ?_
 unhygienic intros
 (conv => cbv)
 repeat' (first | assumption | ((first | refine stp ?_ | refine stpB (fun _ => ?_) (fun _ => ?_)) <;> (conv => cbv)) | exact stpF | fail)
 all_goals exact hk.fin0 rfl rfl (.refl _ _)
theorem term_spec (kd vl sh : Int) (ix : List Int) (lg gn pt : Int) (rc da : List Int) (h : Heap) : Does PP 66 [.agg [I kd, I vl, I sh, LI ix, I lg, I gn, I pt, LI rc, LI da]] h (Is (.agg [I lg, I gn]) h) := by
 refine pure0 ?_ rfl rfl h
 refine wlk Tryz.f66 ?_
 unhygienic intros
 (conv => cbv)
 repeat' (first | assumption | ((first | refine stp ?_ | refine stpB (fun _ => ?_) (fun _ => ?_)) <;> (conv => cbv)) | exact stpF | fail)
 all_goals exact hk.fin0 rfl rfl (.refl _ _)
theorem rparts_spec (kd vl sh : Int) (ix : List Int) (lg gn pt : Int) (rc da : List Int) (h : Heap) : Does PP 49 [.agg [I kd, I vl, I sh, LI ix, I lg, I gn, I pt, LI rc, LI da]] h (Is (.agg [I pt, LI rc]) h) := by
 refine pure0 ?_ rfl rfl h
 refine wlk Tryz.f49 ?_
 unhygienic intros
 (conv => cbv)
 repeat' (first | assumption | ((first | refine stp ?_ | refine stpB (fun _ => ?_) (fun _ => ?_)) <;> (conv => cbv)) | exact stpF | fail)
 all_goals exact hk.fin0 rfl rfl (.refl _ _)
def formE (kd vl sh : Int) (ix : List Int) (lg gn pt : Int) (rc da : List Int) (n d : Int) : Int :=
 if kd = 0 then (if bareP sh ix lg gn pt rc ∧ vl = 0 ∧ (da.length : Int) = 0 then 0 else 2)
 else if kd = 1 then (if bareP sh ix lg gn pt rc ∧ (da.length : Int) = 0 then 0 else 2)
 else if kd = 3 then (if bareP sh ix lg gn pt rc ∧ vl = 0 ∧ (da.length : Int) = n then 0 else 2)
 else if kd = 2 then (if vl = 0 ∧ 0 ≤ sh ∧ sh < d ∧ goodIx ix = true ∧ termB lg gn = true ∧ (da.length : Int) = n ∧ partsB n pt rc = true ∧ da.any farP = false then 0 else 2)
 else 16
theorem form_spec (kd vl sh : Int) (ix : List Int) (lg gn pt : Int) (rc da : List Int) (n d : Int) (h : Heap) (hl1 : ix.length ≤ 9223372036854775807) (hl2 : rc.length ≤ 9223372036854775807) (hl3 : da.length ≤ 9223372036854775807) :
 Does PP 32 [.agg [I kd, I vl, I sh, LI ix, I lg, I gn, I pt, LI rc, LI da], I n, I d] h (Is (I (formE kd vl sh ix lg gn pt rc da n d)) h) := by
 have hfp : (fun n : Int => decide (n < -8589934592) || decide (n ≥ 8589934592)) = farP := funext fun n => by
  unfold farP
  rw [show decide (n ≥ 8589934592) = decide (n > 8589934591) from decide_eq_decide.2 (by omega)]
 have hb := fun h => bare_spec kd vl sh ix lg gn pt rc da h
 have hg := fun h => lgood_spec ix h hl1
 have htm := fun h => term_spec kd vl sh ix lg gn pt rc da h
 have hpt := fun h => parts_spec kd vl sh ix lg gn pt rc da h
 have htg := fun h => lterm_spec lg gn h
 have hsg := fun h => sgood_spec n pt rc h hl2
 have hcf := fun h => contains_spec da 70 [] farP h hl3 (fun n => by rw [← hfp]; exact bfar_spec n h)
 obtain ⟨r, hr⟩ : ∃ r, r = formE kd vl sh ix lg gn pt rc da n d := ⟨_, rfl⟩
 rw [← hr]
 rw [formE] at hr
 obtain ⟨B, hB⟩ : ∃ b, b = decide (bareP sh ix lg gn pt rc) := ⟨_, rfl⟩
 have hB' : bareP sh ix lg gn pt rc ↔ B = true := by rw [hB, decide_eq_true_iff]
 obtain ⟨G, hG⟩ : ∃ b, b = goodIx ix := ⟨_, rfl⟩
 obtain ⟨M, hM⟩ : ∃ b, b = termB lg gn := ⟨_, rfl⟩
 obtain ⟨S, hS⟩ : ∃ b, b = partsB n pt rc := ⟨_, rfl⟩
 obtain ⟨F, hF⟩ : ∃ b, b = da.any farP := ⟨_, rfl⟩
 simp only [hB', ← hG, ← hM, ← hS, ← hF] at hr
 simp only [← hB] at hb
 simp only [← hG] at hg
 simp only [← hM] at htg
 simp only [← hS] at hsg
 simp only [← hF] at hcf
 clear hB hB' hG hM hS hF
 refine pure0 ?_ rfl rfl h
 refine wlk Tryz.f32 ?_
 unhygienic intros
 rw [← hk.lnI_eq] at hr
 obtain ⟨m, hm⟩ : ∃ m, m = lnI da := ⟨_, rfl⟩
 rw [← hm] at hr
 have hbt : bn true = false := hk.bn_eq _
 have hbf : bn false = true := hk.bn_eq _
 obtain ⟨q0, hq0⟩ : ∃ q, c2 .eql m 0 = q := ⟨_, rfl⟩
 have hq0' : m = 0 ↔ q0 = true := by rw [← hq0, hk.c2_eql, decide_eq_true_iff]
 obtain ⟨qn, hqn⟩ : ∃ q, c2 .eql m n = q := ⟨_, rfl⟩
 have hqn' : m = n ↔ qn = true := by rw [← hqn, hk.c2_eql, decide_eq_true_iff]
 simp only [hq0', hqn'] at hr
 clear hq0' hqn'
 by_cases k0 : kd = 0
 ·rw [if_pos k0] at hr
  clear hg htg hsg hcf
  (conv => cbv)
  cases B <;> cases q0 <;> repeat' (first | assumption | ((first | rw [← hm] | rw [hq0] | rw [hbt] | rw [hbf] | refine stp ?_ | refine stpB (fun _ => ?_) (fun _ => ?_)) <;> (conv => cbv)) | exact stpF | fail)
  all_goals
   rw [hr]
   first
    | (rw [if_pos (by simp_all)]; exact hk.fin0 rfl rfl (.refl _ _))
    | (rw [if_neg (by simp_all)]; exact hk.fin0 rfl rfl (.refl _ _))
    | skip
 rw [if_neg k0] at hr
 by_cases k1 : kd = 1
 ·rw [if_pos k1] at hr
  clear hg htg hsg hcf
  (conv => cbv)
  cases B <;> cases q0 <;> repeat' (first | assumption | ((first | rw [← hm] | rw [hq0] | rw [hbt] | rw [hbf] | refine stp ?_ | refine stpB (fun _ => ?_) (fun _ => ?_)) <;> (conv => cbv)) | exact stpF | fail)
  all_goals
   rw [hr]
   first
    | (rw [if_pos (by simp_all)]; exact hk.fin0 rfl rfl (.refl _ _))
    | (rw [if_neg (by simp_all)]; exact hk.fin0 rfl rfl (.refl _ _))
    | skip
 rw [if_neg k1] at hr
 by_cases k3 : kd = 3
 ·rw [if_pos k3] at hr
  clear hg htg hsg hcf
  (conv => cbv)
  cases B <;> cases qn <;> repeat' (first | assumption | ((first | rw [← hm] | rw [hqn] | rw [hbt] | rw [hbf] | refine stp ?_ | refine stpB (fun _ => ?_) (fun _ => ?_)) <;> (conv => cbv)) | exact stpF | fail)
  all_goals
   rw [hr]
   first
    | (rw [if_pos (by simp_all)]; exact hk.fin0 rfl rfl (.refl _ _))
    | (rw [if_neg (by simp_all)]; exact hk.fin0 rfl rfl (.refl _ _))
    | skip
 rw [if_neg k3] at hr
 by_cases k2 : kd = 2
 ·rw [if_pos k2] at hr
  by_cases hv : vl = 0 ∧ 0 ≤ sh ∧ sh < d
  ·obtain ⟨hv1, hv2, hv3⟩ := hv
   cases G
   ·repeat' (first | assumption | ((first | rw [← hm] | rw [hqn] | rw [hbt] | rw [hbf] | refine stp ?_ | refine stpB (fun _ => ?_) (fun _ => ?_)) <;> (conv => cbv)) | exact stpF | fail)
    all_goals
     rw [hr]
     first
      | (rw [if_pos (by simp_all)]; exact hk.fin0 rfl rfl (.refl _ _))
      | (rw [if_neg (by simp_all)]; exact hk.fin0 rfl rfl (.refl _ _))
      | skip
   cases M
   ·repeat' (first | assumption | ((first | rw [← hm] | rw [hqn] | rw [hbt] | rw [hbf] | refine stp ?_ | refine stpB (fun _ => ?_) (fun _ => ?_)) <;> (conv => cbv)) | exact stpF | fail)
    all_goals
     rw [hr]
     first
      | (rw [if_pos (by simp_all)]; exact hk.fin0 rfl rfl (.refl _ _))
      | (rw [if_neg (by simp_all)]; exact hk.fin0 rfl rfl (.refl _ _))
      | skip
   cases qn
   ·repeat' (first | assumption | ((first | rw [← hm] | rw [hqn] | rw [hbt] | rw [hbf] | refine stp ?_ | refine stpB (fun _ => ?_) (fun _ => ?_)) <;> (conv => cbv)) | exact stpF | fail)
    all_goals
     rw [hr]
     first
      | (rw [if_pos (by simp_all)]; exact hk.fin0 rfl rfl (.refl _ _))
      | (rw [if_neg (by simp_all)]; exact hk.fin0 rfl rfl (.refl _ _))
      | skip
   cases S
   ·repeat' (first | assumption | ((first | rw [← hm] | rw [hqn] | rw [hbt] | rw [hbf] | refine stp ?_ | refine stpB (fun _ => ?_) (fun _ => ?_)) <;> (conv => cbv)) | exact stpF | fail)
    all_goals
     rw [hr]
     first
      | (rw [if_pos (by simp_all)]; exact hk.fin0 rfl rfl (.refl _ _))
      | (rw [if_neg (by simp_all)]; exact hk.fin0 rfl rfl (.refl _ _))
      | skip
   cases F
   ·repeat' (first | assumption | ((first | rw [← hm] | rw [hqn] | rw [hbt] | rw [hbf] | refine stp ?_ | refine stpB (fun _ => ?_) (fun _ => ?_)) <;> (conv => cbv)) | exact stpF | fail)
    all_goals
     rw [hr]
     first
      | (rw [if_pos (by simp_all)]; exact hk.fin0 rfl rfl (.refl _ _))
      | (rw [if_neg (by simp_all)]; exact hk.fin0 rfl rfl (.refl _ _))
      | skip
   repeat' (first | assumption | ((first | rw [← hm] | rw [hqn] | rw [hbt] | rw [hbf] | refine stp ?_ | refine stpB (fun _ => ?_) (fun _ => ?_)) <;> (conv => cbv)) | exact stpF | fail)
   all_goals
    rw [hr]
    first
     | (rw [if_pos (by simp_all)]; exact hk.fin0 rfl rfl (.refl _ _))
     | (rw [if_neg (by simp_all)]; exact hk.fin0 rfl rfl (.refl _ _))
     | skip
  ·rw [if_neg (fun h => hv ⟨h.1, h.2.1, h.2.2.1⟩)] at hr
   (conv => cbv)
   repeat' (first | assumption | ((first | rw [← hm] | rw [hqn] | rw [hbt] | rw [hbf] | refine stp ?_ | refine stpB (fun _ => ?_) (fun _ => ?_)) <;> (conv => cbv)) | exact stpF | fail)
   all_goals
    rw [hr]
    exact hk.fin0 rfl rfl (.refl _ _)
 rw [if_neg k2] at hr
 ·(conv => cbv)
  repeat' (first | assumption | ((first | refine stp ?_ | refine stpB (fun _ => ?_) (fun _ => ?_)) <;> (conv => cbv)) | exact stpF | fail)
  rw [hr]
  exact hk.fin0 rfl rfl (.refl _ _)
theorem form_plain {kd vl sh : Int} {ix : List Int} {lg gn pt : Int} {rc da : List Int} {n d : Int} (h : formE kd vl sh ix lg gn pt rc da n d = 0) (h2 : kd ≠ 2) :
 (kd = 0 ∨ kd = 1 ∨ kd = 3) ∧ (kd = 3 → (da.length : Int) = n) := by
 unfold formE at h
 by_cases k0 : kd = 0
 ·exact ⟨.inl k0, by omega⟩
 rw [if_neg k0] at h
 by_cases k1 : kd = 1
 ·exact ⟨.inr (.inl k1), by omega⟩
 rw [if_neg k1] at h
 by_cases k3 : kd = 3
 ·rw [if_pos k3] at h
  refine ⟨.inr (.inr k3), fun _ => ?_⟩
  split at h
  ·rename_i hh
   exact hh.2.2
  ·exact absurd h (by decide)
 rw [if_neg k3, if_neg h2] at h
 exact absurd h (by decide)
end Go.Proofs.YtoeekjddeknmbaaGreat
