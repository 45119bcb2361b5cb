/-
  Contracts of functions of the program, proved over the abstract machine of the Al texts.
-/
import Derived.Test.YtoeekjddeknmbaaGreatTryTab
import Derived.Test.YtoeekjddeknmbaaGreatAl4
import Derived.Test.YtoeekjddeknmbaaGreatBaseX
import Derived.Test.YtoeekjddeknmbaaGreatBsX8
import Derived.Test.YtoeekjddeknmbaaGreatTkX3
import Derived.Test.YtoeekjddeknmbaaGreatTkX7
import Derived.Test.YtoeekjddeknmbaaGreatTuX4
import Derived.Test.YtoeekjddeknmbaaGreatTuX6
import Derived.Test.YtoeekjddeknmbaaGreatTuX5
set_option maxHeartbeats 4000000
set_option maxRecDepth 20000
set_option linter.unusedSimpArgs false
set_option linter.unusedVariables false
open Go Go.AL
namespace Go.Proofs.YtoeekjddeknmbaaGreat
theorem best_core (l : List Int) (d o dp : Int) (lags wv sft : Bool) (x : BlkIn) (E K : Int) (f : Bool)
 (hF : ∀ h, Does PP 8 [LI l, .agg [I o, I dp, .bool lags, .bool wv, .bool sft]] h (Is (.bool f) h))
 (hR : f = true → ∀ h, Does PP 10 [LI l, I d, .agg [I o, I dp, .bool lags, .bool wv, .bool sft]] h (Is (I E) h))
 (hB : f = true → ∀ h, Does PP 9 [LI l, I d, .agg [I o, I dp, .bool lags, .bool wv, .bool sft]] h (Is (.tup [x.v, I E]) h))
 (hC : f = true → ∀ h, Does PP 12 [LI l, I d, .agg [I o, I dp, .bool lags, .bool wv, .bool sft]] h (Is (I K) h))
 (hW : f = true → E = 0 → ∀ h, Does PP 13 [LI l, I d, .agg [I o, I dp, .bool lags, .bool wv, .bool sft]] h (Is (.tup [x.v, I K]) h))
 (hS : f = true → ∀ h, Does PP 11 [x.v, x.v] h (Is (.bool true) h))
 (hz : E ≠ 0 → x = zBlk ∧ K = 0) (hE : 0 ≤ E ∧ E ≤ 100) :
 Does PP 3 [LI l, I d, .agg [I o, I dp, .bool lags, .bool wv, .bool sft]] [] (Is (.bool true) []) := by
 have haw := awake13
 cases f
 ·clear hR hB hC hW hS hz
  refine wlk Tryz.f3 ?_
  unhygienic intros
  (conv => cbv)
  repeat' (first | assumption | ((first | refine stp ?_ | refine stpB (fun _ => ?_) (fun _ => ?_)) <;> (conv => cbv)) | exact stpF | fail)
  all_goals exact hk.fin0 rfl rfl (Wk.refl _ _)
 replace hR := hR rfl
 replace hB := hB rfl
 replace hC := hC rfl
 replace hS := hS rfl
 by_cases h0 : E = 0
 ·replace hW := hW rfl h0
  clear hz
  obtain ⟨kd, vl, sh, ix, lg, gn, pt, rc, da⟩ := x
  subst h0
  refine wlk Tryz.f3 ?_
  unhygienic intros
  (conv => cbv)
  repeat' (first | assumption | ((first | refine stp ?_ | refine stpB (fun _ => ?_) (fun _ => ?_)) <;> (conv => cbv)) | exact stpF | fail)
  all_goals first
   | exact hk.fin0 rfl rfl (Wk.refl _ _)
   | exact hk.fin0 rfl rfl (Wk.of_eq (congrArg _ (by rw [hk.c2_eql]; simp)))
 ·obtain ⟨hx, hK⟩ := hz h0
  clear hz hW
  subst hx
  subst hK
  have hS0 : ∀ h, Does PP 11 [zBlk.v, .agg [.int .i64 0, .int .i64 0, .int .i64 0, .ls .nl .nil, .int .i64 0, .int .i64 0, .int .i64 0, .ls .nl .nil, .ls .nl .nil]] h (Is (.bool true) h) := fun h =>
   (hS h).wk (WkL.cons (Wk.refl _ _) (WkL.cons (zblk0_wk 0 0) WkL.nil))
  refine wlk Tryz.f3 ?_
  unhygienic intros
  have hcv : cv .i64 E = E := by rw [hk.cv_eq]; exact wrap64 (by omega) (by omega)
  (conv => cbv)
  repeat' (first | assumption | ((first | rw [hcv] | refine stp ?_ | refine stpB (fun _ => ?_) (fun _ => ?_)) <;> (conv => cbv)) | exact stpF | fail)
  all_goals first
   | exact hk.fin0 rfl rfl (Wk.refl _ _)
   | exact hk.fin0 rfl rfl (Wk.of_eq (congrArg _ (by rw [hk.c2_eql]; simp)))
theorem bestE_rg (l : List Int) (d o : Int) : 0 ≤ bestE l d o ∧ bestE l d o ≤ 100 := by
 unfold bestE
 split
 ·exact chkE_rg l d
 ·decide
theorem few_len {l : List Int} {o : Int} {lags : Bool} (h : few13 (l.length : Nat) o lags = true) : l.length ≤ 32 := by
 unfold few13 at h
 simp only [Bool.and_eq_true, decide_eq_true_eq] at h
 omega
theorem tuneBest_law (l : List Int) (hl : l.length ≤ 9223372036854775807) (d : Int) (c : ChIn) (hc : -9223372036854775808 ≤ c.o ∧ c.o ≤ 9223372036854775807) : Does PP 3 [LI l, I d, c.v] [] (Is (.bool true) []) := by
 obtain ⟨o, dp, lags, wv, sft⟩ := c
 have hlen := fun (h : few13 (l.length : Nat) o lags = true) => few_len h
 refine best_core l d o dp lags wv sft (bestX l d o lags sft) (bestE l d o) (bestC l d o lags sft) (few13 (l.length : Nat) o lags) (fun h => few13_spec l o dp lags wv sft h hl)
  (fun f h => right13_spec l d o dp lags wv sft h (by have := hlen f; omega)) (fun f h => tbest_spec l d o dp lags wv sft h (by have := hlen f; omega)) (fun f h => tcost_spec l d o dp lags wv sft h (by have := hlen f; omega))
  (fun f he h => ?_) (fun f h => ?_) (fun he => ?_) (bestE_rg l d o)
 ·obtain ⟨⟨o0, o1⟩, hc⟩ := bestE_ok he
  have := rbest_ok l d o dp lags wv sft h (by have := hlen f; omega) hc o0 o1
  unfold bestX bestC
  rw [if_pos he, if_pos he]
  exact this
 ·unfold bestX
  split
  ·rename_i he
   obtain ⟨a, b, _, c1, c2, c3⟩ := bestR_tr (lags := lags) (sft := sft) he
   exact rSame_spec _ _ _ _ _ _ _ _ _ h (Nat.le_trans c1 (by decide)) (Nat.le_trans c2 (by decide)) (Nat.le_trans c3 (by decide))
  ·exact rSame_spec _ _ _ _ _ _ _ _ _ h (by decide) (by decide) (by decide)
 ·unfold bestX bestC
  rw [if_neg he, if_neg he]
  exact ⟨rfl, rfl⟩
end Go.Proofs.YtoeekjddeknmbaaGreat
