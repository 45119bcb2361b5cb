/-
  Contracts of functions of the program, proved over the abstract machine of the Al texts.
-/
import Derived.Test.YtnnpookoencpnaaTryTab
import Derived.Test.YtnnpookoencpnaaAl4
import Derived.Test.YtnnpookoencpnaaBase
import Derived.Test.YtnnpookoencpnaaRkX
import Derived.Test.YtnnpookoencpnaaBk
import Derived.Test.YtnnpookoencpnaaBsX1
import Derived.Test.YtnnpookoencpnaaBsX3
import Derived.Test.YtnnpookoencpnaaBsX5
import Derived.Test.YtnnpookoencpnaaBsX8
import Derived.Test.YtnnpookoencpnaaPlY
set_option maxHeartbeats 4000000
set_option maxRecDepth 20000
set_option linter.unusedSimpArgs false
set_option linter.unusedVariables false
open Go Go.AL
namespace Go.Proofs.Ytnnpookoencpnaa
theorem rSame0_nil (h : Heap) : Does PP 20 [bv 0 0 [], .agg [I 0, I 0, I 0, .ls .nl .nil, I 0, I 0, I 0, .ls .nl .nil, .ls .nl .nil]] h (Is (.bool true) h) :=
  (rSame0_spec h).wk (WkL.cons (Wk.refl _ _) (WkL.cons (Wk.agg ⟨.refl _ _, .refl _ _, .refl _ _, Wk.nilL _ _, .refl _ _, .refl _ _, .refl _ _, Wk.nilL _ _, Wk.nilL _ _, trivial⟩) WkL.nil))
theorem plain_out (l : List Int) (d : Int) (hl : l.length ≤ 9223372036854775807) (hn : 64 < l.length) : Does PP 5 [LI l, I d] [] (Is (.bool true) []) := by
  have haw := awake10
  obtain ⟨n, hn0⟩ : ∃ n : Int, n = (l.length : Nat) := ⟨_, rfl⟩
  refine doesF P_ok Try.f5 (by kernel_rfl) (by kernel_rfl) ?_
  intro i2 c2 u1 cv mx mn ad sbt bn bq ba lnI gtI apI sbI stI rpI lnG gtG apG sbG stG rpG fi fb fs fl fg fc sln sgt sap ssb sc b2s s2b nd call calld callv callvd loop rfun fin hk
  have hln : lnI l = n := by rw [hk.lnI_eq]; omega
  (conv => cbv)
  repeat' (first
    | assumption
    | (rw [hln]; (conv => cbv))
    | (refine hk.callA (haw _) ?_; (conv => cbv))
    | (refine hk.calldA haw ?_; (conv => cbv))
    | (refine hk.brLssT (by omega) ?_; (conv => cbv))
    | (refine hk.brLssF (by omega) ?_; (conv => cbv))
    | (refine hk.brLeqT (by omega) ?_; (conv => cbv))
    | (refine hk.brLeqF (by omega) ?_; (conv => cbv))
    | (refine hk.brGtrT (by omega) ?_; (conv => cbv))
    | (refine hk.brGtrF (by omega) ?_; (conv => cbv))
    | (refine hk.brGeqT (by omega) ?_; (conv => cbv))
    | (refine hk.brGeqF (by omega) ?_; (conv => cbv))
    | (refine hk.brEqlT (by omega) ?_; (conv => cbv))
    | (refine hk.brEqlF (by omega) ?_; (conv => cbv))
    | (refine hk.brNeqT (by omega) ?_; (conv => cbv))
    | (refine hk.brNeqF (by omega) ?_; (conv => cbv))
    | (refine hk.brLss (fun _ => ?_) (fun _ => ?_) <;> (conv => cbv))
    | (refine hk.brLeq (fun _ => ?_) (fun _ => ?_) <;> (conv => cbv))
    | (refine hk.brGtr (fun _ => ?_) (fun _ => ?_) <;> (conv => cbv))
    | (refine hk.brGeq (fun _ => ?_) (fun _ => ?_) <;> (conv => cbv))
    | (refine hk.brEql (fun _ => ?_) (fun _ => ?_) <;> (conv => cbv))
    | (refine hk.brNeq (fun _ => ?_) (fun _ => ?_) <;> (conv => cbv))
    | (refine hk.brNotT ?_; (conv => cbv))
    | (refine hk.brNotF ?_; (conv => cbv))
    | (refine hk.brNotS _ (by simp [hk.c2_lss, hk.c2_leq, hk.c2_gtr, hk.c2_geq, hk.c2_eql, hk.c2_neq, hk.bn_eq, hk.bq_eq]; rfl) ?_; (conv => cbv))
    | (refine hk.brBqS _ (by simp [hk.c2_lss, hk.c2_leq, hk.c2_gtr, hk.c2_geq, hk.c2_eql, hk.c2_neq, hk.bn_eq, hk.bq_eq]; rfl) ?_; (conv => cbv))
    | (refine hk.idxI (by first | omega | assumption) (by first | omega | assumption) ?_; (conv => cbv))
    | (refine hk.nzI (by first | omega | assumption | decide) ?_; (conv => cbv))
    | (refine hk.ge0I (by first | omega | assumption) ?_; (conv => cbv))
    | (refine hk.needI (by first | (simp only [rNd, hk.sb_eq, hk.ad_eq]; omega) | (simp [rNd, hk.sb_eq, hk.ad_eq]; omega)) ?_; (conv => cbv))
    | (refine hk.callA (by assumption) ?_; (conv => cbv))
    | (refine hk.calldA (by assumption) ?_; (conv => cbv))
    | (rw [hk.sb0]; (conv => cbv))
    | (rw [hk.ad0]; (conv => cbv))
    | exact hk.finB (by first | rfl | (simp [hk.c2_lss, hk.c2_leq, hk.c2_gtr, hk.c2_geq, hk.c2_eql, hk.c2_neq, hk.bn_eq, hk.bq_eq]; done) | assumption)
    | exact hk.fin1 rfl)
  all_goals first
    | exact hk.fin0 rfl rfl (Wk.refl _ _)
    | skip
theorem plain_range (l : List Int) (d : Int) (hl : l.length ≤ 64) (hb : l.length = 0 ∨ ¬ (8 ≤ d ∧ d ≤ 26)) : Does PP 5 [LI l, I d] [] (Is (.bool true) []) := by
  have haw := awake10
  have he : chkE l d = 1 := by rw [chkE, if_pos (by omega)]
  have hpl := fun h => plain_bad l d h (by omega) (by rw [he]; decide)
  rw [he] at hpl
  have hrd := fun h => rdepth_spec d h
  have hsm := fun h => rSame0_nil h
  obtain ⟨n, hn0⟩ : ∃ n : Int, n = (l.length : Nat) := ⟨_, rfl⟩
  have hd : n < 1 ∨ (decide (8 ≤ d) && decide (d ≤ 26)) = false := by
    rcases hb with h | h
    · exact .inl (by omega)
    · exact .inr (by rw [Bool.and_eq_false_iff, decide_eq_false_iff_not, decide_eq_false_iff_not]; omega)
  obtain ⟨b, hb0⟩ : ∃ b, b = (decide (8 ≤ d) && decide (d ≤ 26)) := ⟨_, rfl⟩
  rw [← hb0] at hd
  simp only [← hb0] at hrd
  clear hb0 he hb
  refine doesF P_ok Try.f5 (by kernel_rfl) (by kernel_rfl) ?_
  intro i2 c2 u1 cv mx mn ad sbt bn bq ba lnI gtI apI sbI stI rpI lnG gtG apG sbG stG rpG fi fb fs fl fg fc sln sgt sap ssb sc b2s s2b nd call calld callv callvd loop rfun fin hk
  have hln : lnI l = n := by rw [hk.lnI_eq]; omega
  by_cases h1 : n < 1
  · (conv => cbv)
    repeat' (first
      | assumption
      | (rw [hln]; (conv => cbv))
      | (refine hk.callA (haw _) ?_; (conv => cbv))
      | (refine hk.calldA haw ?_; (conv => cbv))
      | (refine hk.callA (hpl _) ?_; (conv => cbv))
      | (refine hk.calldA hpl ?_; (conv => cbv))
      | (refine hk.callA (hrd _) ?_; (conv => cbv))
      | (refine hk.calldA hrd ?_; (conv => cbv))
      | (refine hk.callA (hsm _) ?_; (conv => cbv))
      | (refine hk.calldA hsm ?_; (conv => cbv))
      | (refine hk.brLssT (by omega) ?_; (conv => cbv))
      | (refine hk.brLssF (by omega) ?_; (conv => cbv))
      | (refine hk.brLeqT (by omega) ?_; (conv => cbv))
      | (refine hk.brLeqF (by omega) ?_; (conv => cbv))
      | (refine hk.brGtrT (by omega) ?_; (conv => cbv))
      | (refine hk.brGtrF (by omega) ?_; (conv => cbv))
      | (refine hk.brGeqT (by omega) ?_; (conv => cbv))
      | (refine hk.brGeqF (by omega) ?_; (conv => cbv))
      | (refine hk.brEqlT (by omega) ?_; (conv => cbv))
      | (refine hk.brEqlF (by omega) ?_; (conv => cbv))
      | (refine hk.brNeqT (by omega) ?_; (conv => cbv))
      | (refine hk.brNeqF (by omega) ?_; (conv => cbv))
      | (refine hk.brLss (fun _ => ?_) (fun _ => ?_) <;> (conv => cbv))
      | (refine hk.brLeq (fun _ => ?_) (fun _ => ?_) <;> (conv => cbv))
      | (refine hk.brGtr (fun _ => ?_) (fun _ => ?_) <;> (conv => cbv))
      | (refine hk.brGeq (fun _ => ?_) (fun _ => ?_) <;> (conv => cbv))
      | (refine hk.brEql (fun _ => ?_) (fun _ => ?_) <;> (conv => cbv))
      | (refine hk.brNeq (fun _ => ?_) (fun _ => ?_) <;> (conv => cbv))
      | (refine hk.brNotT ?_; (conv => cbv))
      | (refine hk.brNotF ?_; (conv => cbv))
      | (refine hk.brNotS _ (by simp [hk.c2_lss, hk.c2_leq, hk.c2_gtr, hk.c2_geq, hk.c2_eql, hk.c2_neq, hk.bn_eq, hk.bq_eq]; rfl) ?_; (conv => cbv))
      | (refine hk.brBqS _ (by simp [hk.c2_lss, hk.c2_leq, hk.c2_gtr, hk.c2_geq, hk.c2_eql, hk.c2_neq, hk.bn_eq, hk.bq_eq]; rfl) ?_; (conv => cbv))
      | (refine hk.idxI (by first | omega | assumption) (by first | omega | assumption) ?_; (conv => cbv))
      | (refine hk.nzI (by first | omega | assumption | decide) ?_; (conv => cbv))
      | (refine hk.ge0I (by first | omega | assumption) ?_; (conv => cbv))
      | (refine hk.needI (by first | (simp only [rNd, hk.sb_eq, hk.ad_eq]; omega) | (simp [rNd, hk.sb_eq, hk.ad_eq]; omega)) ?_; (conv => cbv))
      | (refine hk.callA (by assumption) ?_; (conv => cbv))
      | (refine hk.calldA (by assumption) ?_; (conv => cbv))
      | (rw [hk.sb0]; (conv => cbv))
      | (rw [hk.ad0]; (conv => cbv))
      | exact hk.finB (by first | rfl | (simp [hk.c2_lss, hk.c2_leq, hk.c2_gtr, hk.c2_geq, hk.c2_eql, hk.c2_neq, hk.bn_eq, hk.bq_eq]; done) | assumption)
      | exact hk.fin1 rfl)
    all_goals first
      | exact hk.fin0 rfl rfl (Wk.refl _ _)
      | skip
  · have hb : b = false := hd.resolve_left h1
    subst hb
    (conv => cbv)
    repeat' (first
      | assumption
      | (rw [hln]; (conv => cbv))
      | (refine hk.callA (haw _) ?_; (conv => cbv))
      | (refine hk.calldA haw ?_; (conv => cbv))
      | (refine hk.callA (hpl _) ?_; (conv => cbv))
      | (refine hk.calldA hpl ?_; (conv => cbv))
      | (refine hk.callA (hrd _) ?_; (conv => cbv))
      | (refine hk.calldA hrd ?_; (conv => cbv))
      | (refine hk.callA (hsm _) ?_; (conv => cbv))
      | (refine hk.calldA hsm ?_; (conv => cbv))
      | (refine hk.brLssT (by omega) ?_; (conv => cbv))
      | (refine hk.brLssF (by omega) ?_; (conv => cbv))
      | (refine hk.brLeqT (by omega) ?_; (conv => cbv))
      | (refine hk.brLeqF (by omega) ?_; (conv => cbv))
      | (refine hk.brGtrT (by omega) ?_; (conv => cbv))
      | (refine hk.brGtrF (by omega) ?_; (conv => cbv))
      | (refine hk.brGeqT (by omega) ?_; (conv => cbv))
      | (refine hk.brGeqF (by omega) ?_; (conv => cbv))
      | (refine hk.brEqlT (by omega) ?_; (conv => cbv))
      | (refine hk.brEqlF (by omega) ?_; (conv => cbv))
      | (refine hk.brNeqT (by omega) ?_; (conv => cbv))
      | (refine hk.brNeqF (by omega) ?_; (conv => cbv))
      | (refine hk.brLss (fun _ => ?_) (fun _ => ?_) <;> (conv => cbv))
      | (refine hk.brLeq (fun _ => ?_) (fun _ => ?_) <;> (conv => cbv))
      | (refine hk.brGtr (fun _ => ?_) (fun _ => ?_) <;> (conv => cbv))
      | (refine hk.brGeq (fun _ => ?_) (fun _ => ?_) <;> (conv => cbv))
      | (refine hk.brEql (fun _ => ?_) (fun _ => ?_) <;> (conv => cbv))
      | (refine hk.brNeq (fun _ => ?_) (fun _ => ?_) <;> (conv => cbv))
      | (refine hk.brNotT ?_; (conv => cbv))
      | (refine hk.brNotF ?_; (conv => cbv))
      | (refine hk.brNotS _ (by simp [hk.c2_lss, hk.c2_leq, hk.c2_gtr, hk.c2_geq, hk.c2_eql, hk.c2_neq, hk.bn_eq, hk.bq_eq]; rfl) ?_; (conv => cbv))
      | (refine hk.brBqS _ (by simp [hk.c2_lss, hk.c2_leq, hk.c2_gtr, hk.c2_geq, hk.c2_eql, hk.c2_neq, hk.bn_eq, hk.bq_eq]; rfl) ?_; (conv => cbv))
      | (refine hk.idxI (by first | omega | assumption) (by first | omega | assumption) ?_; (conv => cbv))
      | (refine hk.nzI (by first | omega | assumption | decide) ?_; (conv => cbv))
      | (refine hk.ge0I (by first | omega | assumption) ?_; (conv => cbv))
      | (refine hk.needI (by first | (simp only [rNd, hk.sb_eq, hk.ad_eq]; omega) | (simp [rNd, hk.sb_eq, hk.ad_eq]; omega)) ?_; (conv => cbv))
      | (refine hk.callA (by assumption) ?_; (conv => cbv))
      | (refine hk.calldA (by assumption) ?_; (conv => cbv))
      | (rw [hk.sb0]; (conv => cbv))
      | (rw [hk.ad0]; (conv => cbv))
      | exact hk.finB (by first | rfl | (simp [hk.c2_lss, hk.c2_leq, hk.c2_gtr, hk.c2_geq, hk.c2_eql, hk.c2_neq, hk.bn_eq, hk.bq_eq]; done) | assumption)
      | exact hk.fin1 rfl)
    all_goals first
      | exact hk.fin0 rfl rfl (Wk.refl _ _)
      | skip
theorem plain_lack (l : List Int) (d : Int) (hl0 : 1 ≤ l.length) (hl : l.length ≤ 64) (h3 : 8 ≤ d) (h4 : d ≤ 26) (hb : l.any (lacksP d) = true) : Does PP 5 [LI l, I d] [] (Is (.bool true) []) := by
  have haw := awake10
  have he : chkE l d = 9 := by rw [chkE, if_neg (by omega), if_pos hb]
  have hpl := fun h => plain_bad l d h (by omega) (by rw [he]; decide)
  rw [he] at hpl
  have hrd := fun h => rdepth_spec d h
  rw [decide_eq_true h3, decide_eq_true h4] at hrd
  have hsm := fun h => rSame0_nil h
  have hha := fun n h => rhas_spec d n h h3 h4
  obtain ⟨g, hg⟩ : ∃ g : Int → Bool, ∀ n, g n = !lacksP d n := ⟨_, fun _ => rfl⟩
  simp only [← hg] at hha
  have hno : ¬ ∀ j, j < l.length → g (l.getD j 0) = true := fun h => by
    rw [List.any_eq_true] at hb
    obtain ⟨x, hx, hx2⟩ := hb
    obtain ⟨j, hj, e⟩ := mem_getD.1 hx
    have := h j hj
    rw [e, hg, hx2] at this
    cases this
  obtain ⟨n, hn0⟩ : ∃ n : Int, n = (l.length : Nat) := ⟨_, rfl⟩
  clear he hb hg
  refine doesF P_ok Try.f5 (by kernel_rfl) (by kernel_rfl) ?_
  intro i2 c2 u1 cv mx mn ad sbt bn bq ba lnI gtI apI sbI stI rpI lnG gtG apG sbG stG rpG fi fb fs fl fg fc sln sgt sap ssb sc b2s s2b nd call calld callv callvd loop rfun fin hk
  have hln : lnI l = n := by rw [hk.lnI_eq]; omega
  have hgt := hk.gtI_eq l
  (conv => cbv)
  repeat' (first
    | assumption
    | (rw [hln]; (conv => cbv))
    | (refine hk.callA (haw _) ?_; (conv => cbv))
    | (refine hk.calldA haw ?_; (conv => cbv))
    | (refine hk.callA (hpl _) ?_; (conv => cbv))
    | (refine hk.calldA hpl ?_; (conv => cbv))
    | (refine hk.callA (hrd _) ?_; (conv => cbv))
    | (refine hk.calldA hrd ?_; (conv => cbv))
    | (refine hk.idxI (by omega) (by omega : (0 : Int) < n) ?_; (conv => cbv))
    | (refine hk.brLssT (by omega) ?_; (conv => cbv))
    | (refine hk.brLssF (by omega) ?_; (conv => cbv))
    | (refine hk.brLeqT (by omega) ?_; (conv => cbv))
    | (refine hk.brLeqF (by omega) ?_; (conv => cbv))
    | (refine hk.brGtrT (by omega) ?_; (conv => cbv))
    | (refine hk.brGtrF (by omega) ?_; (conv => cbv))
    | (refine hk.brGeqT (by omega) ?_; (conv => cbv))
    | (refine hk.brGeqF (by omega) ?_; (conv => cbv))
    | (refine hk.brEqlT (by omega) ?_; (conv => cbv))
    | (refine hk.brEqlF (by omega) ?_; (conv => cbv))
    | (refine hk.brNeqT (by omega) ?_; (conv => cbv))
    | (refine hk.brNeqF (by omega) ?_; (conv => cbv))
    | (refine hk.brLss (fun _ => ?_) (fun _ => ?_) <;> (conv => cbv))
    | (refine hk.brLeq (fun _ => ?_) (fun _ => ?_) <;> (conv => cbv))
    | (refine hk.brGtr (fun _ => ?_) (fun _ => ?_) <;> (conv => cbv))
    | (refine hk.brGeq (fun _ => ?_) (fun _ => ?_) <;> (conv => cbv))
    | (refine hk.brEql (fun _ => ?_) (fun _ => ?_) <;> (conv => cbv))
    | (refine hk.brNeq (fun _ => ?_) (fun _ => ?_) <;> (conv => cbv))
    | (refine hk.brNotT ?_; (conv => cbv))
    | (refine hk.brNotF ?_; (conv => cbv))
    | (refine hk.brNotS _ (by simp [hk.c2_lss, hk.c2_leq, hk.c2_gtr, hk.c2_geq, hk.c2_eql, hk.c2_neq, hk.bn_eq, hk.bq_eq]; rfl) ?_; (conv => cbv))
    | (refine hk.brBqS _ (by simp [hk.c2_lss, hk.c2_leq, hk.c2_gtr, hk.c2_geq, hk.c2_eql, hk.c2_neq, hk.bn_eq, hk.bq_eq]; rfl) ?_; (conv => cbv))
    | (refine hk.idxI (by first | omega | assumption) (by first | omega | assumption) ?_; (conv => cbv))
    | (refine hk.nzI (by first | omega | assumption | decide) ?_; (conv => cbv))
    | (refine hk.ge0I (by first | omega | assumption) ?_; (conv => cbv))
    | (refine hk.needI (by first | (simp only [rNd, hk.sb_eq, hk.ad_eq]; omega) | (simp [rNd, hk.sb_eq, hk.ad_eq]; omega)) ?_; (conv => cbv))
    | (refine hk.callA (by assumption) ?_; (conv => cbv))
    | (refine hk.calldA (by assumption) ?_; (conv => cbv))
    | (rw [hk.sb0]; (conv => cbv))
    | (rw [hk.ad0]; (conv => cbv))
    | exact hk.finB (by first | rfl | (simp [hk.c2_lss, hk.c2_leq, hk.c2_gtr, hk.c2_geq, hk.c2_eql, hk.c2_neq, hk.bn_eq, hk.bq_eq]; done) | assumption)
    | exact hk.fin1 rfl)
  refine hk.loopI (loop_rule (α := Int × Int × Int) (fun x => [(0, .ls (.il .i64 l) .any), (1, .int .i64 d), (4, .bool false), (5, .ptr 0 0), (6, .int .i64 9), (7, .int .i64 x.2.1), (8, .int .i64 x.2.2), (46, .ls (.il .i64 l) .any), (47, .int .i64 n), (48, .int .i64 x.1)]) (fun _ => [.box [.int .i64 0, .int .i64 0, .int .i64 0, .ls (.il .i64 []) .any, .int .i64 0, .int .i64 0, .int .i64 0, .ls (.il .i64 []) .any, .ls (.il .i64 []) .any]])
    (fun x => 0 ≤ x.1 ∧ x.1 ≤ n ∧ ∀ j, j < x.1.toNat → g (l.getD j 0) = true) (fun x => (n - x.1).toNat) (0, 1, gtI l 0) ⟨by simp only; omega, by simp only; omega, fun j hj => by simp at hj⟩ ?_ ?_)
  · exact Gh.tm (by repeat (first | exact Holds.nil _ _ | refine Holds.cons (Wk.refl _ _) ?_))
  intro ⟨i, k, v⟩ ⟨hi, hi2, hi3⟩ Q' hb hx hr
  simp only at hi hi2 hi3
  dsimp only
  by_cases hin : i < n
  · obtain ⟨x, hx0⟩ : ∃ x, x = gtI l i := ⟨_, rfl⟩
    obtain ⟨x0, hx00⟩ : ∃ x, x = gtI l 0 := ⟨_, rfl⟩
    have hxm := hx0
    rw [hgt] at hxm
    have hha := fun h => hha x h
    obtain ⟨b, hb0⟩ : ∃ b, b = g x := ⟨_, rfl⟩
    simp only [← hb0] at hha
    cases b
    · (conv => cbv)
      repeat' (first
        | assumption
        | (rw [hln]; (conv => cbv))
        | (refine hk.idxI hi hin ?_; (conv => cbv))
        | (rw [← hx0]; (conv => cbv))
        | (refine hk.callA (hha _) ?_; (conv => cbv))
        | (refine hk.calldA hha ?_; (conv => cbv))
        | (refine hr _ ?_; (conv => cbv))
        | (refine hk.callA (hsm _) ?_; (conv => cbv))
        | (refine hk.calldA hsm ?_; (conv => cbv))
        | (refine hk.brLssT (by omega) ?_; (conv => cbv))
        | (refine hk.brLssF (by omega) ?_; (conv => cbv))
        | (refine hk.brLeqT (by omega) ?_; (conv => cbv))
        | (refine hk.brLeqF (by omega) ?_; (conv => cbv))
        | (refine hk.brGtrT (by omega) ?_; (conv => cbv))
        | (refine hk.brGtrF (by omega) ?_; (conv => cbv))
        | (refine hk.brGeqT (by omega) ?_; (conv => cbv))
        | (refine hk.brGeqF (by omega) ?_; (conv => cbv))
        | (refine hk.brEqlT (by omega) ?_; (conv => cbv))
        | (refine hk.brEqlF (by omega) ?_; (conv => cbv))
        | (refine hk.brNeqT (by omega) ?_; (conv => cbv))
        | (refine hk.brNeqF (by omega) ?_; (conv => cbv))
        | (refine hk.brLss (fun _ => ?_) (fun _ => ?_) <;> (conv => cbv))
        | (refine hk.brLeq (fun _ => ?_) (fun _ => ?_) <;> (conv => cbv))
        | (refine hk.brGtr (fun _ => ?_) (fun _ => ?_) <;> (conv => cbv))
        | (refine hk.brGeq (fun _ => ?_) (fun _ => ?_) <;> (conv => cbv))
        | (refine hk.brEql (fun _ => ?_) (fun _ => ?_) <;> (conv => cbv))
        | (refine hk.brNeq (fun _ => ?_) (fun _ => ?_) <;> (conv => cbv))
        | (refine hk.brNotT ?_; (conv => cbv))
        | (refine hk.brNotF ?_; (conv => cbv))
        | (refine hk.brNotS _ (by simp [hk.c2_lss, hk.c2_leq, hk.c2_gtr, hk.c2_geq, hk.c2_eql, hk.c2_neq, hk.bn_eq, hk.bq_eq]; rfl) ?_; (conv => cbv))
        | (refine hk.brBqS _ (by simp [hk.c2_lss, hk.c2_leq, hk.c2_gtr, hk.c2_geq, hk.c2_eql, hk.c2_neq, hk.bn_eq, hk.bq_eq]; rfl) ?_; (conv => cbv))
        | (refine hk.idxI (by first | omega | assumption) (by first | omega | assumption) ?_; (conv => cbv))
        | (refine hk.nzI (by first | omega | assumption | decide) ?_; (conv => cbv))
        | (refine hk.ge0I (by first | omega | assumption) ?_; (conv => cbv))
        | (refine hk.needI (by first | (simp only [rNd, hk.sb_eq, hk.ad_eq]; omega) | (simp [rNd, hk.sb_eq, hk.ad_eq]; omega)) ?_; (conv => cbv))
        | (refine hk.callA (by assumption) ?_; (conv => cbv))
        | (refine hk.calldA (by assumption) ?_; (conv => cbv))
        | (rw [hk.sb0]; (conv => cbv))
        | (rw [hk.ad0]; (conv => cbv))
        | exact hk.finB (by first | rfl | (simp [hk.c2_lss, hk.c2_leq, hk.c2_gtr, hk.c2_geq, hk.c2_eql, hk.c2_neq, hk.bn_eq, hk.bq_eq]; done) | assumption)
        | exact hk.fin1 rfl)
      all_goals first
        | exact hk.fin0 rfl rfl (Wk.refl _ _)
        | skip
    · have hst : ∀ j, j < (i + 1).toNat → g (l.getD j 0) = true := fun j hj => by
        by_cases e : j = i.toNat
        · subst e; rw [← hxm]; exact hb0.symm
        · exact hi3 j (by omega)
      by_cases hxe : x = x0
      · subst hxe
        (conv => cbv)
        repeat' (first
          | assumption
          | (rw [hln]; (conv => cbv))
          | (refine hk.idxI hi hin ?_; (conv => cbv))
          | (refine hk.idxI (by omega) (by omega : (0 : Int) < n) ?_; (conv => cbv))
          | (rw [← hx0]; (conv => cbv))
          | (rw [← hx00]; (conv => cbv))
          | (refine hk.callA (hha _) ?_; (conv => cbv))
          | (refine hk.calldA hha ?_; (conv => cbv))
          | (refine hk.brLssT (by omega) ?_; (conv => cbv))
          | (refine hk.brLssF (by omega) ?_; (conv => cbv))
          | (refine hk.brLeqT (by omega) ?_; (conv => cbv))
          | (refine hk.brLeqF (by omega) ?_; (conv => cbv))
          | (refine hk.brGtrT (by omega) ?_; (conv => cbv))
          | (refine hk.brGtrF (by omega) ?_; (conv => cbv))
          | (refine hk.brGeqT (by omega) ?_; (conv => cbv))
          | (refine hk.brGeqF (by omega) ?_; (conv => cbv))
          | (refine hk.brEqlT (by omega) ?_; (conv => cbv))
          | (refine hk.brEqlF (by omega) ?_; (conv => cbv))
          | (refine hk.brNeqT (by omega) ?_; (conv => cbv))
          | (refine hk.brNeqF (by omega) ?_; (conv => cbv))
          | (refine hk.brLss (fun _ => ?_) (fun _ => ?_) <;> (conv => cbv))
          | (refine hk.brLeq (fun _ => ?_) (fun _ => ?_) <;> (conv => cbv))
          | (refine hk.brGtr (fun _ => ?_) (fun _ => ?_) <;> (conv => cbv))
          | (refine hk.brGeq (fun _ => ?_) (fun _ => ?_) <;> (conv => cbv))
          | (refine hk.brEql (fun _ => ?_) (fun _ => ?_) <;> (conv => cbv))
          | (refine hk.brNeq (fun _ => ?_) (fun _ => ?_) <;> (conv => cbv))
          | (refine hk.brNotT ?_; (conv => cbv))
          | (refine hk.brNotF ?_; (conv => cbv))
          | (refine hk.brNotS _ (by simp [hk.c2_lss, hk.c2_leq, hk.c2_gtr, hk.c2_geq, hk.c2_eql, hk.c2_neq, hk.bn_eq, hk.bq_eq]; rfl) ?_; (conv => cbv))
          | (refine hk.brBqS _ (by simp [hk.c2_lss, hk.c2_leq, hk.c2_gtr, hk.c2_geq, hk.c2_eql, hk.c2_neq, hk.bn_eq, hk.bq_eq]; rfl) ?_; (conv => cbv))
          | (refine hk.idxI (by first | omega | assumption) (by first | omega | assumption) ?_; (conv => cbv))
          | (refine hk.nzI (by first | omega | assumption | decide) ?_; (conv => cbv))
          | (refine hk.ge0I (by first | omega | assumption) ?_; (conv => cbv))
          | (refine hk.needI (by first | (simp only [rNd, hk.sb_eq, hk.ad_eq]; omega) | (simp [rNd, hk.sb_eq, hk.ad_eq]; omega)) ?_; (conv => cbv))
          | (refine hk.callA (by assumption) ?_; (conv => cbv))
          | (refine hk.calldA (by assumption) ?_; (conv => cbv))
          | (rw [hk.sb0]; (conv => cbv))
          | (rw [hk.ad0]; (conv => cbv))
          | exact hk.finB (by first | rfl | (simp [hk.c2_lss, hk.c2_leq, hk.c2_gtr, hk.c2_geq, hk.c2_eql, hk.c2_neq, hk.bn_eq, hk.bq_eq]; done) | assumption)
          | exact hk.fin1 rfl)
        refine hb (i + 1, k, v) _ ⟨by simp only; omega, by simp only; omega, hst⟩ (by simp only; omega) ?_
        dsimp only
        refine Gh.tm ?_
        repeat' (first | exact Holds.nil _ _ | refine Holds.cons (Wk.refl _ _) ?_ | refine Holds.cons (Wk.of_eq ?_) ?_)
        all_goals first
          | (rw [← hk.add64 i 1 (by omega) (by omega)]; rfl)
          | rfl
          | skip
      · (conv => cbv)
        repeat' (first
          | assumption
          | (rw [hln]; (conv => cbv))
          | (refine hk.idxI hi hin ?_; (conv => cbv))
          | (refine hk.idxI (by omega) (by omega : (0 : Int) < n) ?_; (conv => cbv))
          | (rw [← hx0]; (conv => cbv))
          | (rw [← hx00]; (conv => cbv))
          | (refine hk.callA (hha _) ?_; (conv => cbv))
          | (refine hk.calldA hha ?_; (conv => cbv))
          | (refine hk.brLssT (by omega) ?_; (conv => cbv))
          | (refine hk.brLssF (by omega) ?_; (conv => cbv))
          | (refine hk.brLeqT (by omega) ?_; (conv => cbv))
          | (refine hk.brLeqF (by omega) ?_; (conv => cbv))
          | (refine hk.brGtrT (by omega) ?_; (conv => cbv))
          | (refine hk.brGtrF (by omega) ?_; (conv => cbv))
          | (refine hk.brGeqT (by omega) ?_; (conv => cbv))
          | (refine hk.brGeqF (by omega) ?_; (conv => cbv))
          | (refine hk.brEqlT (by omega) ?_; (conv => cbv))
          | (refine hk.brEqlF (by omega) ?_; (conv => cbv))
          | (refine hk.brNeqT (by omega) ?_; (conv => cbv))
          | (refine hk.brNeqF (by omega) ?_; (conv => cbv))
          | (refine hk.brLss (fun _ => ?_) (fun _ => ?_) <;> (conv => cbv))
          | (refine hk.brLeq (fun _ => ?_) (fun _ => ?_) <;> (conv => cbv))
          | (refine hk.brGtr (fun _ => ?_) (fun _ => ?_) <;> (conv => cbv))
          | (refine hk.brGeq (fun _ => ?_) (fun _ => ?_) <;> (conv => cbv))
          | (refine hk.brEql (fun _ => ?_) (fun _ => ?_) <;> (conv => cbv))
          | (refine hk.brNeq (fun _ => ?_) (fun _ => ?_) <;> (conv => cbv))
          | (refine hk.brNotT ?_; (conv => cbv))
          | (refine hk.brNotF ?_; (conv => cbv))
          | (refine hk.brNotS _ (by simp [hk.c2_lss, hk.c2_leq, hk.c2_gtr, hk.c2_geq, hk.c2_eql, hk.c2_neq, hk.bn_eq, hk.bq_eq]; rfl) ?_; (conv => cbv))
          | (refine hk.brBqS _ (by simp [hk.c2_lss, hk.c2_leq, hk.c2_gtr, hk.c2_geq, hk.c2_eql, hk.c2_neq, hk.bn_eq, hk.bq_eq]; rfl) ?_; (conv => cbv))
          | (refine hk.idxI (by first | omega | assumption) (by first | omega | assumption) ?_; (conv => cbv))
          | (refine hk.nzI (by first | omega | assumption | decide) ?_; (conv => cbv))
          | (refine hk.ge0I (by first | omega | assumption) ?_; (conv => cbv))
          | (refine hk.needI (by first | (simp only [rNd, hk.sb_eq, hk.ad_eq]; omega) | (simp [rNd, hk.sb_eq, hk.ad_eq]; omega)) ?_; (conv => cbv))
          | (refine hk.callA (by assumption) ?_; (conv => cbv))
          | (refine hk.calldA (by assumption) ?_; (conv => cbv))
          | (rw [hk.sb0]; (conv => cbv))
          | (rw [hk.ad0]; (conv => cbv))
          | exact hk.finB (by first | rfl | (simp [hk.c2_lss, hk.c2_leq, hk.c2_gtr, hk.c2_geq, hk.c2_eql, hk.c2_neq, hk.bn_eq, hk.bq_eq]; done) | assumption)
          | exact hk.fin1 rfl)
        refine hb (i + 1, 3, 0) _ ⟨by simp only; omega, by simp only; omega, hst⟩ (by simp only; omega) ?_
        dsimp only
        refine Gh.tm ?_
        repeat' (first | exact Holds.nil _ _ | refine Holds.cons (Wk.refl _ _) ?_ | refine Holds.cons (Wk.of_eq ?_) ?_)
        all_goals first
          | (rw [← hk.add64 i 1 (by omega) (by omega)]; rfl)
          | rfl
          | skip
  · exact absurd (fun j hj => hi3 j (by omega)) hno
end Go.Proofs.Ytnnpookoencpnaa
