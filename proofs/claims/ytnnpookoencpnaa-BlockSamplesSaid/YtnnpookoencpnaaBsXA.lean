/-
  Contracts of functions of the program, proved over the abstract machine of the Al texts.
-/
import Derived.Test.YtnnpookoencpnaaTryTab
import Derived.Test.YtnnpookoencpnaaAl4
import Derived.Test.YtnnpookoencpnaaBase
import Derived.Test.YtnnpookoencpnaaRkX
import Derived.Test.YtnnpookoencpnaaBk
import Derived.Test.YtnnpookoencpnaaBsX8
import Derived.Test.YtnnpookoencpnaaBsX9
import Derived.Test.YtnnpookoencpnaaBsX1
import Derived.Test.YtnnpookoencpnaaBsX2
import Derived.Test.YtnnpookoencpnaaBsX3
import Derived.Test.YtnnpookoencpnaaBsX4
import Derived.Test.YtnnpookoencpnaaBsX5
import Derived.Test.YtnnpookoencpnaaBsX6
import Derived.Test.YtnnpookoencpnaaBsX7
set_option maxHeartbeats 4000000
set_option maxRecDepth 20000
set_option linter.unusedSimpArgs false
set_option linter.unusedVariables false
open Go Go.AL
namespace Go.Proofs.Ytnnpookoencpnaa
theorem law_list (kd vl sh : Int) (ix : List Int) (lg gn pt : Int) (rc da : List Int) (n d e : Int) (hn : n ≤ 64) (he : 0 ≤ e ∧ e ≤ 100) (hf : fewB ix rc da = true)
    (hs : ∀ h, Does PP 14 [.agg [I kd, I vl, I sh, LI ix, I lg, I gn, I pt, LI rc, LI da], I n, I d] h (Is (.tup [LI [], I e]) h))
    (hr : ∀ h, Does PP 15 [.agg [I kd, I vl, I sh, LI ix, I lg, I gn, I pt, LI rc, LI da], I n, I d] h (Is (.tup [LI [], I e]) h)) :
    Does PP 3 [.agg [I kd, I vl, I sh, LI ix, I lg, I gn, I pt, LI rc, LI da], I n, I d] [] (Is (.bool true) []) := by
  have haw := awake10
  have hfw := fun h => few_spec kd vl sh ix lg gn pt rc da h
  rw [hf] at hfw
  have hsm := fun h => same_spec [] [] h (by decide) (by decide)
  rw [decide_eq_true rfl] at hsm
  refine doesF P_ok Try.f3 (by kernel_rfl) (by kernel_rfl) ?_
  intro i2 c2 u1 cv mx mn ad sbt bn bq ba lnI gtI apI sbI stI rpI lnG gtG apG sbG stG rpG fi fb fs fl fg fc sln sgt sap ssb sc b2s s2b nd call calld callv callvd loop rfun fin hk
  have hcv : cv .i64 e = e := by rw [hk.cv_eq]; exact wrap64 (by omega) (by omega)
  (conv => cbv)
  repeat' (first
    | assumption
    | (refine hk.callA (haw _) ?_; (conv => cbv))
    | (refine hk.calldA haw ?_; (conv => cbv))
    | (refine hk.callA (hfw _) ?_; (conv => cbv))
    | (refine hk.calldA hfw ?_; (conv => cbv))
    | (refine hk.brLssT (by omega) ?_; (conv => cbv))
    | (refine hk.brLssF (by omega) ?_; (conv => cbv))
    | (refine hk.brLeqT (by omega) ?_; (conv => cbv))
    | (refine hk.brLeqF (by omega) ?_; (conv => cbv))
    | (refine hk.brGtrT (by omega) ?_; (conv => cbv))
    | (refine hk.brGtrF (by omega) ?_; (conv => cbv))
    | (refine hk.brGeqT (by omega) ?_; (conv => cbv))
    | (refine hk.brGeqF (by omega) ?_; (conv => cbv))
    | (refine hk.brEqlT (by omega) ?_; (conv => cbv))
    | (refine hk.brEqlF (by omega) ?_; (conv => cbv))
    | (refine hk.brNeqT (by omega) ?_; (conv => cbv))
    | (refine hk.brNeqF (by omega) ?_; (conv => cbv))
    | (refine hk.brLss (fun _ => ?_) (fun _ => ?_) <;> (conv => cbv))
    | (refine hk.brLeq (fun _ => ?_) (fun _ => ?_) <;> (conv => cbv))
    | (refine hk.brGtr (fun _ => ?_) (fun _ => ?_) <;> (conv => cbv))
    | (refine hk.brGeq (fun _ => ?_) (fun _ => ?_) <;> (conv => cbv))
    | (refine hk.brEql (fun _ => ?_) (fun _ => ?_) <;> (conv => cbv))
    | (refine hk.brNeq (fun _ => ?_) (fun _ => ?_) <;> (conv => cbv))
    | (refine hk.brNotT ?_; (conv => cbv))
    | (refine hk.brNotF ?_; (conv => cbv))
    | (refine hk.brNotS _ (by simp [hk.c2_lss, hk.c2_leq, hk.c2_gtr, hk.c2_geq, hk.c2_eql, hk.c2_neq, hk.bn_eq, hk.bq_eq]; rfl) ?_; (conv => cbv))
    | (refine hk.brBqS _ (by simp [hk.c2_lss, hk.c2_leq, hk.c2_gtr, hk.c2_geq, hk.c2_eql, hk.c2_neq, hk.bn_eq, hk.bq_eq]; rfl) ?_; (conv => cbv))
    | (refine hk.idxI (by first | omega | assumption) (by first | omega | assumption) ?_; (conv => cbv))
    | (refine hk.nzI (by first | omega | assumption | decide) ?_; (conv => cbv))
    | (refine hk.ge0I (by first | omega | assumption) ?_; (conv => cbv))
    | (refine hk.needI (by first | (simp only [rNd, hk.sb_eq, hk.ad_eq]; omega) | (simp [rNd, hk.sb_eq, hk.ad_eq]; omega)) ?_; (conv => cbv))
    | (refine hk.callA (by assumption) ?_; (conv => cbv))
    | (refine hk.calldA (by assumption) ?_; (conv => cbv))
    | (rw [hk.sb0]; (conv => cbv))
    | (rw [hk.ad0]; (conv => cbv))
    | exact hk.finB (by first | rfl | (simp [hk.c2_lss, hk.c2_leq, hk.c2_gtr, hk.c2_geq, hk.c2_eql, hk.c2_neq, hk.bn_eq, hk.bq_eq]; done) | assumption)
    | exact hk.fin1 rfl)
  refine hk.loopI (loop_rule (α := Int) (fun i => [(1, .int .i64 n), (2, .int .i64 d), (3, .ptr 0 0), (24, .int .i64 i)]) (fun _ => [.box [.int .i64 kd, .int .i64 vl, .int .i64 sh, .ls (.il .i64 ix) .any, .int .i64 lg, .int .i64 gn, .int .i64 pt, .ls (.il .i64 rc) .any, .ls (.il .i64 da) .any]])
    (fun i => 0 ≤ i ∧ i ≤ 2) (fun i => (2 - i).toNat) 0 ⟨by omega, by omega⟩ ?_ ?_)
  · exact Gh.tm (by repeat (first | exact Holds.nil _ _ | refine Holds.cons (Wk.refl _ _) ?_))
  intro i ⟨hi, hi2⟩ Q' hb hx hr2
  (conv => cbv)
  repeat' (first
    | assumption
    | (refine hk.callA (hs _) ?_; (conv => cbv))
    | (refine hk.calldA hs ?_; (conv => cbv))
    | (refine hk.callA (hr _) ?_; (conv => cbv))
    | (refine hk.calldA hr ?_; (conv => cbv))
    | (rw [hcv]; (conv => cbv))
    | (refine hk.callA (hsm _) ?_; (conv => cbv))
    | (refine hk.calldA hsm ?_; (conv => cbv))
    | (refine hk.brLssT (by omega) ?_; (conv => cbv))
    | (refine hk.brLssF (by omega) ?_; (conv => cbv))
    | (refine hk.brLeqT (by omega) ?_; (conv => cbv))
    | (refine hk.brLeqF (by omega) ?_; (conv => cbv))
    | (refine hk.brGtrT (by omega) ?_; (conv => cbv))
    | (refine hk.brGtrF (by omega) ?_; (conv => cbv))
    | (refine hk.brGeqT (by omega) ?_; (conv => cbv))
    | (refine hk.brGeqF (by omega) ?_; (conv => cbv))
    | (refine hk.brEqlT (by omega) ?_; (conv => cbv))
    | (refine hk.brEqlF (by omega) ?_; (conv => cbv))
    | (refine hk.brNeqT (by omega) ?_; (conv => cbv))
    | (refine hk.brNeqF (by omega) ?_; (conv => cbv))
    | (refine hk.brLss (fun _ => ?_) (fun _ => ?_) <;> (conv => cbv))
    | (refine hk.brLeq (fun _ => ?_) (fun _ => ?_) <;> (conv => cbv))
    | (refine hk.brGtr (fun _ => ?_) (fun _ => ?_) <;> (conv => cbv))
    | (refine hk.brGeq (fun _ => ?_) (fun _ => ?_) <;> (conv => cbv))
    | (refine hk.brEql (fun _ => ?_) (fun _ => ?_) <;> (conv => cbv))
    | (refine hk.brNeq (fun _ => ?_) (fun _ => ?_) <;> (conv => cbv))
    | (refine hk.brNotT ?_; (conv => cbv))
    | (refine hk.brNotF ?_; (conv => cbv))
    | (refine hk.brNotS _ (by simp [hk.c2_lss, hk.c2_leq, hk.c2_gtr, hk.c2_geq, hk.c2_eql, hk.c2_neq, hk.bn_eq, hk.bq_eq]; rfl) ?_; (conv => cbv))
    | (refine hk.brBqS _ (by simp [hk.c2_lss, hk.c2_leq, hk.c2_gtr, hk.c2_geq, hk.c2_eql, hk.c2_neq, hk.bn_eq, hk.bq_eq]; rfl) ?_; (conv => cbv))
    | (refine hk.idxI (by first | omega | assumption) (by first | omega | assumption) ?_; (conv => cbv))
    | (refine hk.nzI (by first | omega | assumption | decide) ?_; (conv => cbv))
    | (refine hk.ge0I (by first | omega | assumption) ?_; (conv => cbv))
    | (refine hk.needI (by first | (simp only [rNd, hk.sb_eq, hk.ad_eq]; omega) | (simp [rNd, hk.sb_eq, hk.ad_eq]; omega)) ?_; (conv => cbv))
    | (refine hk.callA (by assumption) ?_; (conv => cbv))
    | (refine hk.calldA (by assumption) ?_; (conv => cbv))
    | (rw [hk.sb0]; (conv => cbv))
    | (rw [hk.ad0]; (conv => cbv))
    | exact hk.finB (by first | rfl | (simp [hk.c2_lss, hk.c2_leq, hk.c2_gtr, hk.c2_geq, hk.c2_eql, hk.c2_neq, hk.bn_eq, hk.bq_eq]; done) | assumption)
    | exact hk.fin1 rfl)
  · have hl0 : lnI [] = 0 := hk.lnI_eq _
    rw [hl0]
    refine hk.loopI (loop_rule (α := Int) (fun j => [(1, .int .i64 n), (2, .int .i64 d), (3, .ptr 0 0), (7, .ls (.il .i64 []) .any), (24, .int .i64 i), (50, .int .i64 0), (51, .int .i64 j)]) (fun _ => [.box [.int .i64 kd, .int .i64 vl, .int .i64 sh, .ls (.il .i64 ix) .any, .int .i64 lg, .int .i64 gn, .int .i64 pt, .ls (.il .i64 rc) .any, .ls (.il .i64 da) .any]])
      (fun j => j = 0) (fun j => j.toNat) 0 rfl ?_ ?_)
    · exact Gh.tm (by repeat (first | exact Holds.nil _ _ | refine Holds.cons (Wk.refl _ _) ?_))
    intro j hj Q3 hb3 hx3 hr3
    subst hj
    (conv => cbv)
    repeat' (first
      | assumption
      | (refine hx3 _ _ ?_; (conv => cbv))
      | (refine hk.brLssT (by omega) ?_; (conv => cbv))
      | (refine hk.brLssF (by omega) ?_; (conv => cbv))
      | (refine hk.brLeqT (by omega) ?_; (conv => cbv))
      | (refine hk.brLeqF (by omega) ?_; (conv => cbv))
      | (refine hk.brGtrT (by omega) ?_; (conv => cbv))
      | (refine hk.brGtrF (by omega) ?_; (conv => cbv))
      | (refine hk.brGeqT (by omega) ?_; (conv => cbv))
      | (refine hk.brGeqF (by omega) ?_; (conv => cbv))
      | (refine hk.brEqlT (by omega) ?_; (conv => cbv))
      | (refine hk.brEqlF (by omega) ?_; (conv => cbv))
      | (refine hk.brNeqT (by omega) ?_; (conv => cbv))
      | (refine hk.brNeqF (by omega) ?_; (conv => cbv))
      | (refine hk.brLss (fun _ => ?_) (fun _ => ?_) <;> (conv => cbv))
      | (refine hk.brLeq (fun _ => ?_) (fun _ => ?_) <;> (conv => cbv))
      | (refine hk.brGtr (fun _ => ?_) (fun _ => ?_) <;> (conv => cbv))
      | (refine hk.brGeq (fun _ => ?_) (fun _ => ?_) <;> (conv => cbv))
      | (refine hk.brEql (fun _ => ?_) (fun _ => ?_) <;> (conv => cbv))
      | (refine hk.brNeq (fun _ => ?_) (fun _ => ?_) <;> (conv => cbv))
      | (refine hk.brNotT ?_; (conv => cbv))
      | (refine hk.brNotF ?_; (conv => cbv))
      | (refine hk.brNotS _ (by simp [hk.c2_lss, hk.c2_leq, hk.c2_gtr, hk.c2_geq, hk.c2_eql, hk.c2_neq, hk.bn_eq, hk.bq_eq]; rfl) ?_; (conv => cbv))
      | (refine hk.brBqS _ (by simp [hk.c2_lss, hk.c2_leq, hk.c2_gtr, hk.c2_geq, hk.c2_eql, hk.c2_neq, hk.bn_eq, hk.bq_eq]; rfl) ?_; (conv => cbv))
      | (refine hk.idxI (by first | omega | assumption) (by first | omega | assumption) ?_; (conv => cbv))
      | (refine hk.nzI (by first | omega | assumption | decide) ?_; (conv => cbv))
      | (refine hk.ge0I (by first | omega | assumption) ?_; (conv => cbv))
      | (refine hk.needI (by first | (simp only [rNd, hk.sb_eq, hk.ad_eq]; omega) | (simp [rNd, hk.sb_eq, hk.ad_eq]; omega)) ?_; (conv => cbv))
      | (refine hk.callA (by assumption) ?_; (conv => cbv))
      | (refine hk.calldA (by assumption) ?_; (conv => cbv))
      | (rw [hk.sb0]; (conv => cbv))
      | (rw [hk.ad0]; (conv => cbv))
      | exact hk.finB (by first | rfl | (simp [hk.c2_lss, hk.c2_leq, hk.c2_gtr, hk.c2_geq, hk.c2_eql, hk.c2_neq, hk.bn_eq, hk.bq_eq]; done) | assumption)
      | exact hk.fin1 rfl)
    refine hb (i + 1) _ ⟨by omega, by omega⟩ (by omega) ?_
    refine Gh.tm ?_
    repeat' (first | exact Holds.nil _ _ | refine Holds.cons (Wk.refl _ _) ?_ | refine Holds.cons (Wk.of_eq ?_) ?_)
    all_goals first
      | (rw [← hk.add64 i 1 (by omega) (by omega)]; rfl)
      | rfl
      | skip
  · refine hx _ _ ?_
    (conv => cbv)
    exact hk.fin0 rfl rfl (Wk.refl _ _)
end Go.Proofs.Ytnnpookoencpnaa
set_option maxHeartbeats 4000000
set_option maxRecDepth 20000
set_option linter.unusedSimpArgs false
set_option linter.unusedVariables false
open Go Go.AL
namespace Go.Proofs.Ytnnpookoencpnaa
theorem law_row1 (kd vl sh : Int) (ix : List Int) (lg gn pt : Int) (rc da : List Int) (n d m : Int) (G : Nat) (l : List Int) (hn : n ≤ 64) (hf : fewB ix rc da = true) (hm : m = (l.length : Nat)) (hm2 : m ≤ 1024)
    (hs0 : Does PP 14 [.agg [I kd, I vl, I sh, LI ix, I lg, I gn, I pt, LI rc, LI da], I n, I d] [] (Is (.tup [.sl 1 G 0 m, I 0]) [.box [.int .i64 kd, .int .i64 vl, .int .i64 sh, .ls (.il .i64 ix) .any, .int .i64 lg, .int .i64 gn, .int .i64 pt, .ls (.il .i64 rc) .any, .ls (.il .i64 da) .any], .rw G (.il .i64 l)]))
    (hr : ∀ h, Does PP 15 [.agg [I kd, I vl, I sh, LI ix, I lg, I gn, I pt, LI rc, LI da], I n, I d] h (Is (.tup [LI l, I 0]) h)) :
    Does PP 3 [.agg [I kd, I vl, I sh, LI ix, I lg, I gn, I pt, LI rc, LI da], I n, I d] [] (Is (.bool true) []) := by
  have haw := awake10
  have hfw := fun h => few_spec kd vl sh ix lg gn pt rc da h
  rw [hf] at hfw
  have hs : Does PP 14 [.agg [I kd, I vl, I sh, LI ix, I lg, I gn, I pt, LI rc, LI da], I n, I d] [.box [.int .i64 kd, .int .i64 vl, .int .i64 sh, .ls (.il .i64 ix) .any, .int .i64 lg, .int .i64 gn, .int .i64 pt, .ls (.il .i64 rc) .any, .ls (.il .i64 da) .any]] (Is (.tup [.sl 2 G 0 m, I 0]) [.box [.int .i64 kd, .int .i64 vl, .int .i64 sh, .ls (.il .i64 ix) .any, .int .i64 lg, .int .i64 gn, .int .i64 pt, .ls (.il .i64 rc) .any, .ls (.il .i64 da) .any], .box [.int .i64 kd, .int .i64 vl, .int .i64 sh, .ls (.il .i64 ix) .any, .int .i64 lg, .int .i64 gn, .int .i64 pt, .ls (.il .i64 rc) .any, .ls (.il .i64 da) .any], .rw G (.il .i64 l)]) :=
    hs0.renI [] rfl (by decide) rfl trivial rfl rfl rfl rfl rfl rfl
  have hsm : Does PP 16 [.sl 2 G 0 m, LI l] [.box [.int .i64 kd, .int .i64 vl, .int .i64 sh, .ls (.il .i64 ix) .any, .int .i64 lg, .int .i64 gn, .int .i64 pt, .ls (.il .i64 rc) .any, .ls (.il .i64 da) .any], .box [.int .i64 kd, .int .i64 vl, .int .i64 sh, .ls (.il .i64 ix) .any, .int .i64 lg, .int .i64 gn, .int .i64 pt, .ls (.il .i64 rc) .any, .ls (.il .i64 da) .any], .rw G (.il .i64 l)] (Is (.bool true) [.box [.int .i64 kd, .int .i64 vl, .int .i64 sh, .ls (.il .i64 ix) .any, .int .i64 lg, .int .i64 gn, .int .i64 pt, .ls (.il .i64 rc) .any, .ls (.il .i64 da) .any], .box [.int .i64 kd, .int .i64 vl, .int .i64 sh, .ls (.il .i64 ix) .any, .int .i64 lg, .int .i64 gn, .int .i64 pt, .ls (.il .i64 rc) .any, .ls (.il .i64 da) .any], .rw G (.il .i64 l)]) := by
    have := sameR_spec l l G m hm hm2 (by omega)
    rw [decide_eq_true rfl] at this
    exact this.renI [2] rfl (by decide) rfl ⟨rfl, trivial⟩ rfl rfl rfl rfl rfl rfl
  clear hs0
  refine doesF P_ok Try.f3 (by kernel_rfl) (by kernel_rfl) ?_
  intro i2 c2 u1 cv mx mn ad sbt bn bq ba lnI gtI apI sbI stI rpI lnG gtG apG sbG stG rpG fi fb fs fl fg fc sln sgt sap ssb sc b2s s2b nd call calld callv callvd loop rfun fin hk
  have hcv : cv .i64 0 = 0 := by rw [hk.cv_eq]; exact wrap64 (by omega) (by omega)
  have hs00 : sbt m 0 = m := by rw [hk.sb_eq]; omega
  have hbq : Nat.beq G G = true := Nat.beq_refl G
  conv at hbq => cbv
  have hstl : ∀ r j v, 0 ≤ j → (stI r j v).length = r.length := fun r j v h => by rw [hk.stI_eq]; simp
  have hln := hk.lnI_eq
  (conv => cbv)
  repeat' (first
    | assumption
    | (refine hk.callA (haw _) ?_; (conv => cbv))
    | (refine hk.calldA haw ?_; (conv => cbv))
    | (refine hk.callA (hfw _) ?_; (conv => cbv))
    | (refine hk.calldA hfw ?_; (conv => cbv))
    | (refine hk.brLssT (by omega) ?_; (conv => cbv))
    | (refine hk.brLssF (by omega) ?_; (conv => cbv))
    | (refine hk.brLeqT (by omega) ?_; (conv => cbv))
    | (refine hk.brLeqF (by omega) ?_; (conv => cbv))
    | (refine hk.brGtrT (by omega) ?_; (conv => cbv))
    | (refine hk.brGtrF (by omega) ?_; (conv => cbv))
    | (refine hk.brGeqT (by omega) ?_; (conv => cbv))
    | (refine hk.brGeqF (by omega) ?_; (conv => cbv))
    | (refine hk.brEqlT (by omega) ?_; (conv => cbv))
    | (refine hk.brEqlF (by omega) ?_; (conv => cbv))
    | (refine hk.brNeqT (by omega) ?_; (conv => cbv))
    | (refine hk.brNeqF (by omega) ?_; (conv => cbv))
    | (refine hk.brLss (fun _ => ?_) (fun _ => ?_) <;> (conv => cbv))
    | (refine hk.brLeq (fun _ => ?_) (fun _ => ?_) <;> (conv => cbv))
    | (refine hk.brGtr (fun _ => ?_) (fun _ => ?_) <;> (conv => cbv))
    | (refine hk.brGeq (fun _ => ?_) (fun _ => ?_) <;> (conv => cbv))
    | (refine hk.brEql (fun _ => ?_) (fun _ => ?_) <;> (conv => cbv))
    | (refine hk.brNeq (fun _ => ?_) (fun _ => ?_) <;> (conv => cbv))
    | (refine hk.brNotT ?_; (conv => cbv))
    | (refine hk.brNotF ?_; (conv => cbv))
    | (refine hk.brNotS _ (by simp [hk.c2_lss, hk.c2_leq, hk.c2_gtr, hk.c2_geq, hk.c2_eql, hk.c2_neq, hk.bn_eq, hk.bq_eq]; rfl) ?_; (conv => cbv))
    | (refine hk.brBqS _ (by simp [hk.c2_lss, hk.c2_leq, hk.c2_gtr, hk.c2_geq, hk.c2_eql, hk.c2_neq, hk.bn_eq, hk.bq_eq]; rfl) ?_; (conv => cbv))
    | (refine hk.idxI (by first | omega | assumption) (by first | omega | assumption) ?_; (conv => cbv))
    | (refine hk.nzI (by first | omega | assumption | decide) ?_; (conv => cbv))
    | (refine hk.ge0I (by first | omega | assumption) ?_; (conv => cbv))
    | (refine hk.needI (by first | (simp only [rNd, hk.sb_eq, hk.ad_eq]; omega) | (simp [rNd, hk.sb_eq, hk.ad_eq]; omega)) ?_; (conv => cbv))
    | (refine hk.callA (by assumption) ?_; (conv => cbv))
    | (refine hk.calldA (by assumption) ?_; (conv => cbv))
    | (rw [hk.sb0]; (conv => cbv))
    | (rw [hk.ad0]; (conv => cbv))
    | exact hk.finB (by first | rfl | (simp [hk.c2_lss, hk.c2_leq, hk.c2_gtr, hk.c2_geq, hk.c2_eql, hk.c2_neq, hk.bn_eq, hk.bq_eq]; done) | assumption)
    | exact hk.fin1 rfl)
  refine hk.loopI (loop_rule (α := Int) (fun i => [(1, .int .i64 n), (2, .int .i64 d), (3, .ptr 0 0), (24, .int .i64 i)]) (fun _ => [.box [.int .i64 kd, .int .i64 vl, .int .i64 sh, .ls (.il .i64 ix) .any, .int .i64 lg, .int .i64 gn, .int .i64 pt, .ls (.il .i64 rc) .any, .ls (.il .i64 da) .any]])
    (fun i => 0 ≤ i ∧ i ≤ 2) (fun i => (2 - i).toNat) 0 ⟨by omega, by omega⟩ ?_ ?_)
  · exact Gh.tm (by repeat (first | exact Holds.nil _ _ | refine Holds.cons (Wk.refl _ _) ?_))
  intro i ⟨hi, hi2⟩ Q' hb hx hr2
  (conv => cbv)
  repeat' (first
    | assumption
    | (refine hk.callA hs ?_; (conv => cbv))
    | (refine hk.callA (hr _) ?_; (conv => cbv))
    | (refine hk.calldA hr ?_; (conv => cbv))
    | (rw [hcv]; (conv => cbv))
    | (refine hk.callA hsm ?_; (conv => cbv))
    | (rw [hbq]; (conv => cbv))
    | (rw [hs00]; (conv => cbv))
    | (refine hk.brLssT (by omega) ?_; (conv => cbv))
    | (refine hk.brLssF (by omega) ?_; (conv => cbv))
    | (refine hk.brLeqT (by omega) ?_; (conv => cbv))
    | (refine hk.brLeqF (by omega) ?_; (conv => cbv))
    | (refine hk.brGtrT (by omega) ?_; (conv => cbv))
    | (refine hk.brGtrF (by omega) ?_; (conv => cbv))
    | (refine hk.brGeqT (by omega) ?_; (conv => cbv))
    | (refine hk.brGeqF (by omega) ?_; (conv => cbv))
    | (refine hk.brEqlT (by omega) ?_; (conv => cbv))
    | (refine hk.brEqlF (by omega) ?_; (conv => cbv))
    | (refine hk.brNeqT (by omega) ?_; (conv => cbv))
    | (refine hk.brNeqF (by omega) ?_; (conv => cbv))
    | (refine hk.brLss (fun _ => ?_) (fun _ => ?_) <;> (conv => cbv))
    | (refine hk.brLeq (fun _ => ?_) (fun _ => ?_) <;> (conv => cbv))
    | (refine hk.brGtr (fun _ => ?_) (fun _ => ?_) <;> (conv => cbv))
    | (refine hk.brGeq (fun _ => ?_) (fun _ => ?_) <;> (conv => cbv))
    | (refine hk.brEql (fun _ => ?_) (fun _ => ?_) <;> (conv => cbv))
    | (refine hk.brNeq (fun _ => ?_) (fun _ => ?_) <;> (conv => cbv))
    | (refine hk.brNotT ?_; (conv => cbv))
    | (refine hk.brNotF ?_; (conv => cbv))
    | (refine hk.brNotS _ (by simp [hk.c2_lss, hk.c2_leq, hk.c2_gtr, hk.c2_geq, hk.c2_eql, hk.c2_neq, hk.bn_eq, hk.bq_eq]; rfl) ?_; (conv => cbv))
    | (refine hk.brBqS _ (by simp [hk.c2_lss, hk.c2_leq, hk.c2_gtr, hk.c2_geq, hk.c2_eql, hk.c2_neq, hk.bn_eq, hk.bq_eq]; rfl) ?_; (conv => cbv))
    | (refine hk.idxI (by first | omega | assumption) (by first | omega | assumption) ?_; (conv => cbv))
    | (refine hk.nzI (by first | omega | assumption | decide) ?_; (conv => cbv))
    | (refine hk.ge0I (by first | omega | assumption) ?_; (conv => cbv))
    | (refine hk.needI (by first | (simp only [rNd, hk.sb_eq, hk.ad_eq]; omega) | (simp [rNd, hk.sb_eq, hk.ad_eq]; omega)) ?_; (conv => cbv))
    | (refine hk.callA (by assumption) ?_; (conv => cbv))
    | (refine hk.calldA (by assumption) ?_; (conv => cbv))
    | (rw [hk.sb0]; (conv => cbv))
    | (rw [hk.ad0]; (conv => cbv))
    | exact hk.finB (by first | rfl | (simp [hk.c2_lss, hk.c2_leq, hk.c2_gtr, hk.c2_geq, hk.c2_eql, hk.c2_neq, hk.bn_eq, hk.bq_eq]; done) | assumption)
    | exact hk.fin1 rfl)
  · refine hk.loopI (loop_rule (α := Int × List Int) (fun x => [(1, .int .i64 n), (2, .int .i64 d), (3, .ptr 0 0), (7, .sl 2 G 0 m), (24, .int .i64 i), (50, .int .i64 m), (51, .int .i64 x.1)]) (fun x => [.box [.int .i64 kd, .int .i64 vl, .int .i64 sh, .ls (.il .i64 ix) .any, .int .i64 lg, .int .i64 gn, .int .i64 pt, .ls (.il .i64 rc) .any, .ls (.il .i64 da) .any], .box [.int .i64 kd, .int .i64 vl, .int .i64 sh, .ls (.il .i64 ix) .any, .int .i64 lg, .int .i64 gn, .int .i64 pt, .ls (.il .i64 rc) .any, .ls (.il .i64 da) .any], .rw G (.il .i64 x.2)])
      (fun x => 0 ≤ x.1 ∧ x.1 ≤ m ∧ m = (x.2.length : Nat)) (fun x => (m - x.1).toNat) (0, l) ⟨by simp only; omega, by simp only; omega, hm⟩ ?_ ?_)
    · exact Gh.tm (by repeat (first | exact Holds.nil _ _ | refine Holds.cons (Wk.refl _ _) ?_))
    intro ⟨j, r⟩ ⟨hj, hj2, hrl⟩ Q3 hb3 hx3 hr3
    simp only at hj hj2 hrl
    have hlnr := hln r
    rw [← hrl] at hlnr
    have hst := hstl r j 7 hj
    have had : ad 0 j = j := by rw [hk.ad_eq]; omega
    dsimp only
    by_cases hjm : j < m
    · obtain ⟨r', hr'⟩ : ∃ r', r' = stI r j 7 := ⟨_, rfl⟩
      rw [← hr'] at hst
      (conv => cbv)
      repeat' (first
        | assumption
        | (rw [hbq]; (conv => cbv))
        | (rw [hs00]; (conv => cbv))
        | (rw [had]; (conv => cbv))
        | (rw [hlnr]; (conv => cbv))
        | (refine hk.idxI hj hjm ?_; (conv => cbv))
        | (rw [← hr']; (conv => cbv))
        | (refine hk.brLssT (by omega) ?_; (conv => cbv))
        | (refine hk.brLssF (by omega) ?_; (conv => cbv))
        | (refine hk.brLeqT (by omega) ?_; (conv => cbv))
        | (refine hk.brLeqF (by omega) ?_; (conv => cbv))
        | (refine hk.brGtrT (by omega) ?_; (conv => cbv))
        | (refine hk.brGtrF (by omega) ?_; (conv => cbv))
        | (refine hk.brGeqT (by omega) ?_; (conv => cbv))
        | (refine hk.brGeqF (by omega) ?_; (conv => cbv))
        | (refine hk.brEqlT (by omega) ?_; (conv => cbv))
        | (refine hk.brEqlF (by omega) ?_; (conv => cbv))
        | (refine hk.brNeqT (by omega) ?_; (conv => cbv))
        | (refine hk.brNeqF (by omega) ?_; (conv => cbv))
        | (refine hk.brLss (fun _ => ?_) (fun _ => ?_) <;> (conv => cbv))
        | (refine hk.brLeq (fun _ => ?_) (fun _ => ?_) <;> (conv => cbv))
        | (refine hk.brGtr (fun _ => ?_) (fun _ => ?_) <;> (conv => cbv))
        | (refine hk.brGeq (fun _ => ?_) (fun _ => ?_) <;> (conv => cbv))
        | (refine hk.brEql (fun _ => ?_) (fun _ => ?_) <;> (conv => cbv))
        | (refine hk.brNeq (fun _ => ?_) (fun _ => ?_) <;> (conv => cbv))
        | (refine hk.brNotT ?_; (conv => cbv))
        | (refine hk.brNotF ?_; (conv => cbv))
        | (refine hk.brNotS _ (by simp [hk.c2_lss, hk.c2_leq, hk.c2_gtr, hk.c2_geq, hk.c2_eql, hk.c2_neq, hk.bn_eq, hk.bq_eq]; rfl) ?_; (conv => cbv))
        | (refine hk.brBqS _ (by simp [hk.c2_lss, hk.c2_leq, hk.c2_gtr, hk.c2_geq, hk.c2_eql, hk.c2_neq, hk.bn_eq, hk.bq_eq]; rfl) ?_; (conv => cbv))
        | (refine hk.idxI (by first | omega | assumption) (by first | omega | assumption) ?_; (conv => cbv))
        | (refine hk.nzI (by first | omega | assumption | decide) ?_; (conv => cbv))
        | (refine hk.ge0I (by first | omega | assumption) ?_; (conv => cbv))
        | (refine hk.needI (by first | (simp only [rNd, hk.sb_eq, hk.ad_eq]; omega) | (simp [rNd, hk.sb_eq, hk.ad_eq]; omega)) ?_; (conv => cbv))
        | (refine hk.callA (by assumption) ?_; (conv => cbv))
        | (refine hk.calldA (by assumption) ?_; (conv => cbv))
        | (rw [hk.sb0]; (conv => cbv))
        | (rw [hk.ad0]; (conv => cbv))
        | exact hk.finB (by first | rfl | (simp [hk.c2_lss, hk.c2_leq, hk.c2_gtr, hk.c2_geq, hk.c2_eql, hk.c2_neq, hk.bn_eq, hk.bq_eq]; done) | assumption)
        | exact hk.fin1 rfl)
      refine hb3 (j + 1, r') _ ⟨by simp only; omega, by simp only; omega, by simp only; omega⟩ (by simp only; omega) ?_
      dsimp only
      refine Gh.tm ?_
      repeat' (first | exact Holds.nil _ _ | refine Holds.cons (Wk.refl _ _) ?_ | refine Holds.cons (Wk.of_eq ?_) ?_)
      all_goals first
        | (rw [← hk.add64 j 1 (by omega) (by omega)]; rfl)
        | rfl
        | skip
    · (conv => cbv)
      repeat' (first
        | assumption
        | (refine hx3 _ _ ?_; (conv => cbv))
        | (refine hk.brLssT (by omega) ?_; (conv => cbv))
        | (refine hk.brLssF (by omega) ?_; (conv => cbv))
        | (refine hk.brLeqT (by omega) ?_; (conv => cbv))
        | (refine hk.brLeqF (by omega) ?_; (conv => cbv))
        | (refine hk.brGtrT (by omega) ?_; (conv => cbv))
        | (refine hk.brGtrF (by omega) ?_; (conv => cbv))
        | (refine hk.brGeqT (by omega) ?_; (conv => cbv))
        | (refine hk.brGeqF (by omega) ?_; (conv => cbv))
        | (refine hk.brEqlT (by omega) ?_; (conv => cbv))
        | (refine hk.brEqlF (by omega) ?_; (conv => cbv))
        | (refine hk.brNeqT (by omega) ?_; (conv => cbv))
        | (refine hk.brNeqF (by omega) ?_; (conv => cbv))
        | (refine hk.brLss (fun _ => ?_) (fun _ => ?_) <;> (conv => cbv))
        | (refine hk.brLeq (fun _ => ?_) (fun _ => ?_) <;> (conv => cbv))
        | (refine hk.brGtr (fun _ => ?_) (fun _ => ?_) <;> (conv => cbv))
        | (refine hk.brGeq (fun _ => ?_) (fun _ => ?_) <;> (conv => cbv))
        | (refine hk.brEql (fun _ => ?_) (fun _ => ?_) <;> (conv => cbv))
        | (refine hk.brNeq (fun _ => ?_) (fun _ => ?_) <;> (conv => cbv))
        | (refine hk.brNotT ?_; (conv => cbv))
        | (refine hk.brNotF ?_; (conv => cbv))
        | (refine hk.brNotS _ (by simp [hk.c2_lss, hk.c2_leq, hk.c2_gtr, hk.c2_geq, hk.c2_eql, hk.c2_neq, hk.bn_eq, hk.bq_eq]; rfl) ?_; (conv => cbv))
        | (refine hk.brBqS _ (by simp [hk.c2_lss, hk.c2_leq, hk.c2_gtr, hk.c2_geq, hk.c2_eql, hk.c2_neq, hk.bn_eq, hk.bq_eq]; rfl) ?_; (conv => cbv))
        | (refine hk.idxI (by first | omega | assumption) (by first | omega | assumption) ?_; (conv => cbv))
        | (refine hk.nzI (by first | omega | assumption | decide) ?_; (conv => cbv))
        | (refine hk.ge0I (by first | omega | assumption) ?_; (conv => cbv))
        | (refine hk.needI (by first | (simp only [rNd, hk.sb_eq, hk.ad_eq]; omega) | (simp [rNd, hk.sb_eq, hk.ad_eq]; omega)) ?_; (conv => cbv))
        | (refine hk.callA (by assumption) ?_; (conv => cbv))
        | (refine hk.calldA (by assumption) ?_; (conv => cbv))
        | (rw [hk.sb0]; (conv => cbv))
        | (rw [hk.ad0]; (conv => cbv))
        | exact hk.finB (by first | rfl | (simp [hk.c2_lss, hk.c2_leq, hk.c2_gtr, hk.c2_geq, hk.c2_eql, hk.c2_neq, hk.bn_eq, hk.bq_eq]; done) | assumption)
        | exact hk.fin1 rfl)
      refine hb (i + 1) _ ⟨by omega, by omega⟩ (by omega) ?_
      refine Gh.low 1 (Nat.le_of_ble_eq_true rfl) ?_ rfl rfl rfl
      repeat' (first | exact Holds.nil _ _ | refine Holds.cons (Wk.refl _ _) ?_ | refine Holds.cons (Wk.of_eq ?_) ?_)
      all_goals first
        | (rw [← hk.add64 i 1 (by omega) (by omega)]; rfl)
        | rfl
        | skip
  · refine hx _ _ ?_
    (conv => cbv)
    exact hk.fin0 rfl rfl (Wk.refl _ _)
theorem law_rowT (kd vl sh : Int) (ix : List Int) (lg gn pt : Int) (rc da : List Int) (n d m : Int) (G : Nat) (l : List Int) (hn : n ≤ 64) (hf : fewB ix rc da = true) (hm : m = (l.length : Nat)) (hm2 : m ≤ 1024)
    (hs0 : Does PP 14 [.agg [I kd, I vl, I sh, LI ix, I lg, I gn, I pt, LI rc, LI da], I n, I d] [] (Is (.tup [.sl 2 G 0 m, I 0]) [.box [.int .i64 kd, .int .i64 vl, .int .i64 sh, .ls (.il .i64 ix) .any, .int .i64 lg, .int .i64 gn, .int .i64 pt, .ls (.il .i64 rc) .any, .ls (.il .i64 da) .any], .tok 0, .rw G (.il .i64 l)]))
    (hr : ∀ h, Does PP 15 [.agg [I kd, I vl, I sh, LI ix, I lg, I gn, I pt, LI rc, LI da], I n, I d] h (Is (.tup [LI l, I 0]) h)) :
    Does PP 3 [.agg [I kd, I vl, I sh, LI ix, I lg, I gn, I pt, LI rc, LI da], I n, I d] [] (Is (.bool true) []) := by
  have haw := awake10
  have hfw := fun h => few_spec kd vl sh ix lg gn pt rc da h
  rw [hf] at hfw
  have hs : Does PP 14 [.agg [I kd, I vl, I sh, LI ix, I lg, I gn, I pt, LI rc, LI da], I n, I d] [.box [.int .i64 kd, .int .i64 vl, .int .i64 sh, .ls (.il .i64 ix) .any, .int .i64 lg, .int .i64 gn, .int .i64 pt, .ls (.il .i64 rc) .any, .ls (.il .i64 da) .any]] (Is (.tup [.sl 3 G 0 m, I 0]) [.box [.int .i64 kd, .int .i64 vl, .int .i64 sh, .ls (.il .i64 ix) .any, .int .i64 lg, .int .i64 gn, .int .i64 pt, .ls (.il .i64 rc) .any, .ls (.il .i64 da) .any], .box [.int .i64 kd, .int .i64 vl, .int .i64 sh, .ls (.il .i64 ix) .any, .int .i64 lg, .int .i64 gn, .int .i64 pt, .ls (.il .i64 rc) .any, .ls (.il .i64 da) .any], .tok 0, .rw G (.il .i64 l)]) :=
    hs0.renI [] rfl (by decide) rfl trivial rfl rfl rfl rfl rfl rfl
  have hsm : Does PP 16 [.sl 3 G 0 m, LI l] [.box [.int .i64 kd, .int .i64 vl, .int .i64 sh, .ls (.il .i64 ix) .any, .int .i64 lg, .int .i64 gn, .int .i64 pt, .ls (.il .i64 rc) .any, .ls (.il .i64 da) .any], .box [.int .i64 kd, .int .i64 vl, .int .i64 sh, .ls (.il .i64 ix) .any, .int .i64 lg, .int .i64 gn, .int .i64 pt, .ls (.il .i64 rc) .any, .ls (.il .i64 da) .any], .tok 0, .rw G (.il .i64 l)] (Is (.bool true) [.box [.int .i64 kd, .int .i64 vl, .int .i64 sh, .ls (.il .i64 ix) .any, .int .i64 lg, .int .i64 gn, .int .i64 pt, .ls (.il .i64 rc) .any, .ls (.il .i64 da) .any], .box [.int .i64 kd, .int .i64 vl, .int .i64 sh, .ls (.il .i64 ix) .any, .int .i64 lg, .int .i64 gn, .int .i64 pt, .ls (.il .i64 rc) .any, .ls (.il .i64 da) .any], .tok 0, .rw G (.il .i64 l)]) := by
    have := sameR_spec l l G m hm hm2 (by omega)
    rw [decide_eq_true rfl] at this
    exact this.renI [3] rfl (by decide) rfl ⟨rfl, trivial⟩ rfl rfl rfl rfl rfl rfl
  clear hs0
  refine doesF P_ok Try.f3 (by kernel_rfl) (by kernel_rfl) ?_
  intro i2 c2 u1 cv mx mn ad sbt bn bq ba lnI gtI apI sbI stI rpI lnG gtG apG sbG stG rpG fi fb fs fl fg fc sln sgt sap ssb sc b2s s2b nd call calld callv callvd loop rfun fin hk
  have hcv : cv .i64 0 = 0 := by rw [hk.cv_eq]; exact wrap64 (by omega) (by omega)
  have hs00 : sbt m 0 = m := by rw [hk.sb_eq]; omega
  have hbq : Nat.beq G G = true := Nat.beq_refl G
  conv at hbq => cbv
  have hstl : ∀ r j v, 0 ≤ j → (stI r j v).length = r.length := fun r j v h => by rw [hk.stI_eq]; simp
  have hln := hk.lnI_eq
  (conv => cbv)
  repeat' (first
    | assumption
    | (refine hk.callA (haw _) ?_; (conv => cbv))
    | (refine hk.calldA haw ?_; (conv => cbv))
    | (refine hk.callA (hfw _) ?_; (conv => cbv))
    | (refine hk.calldA hfw ?_; (conv => cbv))
    | (refine hk.brLssT (by omega) ?_; (conv => cbv))
    | (refine hk.brLssF (by omega) ?_; (conv => cbv))
    | (refine hk.brLeqT (by omega) ?_; (conv => cbv))
    | (refine hk.brLeqF (by omega) ?_; (conv => cbv))
    | (refine hk.brGtrT (by omega) ?_; (conv => cbv))
    | (refine hk.brGtrF (by omega) ?_; (conv => cbv))
    | (refine hk.brGeqT (by omega) ?_; (conv => cbv))
    | (refine hk.brGeqF (by omega) ?_; (conv => cbv))
    | (refine hk.brEqlT (by omega) ?_; (conv => cbv))
    | (refine hk.brEqlF (by omega) ?_; (conv => cbv))
    | (refine hk.brNeqT (by omega) ?_; (conv => cbv))
    | (refine hk.brNeqF (by omega) ?_; (conv => cbv))
    | (refine hk.brLss (fun _ => ?_) (fun _ => ?_) <;> (conv => cbv))
    | (refine hk.brLeq (fun _ => ?_) (fun _ => ?_) <;> (conv => cbv))
    | (refine hk.brGtr (fun _ => ?_) (fun _ => ?_) <;> (conv => cbv))
    | (refine hk.brGeq (fun _ => ?_) (fun _ => ?_) <;> (conv => cbv))
    | (refine hk.brEql (fun _ => ?_) (fun _ => ?_) <;> (conv => cbv))
    | (refine hk.brNeq (fun _ => ?_) (fun _ => ?_) <;> (conv => cbv))
    | (refine hk.brNotT ?_; (conv => cbv))
    | (refine hk.brNotF ?_; (conv => cbv))
    | (refine hk.brNotS _ (by simp [hk.c2_lss, hk.c2_leq, hk.c2_gtr, hk.c2_geq, hk.c2_eql, hk.c2_neq, hk.bn_eq, hk.bq_eq]; rfl) ?_; (conv => cbv))
    | (refine hk.brBqS _ (by simp [hk.c2_lss, hk.c2_leq, hk.c2_gtr, hk.c2_geq, hk.c2_eql, hk.c2_neq, hk.bn_eq, hk.bq_eq]; rfl) ?_; (conv => cbv))
    | (refine hk.idxI (by first | omega | assumption) (by first | omega | assumption) ?_; (conv => cbv))
    | (refine hk.nzI (by first | omega | assumption | decide) ?_; (conv => cbv))
    | (refine hk.ge0I (by first | omega | assumption) ?_; (conv => cbv))
    | (refine hk.needI (by first | (simp only [rNd, hk.sb_eq, hk.ad_eq]; omega) | (simp [rNd, hk.sb_eq, hk.ad_eq]; omega)) ?_; (conv => cbv))
    | (refine hk.callA (by assumption) ?_; (conv => cbv))
    | (refine hk.calldA (by assumption) ?_; (conv => cbv))
    | (rw [hk.sb0]; (conv => cbv))
    | (rw [hk.ad0]; (conv => cbv))
    | exact hk.finB (by first | rfl | (simp [hk.c2_lss, hk.c2_leq, hk.c2_gtr, hk.c2_geq, hk.c2_eql, hk.c2_neq, hk.bn_eq, hk.bq_eq]; done) | assumption)
    | exact hk.fin1 rfl)
  refine hk.loopI (loop_rule (α := Int) (fun i => [(1, .int .i64 n), (2, .int .i64 d), (3, .ptr 0 0), (24, .int .i64 i)]) (fun _ => [.box [.int .i64 kd, .int .i64 vl, .int .i64 sh, .ls (.il .i64 ix) .any, .int .i64 lg, .int .i64 gn, .int .i64 pt, .ls (.il .i64 rc) .any, .ls (.il .i64 da) .any]])
    (fun i => 0 ≤ i ∧ i ≤ 2) (fun i => (2 - i).toNat) 0 ⟨by omega, by omega⟩ ?_ ?_)
  · exact Gh.tm (by repeat (first | exact Holds.nil _ _ | refine Holds.cons (Wk.refl _ _) ?_))
  intro i ⟨hi, hi2⟩ Q' hb hx hr2
  (conv => cbv)
  repeat' (first
    | assumption
    | (refine hk.callA hs ?_; (conv => cbv))
    | (refine hk.callA (hr _) ?_; (conv => cbv))
    | (refine hk.calldA hr ?_; (conv => cbv))
    | (rw [hcv]; (conv => cbv))
    | (refine hk.callA hsm ?_; (conv => cbv))
    | (rw [hbq]; (conv => cbv))
    | (rw [hs00]; (conv => cbv))
    | (refine hk.brLssT (by omega) ?_; (conv => cbv))
    | (refine hk.brLssF (by omega) ?_; (conv => cbv))
    | (refine hk.brLeqT (by omega) ?_; (conv => cbv))
    | (refine hk.brLeqF (by omega) ?_; (conv => cbv))
    | (refine hk.brGtrT (by omega) ?_; (conv => cbv))
    | (refine hk.brGtrF (by omega) ?_; (conv => cbv))
    | (refine hk.brGeqT (by omega) ?_; (conv => cbv))
    | (refine hk.brGeqF (by omega) ?_; (conv => cbv))
    | (refine hk.brEqlT (by omega) ?_; (conv => cbv))
    | (refine hk.brEqlF (by omega) ?_; (conv => cbv))
    | (refine hk.brNeqT (by omega) ?_; (conv => cbv))
    | (refine hk.brNeqF (by omega) ?_; (conv => cbv))
    | (refine hk.brLss (fun _ => ?_) (fun _ => ?_) <;> (conv => cbv))
    | (refine hk.brLeq (fun _ => ?_) (fun _ => ?_) <;> (conv => cbv))
    | (refine hk.brGtr (fun _ => ?_) (fun _ => ?_) <;> (conv => cbv))
    | (refine hk.brGeq (fun _ => ?_) (fun _ => ?_) <;> (conv => cbv))
    | (refine hk.brEql (fun _ => ?_) (fun _ => ?_) <;> (conv => cbv))
    | (refine hk.brNeq (fun _ => ?_) (fun _ => ?_) <;> (conv => cbv))
    | (refine hk.brNotT ?_; (conv => cbv))
    | (refine hk.brNotF ?_; (conv => cbv))
    | (refine hk.brNotS _ (by simp [hk.c2_lss, hk.c2_leq, hk.c2_gtr, hk.c2_geq, hk.c2_eql, hk.c2_neq, hk.bn_eq, hk.bq_eq]; rfl) ?_; (conv => cbv))
    | (refine hk.brBqS _ (by simp [hk.c2_lss, hk.c2_leq, hk.c2_gtr, hk.c2_geq, hk.c2_eql, hk.c2_neq, hk.bn_eq, hk.bq_eq]; rfl) ?_; (conv => cbv))
    | (refine hk.idxI (by first | omega | assumption) (by first | omega | assumption) ?_; (conv => cbv))
    | (refine hk.nzI (by first | omega | assumption | decide) ?_; (conv => cbv))
    | (refine hk.ge0I (by first | omega | assumption) ?_; (conv => cbv))
    | (refine hk.needI (by first | (simp only [rNd, hk.sb_eq, hk.ad_eq]; omega) | (simp [rNd, hk.sb_eq, hk.ad_eq]; omega)) ?_; (conv => cbv))
    | (refine hk.callA (by assumption) ?_; (conv => cbv))
    | (refine hk.calldA (by assumption) ?_; (conv => cbv))
    | (rw [hk.sb0]; (conv => cbv))
    | (rw [hk.ad0]; (conv => cbv))
    | exact hk.finB (by first | rfl | (simp [hk.c2_lss, hk.c2_leq, hk.c2_gtr, hk.c2_geq, hk.c2_eql, hk.c2_neq, hk.bn_eq, hk.bq_eq]; done) | assumption)
    | exact hk.fin1 rfl)
  · refine hk.loopI (loop_rule (α := Int × List Int) (fun x => [(1, .int .i64 n), (2, .int .i64 d), (3, .ptr 0 0), (7, .sl 3 G 0 m), (24, .int .i64 i), (50, .int .i64 m), (51, .int .i64 x.1)]) (fun x => [.box [.int .i64 kd, .int .i64 vl, .int .i64 sh, .ls (.il .i64 ix) .any, .int .i64 lg, .int .i64 gn, .int .i64 pt, .ls (.il .i64 rc) .any, .ls (.il .i64 da) .any], .box [.int .i64 kd, .int .i64 vl, .int .i64 sh, .ls (.il .i64 ix) .any, .int .i64 lg, .int .i64 gn, .int .i64 pt, .ls (.il .i64 rc) .any, .ls (.il .i64 da) .any], .tok 0, .rw G (.il .i64 x.2)])
      (fun x => 0 ≤ x.1 ∧ x.1 ≤ m ∧ m = (x.2.length : Nat)) (fun x => (m - x.1).toNat) (0, l) ⟨by simp only; omega, by simp only; omega, hm⟩ ?_ ?_)
    · exact Gh.tm (by repeat (first | exact Holds.nil _ _ | refine Holds.cons (Wk.refl _ _) ?_))
    intro ⟨j, r⟩ ⟨hj, hj2, hrl⟩ Q3 hb3 hx3 hr3
    simp only at hj hj2 hrl
    have hlnr := hln r
    rw [← hrl] at hlnr
    have hst := hstl r j 7 hj
    have had : ad 0 j = j := by rw [hk.ad_eq]; omega
    dsimp only
    by_cases hjm : j < m
    · obtain ⟨r', hr'⟩ : ∃ r', r' = stI r j 7 := ⟨_, rfl⟩
      rw [← hr'] at hst
      (conv => cbv)
      repeat' (first
        | assumption
        | (rw [hbq]; (conv => cbv))
        | (rw [hs00]; (conv => cbv))
        | (rw [had]; (conv => cbv))
        | (rw [hlnr]; (conv => cbv))
        | (refine hk.idxI hj hjm ?_; (conv => cbv))
        | (rw [← hr']; (conv => cbv))
        | (refine hk.brLssT (by omega) ?_; (conv => cbv))
        | (refine hk.brLssF (by omega) ?_; (conv => cbv))
        | (refine hk.brLeqT (by omega) ?_; (conv => cbv))
        | (refine hk.brLeqF (by omega) ?_; (conv => cbv))
        | (refine hk.brGtrT (by omega) ?_; (conv => cbv))
        | (refine hk.brGtrF (by omega) ?_; (conv => cbv))
        | (refine hk.brGeqT (by omega) ?_; (conv => cbv))
        | (refine hk.brGeqF (by omega) ?_; (conv => cbv))
        | (refine hk.brEqlT (by omega) ?_; (conv => cbv))
        | (refine hk.brEqlF (by omega) ?_; (conv => cbv))
        | (refine hk.brNeqT (by omega) ?_; (conv => cbv))
        | (refine hk.brNeqF (by omega) ?_; (conv => cbv))
        | (refine hk.brLss (fun _ => ?_) (fun _ => ?_) <;> (conv => cbv))
        | (refine hk.brLeq (fun _ => ?_) (fun _ => ?_) <;> (conv => cbv))
        | (refine hk.brGtr (fun _ => ?_) (fun _ => ?_) <;> (conv => cbv))
        | (refine hk.brGeq (fun _ => ?_) (fun _ => ?_) <;> (conv => cbv))
        | (refine hk.brEql (fun _ => ?_) (fun _ => ?_) <;> (conv => cbv))
        | (refine hk.brNeq (fun _ => ?_) (fun _ => ?_) <;> (conv => cbv))
        | (refine hk.brNotT ?_; (conv => cbv))
        | (refine hk.brNotF ?_; (conv => cbv))
        | (refine hk.brNotS _ (by simp [hk.c2_lss, hk.c2_leq, hk.c2_gtr, hk.c2_geq, hk.c2_eql, hk.c2_neq, hk.bn_eq, hk.bq_eq]; rfl) ?_; (conv => cbv))
        | (refine hk.brBqS _ (by simp [hk.c2_lss, hk.c2_leq, hk.c2_gtr, hk.c2_geq, hk.c2_eql, hk.c2_neq, hk.bn_eq, hk.bq_eq]; rfl) ?_; (conv => cbv))
        | (refine hk.idxI (by first | omega | assumption) (by first | omega | assumption) ?_; (conv => cbv))
        | (refine hk.nzI (by first | omega | assumption | decide) ?_; (conv => cbv))
        | (refine hk.ge0I (by first | omega | assumption) ?_; (conv => cbv))
        | (refine hk.needI (by first | (simp only [rNd, hk.sb_eq, hk.ad_eq]; omega) | (simp [rNd, hk.sb_eq, hk.ad_eq]; omega)) ?_; (conv => cbv))
        | (refine hk.callA (by assumption) ?_; (conv => cbv))
        | (refine hk.calldA (by assumption) ?_; (conv => cbv))
        | (rw [hk.sb0]; (conv => cbv))
        | (rw [hk.ad0]; (conv => cbv))
        | exact hk.finB (by first | rfl | (simp [hk.c2_lss, hk.c2_leq, hk.c2_gtr, hk.c2_geq, hk.c2_eql, hk.c2_neq, hk.bn_eq, hk.bq_eq]; done) | assumption)
        | exact hk.fin1 rfl)
      refine hb3 (j + 1, r') _ ⟨by simp only; omega, by simp only; omega, by simp only; omega⟩ (by simp only; omega) ?_
      dsimp only
      refine Gh.tm ?_
      repeat' (first | exact Holds.nil _ _ | refine Holds.cons (Wk.refl _ _) ?_ | refine Holds.cons (Wk.of_eq ?_) ?_)
      all_goals first
        | (rw [← hk.add64 j 1 (by omega) (by omega)]; rfl)
        | rfl
        | skip
    · (conv => cbv)
      repeat' (first
        | assumption
        | (refine hx3 _ _ ?_; (conv => cbv))
        | (refine hk.brLssT (by omega) ?_; (conv => cbv))
        | (refine hk.brLssF (by omega) ?_; (conv => cbv))
        | (refine hk.brLeqT (by omega) ?_; (conv => cbv))
        | (refine hk.brLeqF (by omega) ?_; (conv => cbv))
        | (refine hk.brGtrT (by omega) ?_; (conv => cbv))
        | (refine hk.brGtrF (by omega) ?_; (conv => cbv))
        | (refine hk.brGeqT (by omega) ?_; (conv => cbv))
        | (refine hk.brGeqF (by omega) ?_; (conv => cbv))
        | (refine hk.brEqlT (by omega) ?_; (conv => cbv))
        | (refine hk.brEqlF (by omega) ?_; (conv => cbv))
        | (refine hk.brNeqT (by omega) ?_; (conv => cbv))
        | (refine hk.brNeqF (by omega) ?_; (conv => cbv))
        | (refine hk.brLss (fun _ => ?_) (fun _ => ?_) <;> (conv => cbv))
        | (refine hk.brLeq (fun _ => ?_) (fun _ => ?_) <;> (conv => cbv))
        | (refine hk.brGtr (fun _ => ?_) (fun _ => ?_) <;> (conv => cbv))
        | (refine hk.brGeq (fun _ => ?_) (fun _ => ?_) <;> (conv => cbv))
        | (refine hk.brEql (fun _ => ?_) (fun _ => ?_) <;> (conv => cbv))
        | (refine hk.brNeq (fun _ => ?_) (fun _ => ?_) <;> (conv => cbv))
        | (refine hk.brNotT ?_; (conv => cbv))
        | (refine hk.brNotF ?_; (conv => cbv))
        | (refine hk.brNotS _ (by simp [hk.c2_lss, hk.c2_leq, hk.c2_gtr, hk.c2_geq, hk.c2_eql, hk.c2_neq, hk.bn_eq, hk.bq_eq]; rfl) ?_; (conv => cbv))
        | (refine hk.brBqS _ (by simp [hk.c2_lss, hk.c2_leq, hk.c2_gtr, hk.c2_geq, hk.c2_eql, hk.c2_neq, hk.bn_eq, hk.bq_eq]; rfl) ?_; (conv => cbv))
        | (refine hk.idxI (by first | omega | assumption) (by first | omega | assumption) ?_; (conv => cbv))
        | (refine hk.nzI (by first | omega | assumption | decide) ?_; (conv => cbv))
        | (refine hk.ge0I (by first | omega | assumption) ?_; (conv => cbv))
        | (refine hk.needI (by first | (simp only [rNd, hk.sb_eq, hk.ad_eq]; omega) | (simp [rNd, hk.sb_eq, hk.ad_eq]; omega)) ?_; (conv => cbv))
        | (refine hk.callA (by assumption) ?_; (conv => cbv))
        | (refine hk.calldA (by assumption) ?_; (conv => cbv))
        | (rw [hk.sb0]; (conv => cbv))
        | (rw [hk.ad0]; (conv => cbv))
        | exact hk.finB (by first | rfl | (simp [hk.c2_lss, hk.c2_leq, hk.c2_gtr, hk.c2_geq, hk.c2_eql, hk.c2_neq, hk.bn_eq, hk.bq_eq]; done) | assumption)
        | exact hk.fin1 rfl)
      refine hb (i + 1) _ ⟨by omega, by omega⟩ (by omega) ?_
      refine Gh.low 1 (Nat.le_of_ble_eq_true rfl) ?_ rfl rfl rfl
      repeat' (first | exact Holds.nil _ _ | refine Holds.cons (Wk.refl _ _) ?_ | refine Holds.cons (Wk.of_eq ?_) ?_)
      all_goals first
        | (rw [← hk.add64 i 1 (by omega) (by omega)]; rfl)
        | rfl
        | skip
  · refine hx _ _ ?_
    (conv => cbv)
    exact hk.fin0 rfl rfl (Wk.refl _ _)
theorem law_rowB (kd vl sh : Int) (ix : List Int) (lg gn pt : Int) (rc da : List Int) (n d m : Int) (G : Nat) (l : List Int) (hn : n ≤ 64) (hf : fewB ix rc da = true) (hm : m = (l.length : Nat)) (hm2 : m ≤ 1024)
    (hs0 : Does PP 14 [.agg [I kd, I vl, I sh, LI ix, I lg, I gn, I pt, LI rc, LI da], I n, I d] [] (Is (.tup [.sl 2 G 0 m, I 0]) [.box [.int .i64 kd, .int .i64 vl, .int .i64 sh, .ls (.il .i64 ix) .any, .int .i64 lg, .int .i64 gn, .int .i64 pt, .ls (.il .i64 rc) .any, .ls (.il .i64 da) .any], .box [.int .i64 kd, .int .i64 vl, .int .i64 sh, .ls (.il .i64 ix) .any, .int .i64 lg, .int .i64 gn, .int .i64 pt, .ls (.il .i64 rc) .any, .ls (.il .i64 da) .any], .rw G (.il .i64 l)]))
    (hr : ∀ h, Does PP 15 [.agg [I kd, I vl, I sh, LI ix, I lg, I gn, I pt, LI rc, LI da], I n, I d] h (Is (.tup [LI l, I 0]) h)) :
    Does PP 3 [.agg [I kd, I vl, I sh, LI ix, I lg, I gn, I pt, LI rc, LI da], I n, I d] [] (Is (.bool true) []) := by
  have haw := awake10
  have hfw := fun h => few_spec kd vl sh ix lg gn pt rc da h
  rw [hf] at hfw
  have hs : Does PP 14 [.agg [I kd, I vl, I sh, LI ix, I lg, I gn, I pt, LI rc, LI da], I n, I d] [.box [.int .i64 kd, .int .i64 vl, .int .i64 sh, .ls (.il .i64 ix) .any, .int .i64 lg, .int .i64 gn, .int .i64 pt, .ls (.il .i64 rc) .any, .ls (.il .i64 da) .any]] (Is (.tup [.sl 3 G 0 m, I 0]) [.box [.int .i64 kd, .int .i64 vl, .int .i64 sh, .ls (.il .i64 ix) .any, .int .i64 lg, .int .i64 gn, .int .i64 pt, .ls (.il .i64 rc) .any, .ls (.il .i64 da) .any], .box [.int .i64 kd, .int .i64 vl, .int .i64 sh, .ls (.il .i64 ix) .any, .int .i64 lg, .int .i64 gn, .int .i64 pt, .ls (.il .i64 rc) .any, .ls (.il .i64 da) .any], .box [.int .i64 kd, .int .i64 vl, .int .i64 sh, .ls (.il .i64 ix) .any, .int .i64 lg, .int .i64 gn, .int .i64 pt, .ls (.il .i64 rc) .any, .ls (.il .i64 da) .any], .rw G (.il .i64 l)]) :=
    hs0.renI [] rfl (by decide) rfl trivial rfl rfl rfl rfl rfl rfl
  have hsm : Does PP 16 [.sl 3 G 0 m, LI l] [.box [.int .i64 kd, .int .i64 vl, .int .i64 sh, .ls (.il .i64 ix) .any, .int .i64 lg, .int .i64 gn, .int .i64 pt, .ls (.il .i64 rc) .any, .ls (.il .i64 da) .any], .box [.int .i64 kd, .int .i64 vl, .int .i64 sh, .ls (.il .i64 ix) .any, .int .i64 lg, .int .i64 gn, .int .i64 pt, .ls (.il .i64 rc) .any, .ls (.il .i64 da) .any], .box [.int .i64 kd, .int .i64 vl, .int .i64 sh, .ls (.il .i64 ix) .any, .int .i64 lg, .int .i64 gn, .int .i64 pt, .ls (.il .i64 rc) .any, .ls (.il .i64 da) .any], .rw G (.il .i64 l)] (Is (.bool true) [.box [.int .i64 kd, .int .i64 vl, .int .i64 sh, .ls (.il .i64 ix) .any, .int .i64 lg, .int .i64 gn, .int .i64 pt, .ls (.il .i64 rc) .any, .ls (.il .i64 da) .any], .box [.int .i64 kd, .int .i64 vl, .int .i64 sh, .ls (.il .i64 ix) .any, .int .i64 lg, .int .i64 gn, .int .i64 pt, .ls (.il .i64 rc) .any, .ls (.il .i64 da) .any], .box [.int .i64 kd, .int .i64 vl, .int .i64 sh, .ls (.il .i64 ix) .any, .int .i64 lg, .int .i64 gn, .int .i64 pt, .ls (.il .i64 rc) .any, .ls (.il .i64 da) .any], .rw G (.il .i64 l)]) := by
    have := sameR_spec l l G m hm hm2 (by omega)
    rw [decide_eq_true rfl] at this
    exact this.renI [3] rfl (by decide) rfl ⟨rfl, trivial⟩ rfl rfl rfl rfl rfl rfl
  clear hs0
  refine doesF P_ok Try.f3 (by kernel_rfl) (by kernel_rfl) ?_
  intro i2 c2 u1 cv mx mn ad sbt bn bq ba lnI gtI apI sbI stI rpI lnG gtG apG sbG stG rpG fi fb fs fl fg fc sln sgt sap ssb sc b2s s2b nd call calld callv callvd loop rfun fin hk
  have hcv : cv .i64 0 = 0 := by rw [hk.cv_eq]; exact wrap64 (by omega) (by omega)
  have hs00 : sbt m 0 = m := by rw [hk.sb_eq]; omega
  have hbq : Nat.beq G G = true := Nat.beq_refl G
  conv at hbq => cbv
  have hstl : ∀ r j v, 0 ≤ j → (stI r j v).length = r.length := fun r j v h => by rw [hk.stI_eq]; simp
  have hln := hk.lnI_eq
  (conv => cbv)
  repeat' (first
    | assumption
    | (refine hk.callA (haw _) ?_; (conv => cbv))
    | (refine hk.calldA haw ?_; (conv => cbv))
    | (refine hk.callA (hfw _) ?_; (conv => cbv))
    | (refine hk.calldA hfw ?_; (conv => cbv))
    | (refine hk.brLssT (by omega) ?_; (conv => cbv))
    | (refine hk.brLssF (by omega) ?_; (conv => cbv))
    | (refine hk.brLeqT (by omega) ?_; (conv => cbv))
    | (refine hk.brLeqF (by omega) ?_; (conv => cbv))
    | (refine hk.brGtrT (by omega) ?_; (conv => cbv))
    | (refine hk.brGtrF (by omega) ?_; (conv => cbv))
    | (refine hk.brGeqT (by omega) ?_; (conv => cbv))
    | (refine hk.brGeqF (by omega) ?_; (conv => cbv))
    | (refine hk.brEqlT (by omega) ?_; (conv => cbv))
    | (refine hk.brEqlF (by omega) ?_; (conv => cbv))
    | (refine hk.brNeqT (by omega) ?_; (conv => cbv))
    | (refine hk.brNeqF (by omega) ?_; (conv => cbv))
    | (refine hk.brLss (fun _ => ?_) (fun _ => ?_) <;> (conv => cbv))
    | (refine hk.brLeq (fun _ => ?_) (fun _ => ?_) <;> (conv => cbv))
    | (refine hk.brGtr (fun _ => ?_) (fun _ => ?_) <;> (conv => cbv))
    | (refine hk.brGeq (fun _ => ?_) (fun _ => ?_) <;> (conv => cbv))
    | (refine hk.brEql (fun _ => ?_) (fun _ => ?_) <;> (conv => cbv))
    | (refine hk.brNeq (fun _ => ?_) (fun _ => ?_) <;> (conv => cbv))
    | (refine hk.brNotT ?_; (conv => cbv))
    | (refine hk.brNotF ?_; (conv => cbv))
    | (refine hk.brNotS _ (by simp [hk.c2_lss, hk.c2_leq, hk.c2_gtr, hk.c2_geq, hk.c2_eql, hk.c2_neq, hk.bn_eq, hk.bq_eq]; rfl) ?_; (conv => cbv))
    | (refine hk.brBqS _ (by simp [hk.c2_lss, hk.c2_leq, hk.c2_gtr, hk.c2_geq, hk.c2_eql, hk.c2_neq, hk.bn_eq, hk.bq_eq]; rfl) ?_; (conv => cbv))
    | (refine hk.idxI (by first | omega | assumption) (by first | omega | assumption) ?_; (conv => cbv))
    | (refine hk.nzI (by first | omega | assumption | decide) ?_; (conv => cbv))
    | (refine hk.ge0I (by first | omega | assumption) ?_; (conv => cbv))
    | (refine hk.needI (by first | (simp only [rNd, hk.sb_eq, hk.ad_eq]; omega) | (simp [rNd, hk.sb_eq, hk.ad_eq]; omega)) ?_; (conv => cbv))
    | (refine hk.callA (by assumption) ?_; (conv => cbv))
    | (refine hk.calldA (by assumption) ?_; (conv => cbv))
    | (rw [hk.sb0]; (conv => cbv))
    | (rw [hk.ad0]; (conv => cbv))
    | exact hk.finB (by first | rfl | (simp [hk.c2_lss, hk.c2_leq, hk.c2_gtr, hk.c2_geq, hk.c2_eql, hk.c2_neq, hk.bn_eq, hk.bq_eq]; done) | assumption)
    | exact hk.fin1 rfl)
  refine hk.loopI (loop_rule (α := Int) (fun i => [(1, .int .i64 n), (2, .int .i64 d), (3, .ptr 0 0), (24, .int .i64 i)]) (fun _ => [.box [.int .i64 kd, .int .i64 vl, .int .i64 sh, .ls (.il .i64 ix) .any, .int .i64 lg, .int .i64 gn, .int .i64 pt, .ls (.il .i64 rc) .any, .ls (.il .i64 da) .any]])
    (fun i => 0 ≤ i ∧ i ≤ 2) (fun i => (2 - i).toNat) 0 ⟨by omega, by omega⟩ ?_ ?_)
  · exact Gh.tm (by repeat (first | exact Holds.nil _ _ | refine Holds.cons (Wk.refl _ _) ?_))
  intro i ⟨hi, hi2⟩ Q' hb hx hr2
  (conv => cbv)
  repeat' (first
    | assumption
    | (refine hk.callA hs ?_; (conv => cbv))
    | (refine hk.callA (hr _) ?_; (conv => cbv))
    | (refine hk.calldA hr ?_; (conv => cbv))
    | (rw [hcv]; (conv => cbv))
    | (refine hk.callA hsm ?_; (conv => cbv))
    | (rw [hbq]; (conv => cbv))
    | (rw [hs00]; (conv => cbv))
    | (refine hk.brLssT (by omega) ?_; (conv => cbv))
    | (refine hk.brLssF (by omega) ?_; (conv => cbv))
    | (refine hk.brLeqT (by omega) ?_; (conv => cbv))
    | (refine hk.brLeqF (by omega) ?_; (conv => cbv))
    | (refine hk.brGtrT (by omega) ?_; (conv => cbv))
    | (refine hk.brGtrF (by omega) ?_; (conv => cbv))
    | (refine hk.brGeqT (by omega) ?_; (conv => cbv))
    | (refine hk.brGeqF (by omega) ?_; (conv => cbv))
    | (refine hk.brEqlT (by omega) ?_; (conv => cbv))
    | (refine hk.brEqlF (by omega) ?_; (conv => cbv))
    | (refine hk.brNeqT (by omega) ?_; (conv => cbv))
    | (refine hk.brNeqF (by omega) ?_; (conv => cbv))
    | (refine hk.brLss (fun _ => ?_) (fun _ => ?_) <;> (conv => cbv))
    | (refine hk.brLeq (fun _ => ?_) (fun _ => ?_) <;> (conv => cbv))
    | (refine hk.brGtr (fun _ => ?_) (fun _ => ?_) <;> (conv => cbv))
    | (refine hk.brGeq (fun _ => ?_) (fun _ => ?_) <;> (conv => cbv))
    | (refine hk.brEql (fun _ => ?_) (fun _ => ?_) <;> (conv => cbv))
    | (refine hk.brNeq (fun _ => ?_) (fun _ => ?_) <;> (conv => cbv))
    | (refine hk.brNotT ?_; (conv => cbv))
    | (refine hk.brNotF ?_; (conv => cbv))
    | (refine hk.brNotS _ (by simp [hk.c2_lss, hk.c2_leq, hk.c2_gtr, hk.c2_geq, hk.c2_eql, hk.c2_neq, hk.bn_eq, hk.bq_eq]; rfl) ?_; (conv => cbv))
    | (refine hk.brBqS _ (by simp [hk.c2_lss, hk.c2_leq, hk.c2_gtr, hk.c2_geq, hk.c2_eql, hk.c2_neq, hk.bn_eq, hk.bq_eq]; rfl) ?_; (conv => cbv))
    | (refine hk.idxI (by first | omega | assumption) (by first | omega | assumption) ?_; (conv => cbv))
    | (refine hk.nzI (by first | omega | assumption | decide) ?_; (conv => cbv))
    | (refine hk.ge0I (by first | omega | assumption) ?_; (conv => cbv))
    | (refine hk.needI (by first | (simp only [rNd, hk.sb_eq, hk.ad_eq]; omega) | (simp [rNd, hk.sb_eq, hk.ad_eq]; omega)) ?_; (conv => cbv))
    | (refine hk.callA (by assumption) ?_; (conv => cbv))
    | (refine hk.calldA (by assumption) ?_; (conv => cbv))
    | (rw [hk.sb0]; (conv => cbv))
    | (rw [hk.ad0]; (conv => cbv))
    | exact hk.finB (by first | rfl | (simp [hk.c2_lss, hk.c2_leq, hk.c2_gtr, hk.c2_geq, hk.c2_eql, hk.c2_neq, hk.bn_eq, hk.bq_eq]; done) | assumption)
    | exact hk.fin1 rfl)
  · refine hk.loopI (loop_rule (α := Int × List Int) (fun x => [(1, .int .i64 n), (2, .int .i64 d), (3, .ptr 0 0), (7, .sl 3 G 0 m), (24, .int .i64 i), (50, .int .i64 m), (51, .int .i64 x.1)]) (fun x => [.box [.int .i64 kd, .int .i64 vl, .int .i64 sh, .ls (.il .i64 ix) .any, .int .i64 lg, .int .i64 gn, .int .i64 pt, .ls (.il .i64 rc) .any, .ls (.il .i64 da) .any], .box [.int .i64 kd, .int .i64 vl, .int .i64 sh, .ls (.il .i64 ix) .any, .int .i64 lg, .int .i64 gn, .int .i64 pt, .ls (.il .i64 rc) .any, .ls (.il .i64 da) .any], .box [.int .i64 kd, .int .i64 vl, .int .i64 sh, .ls (.il .i64 ix) .any, .int .i64 lg, .int .i64 gn, .int .i64 pt, .ls (.il .i64 rc) .any, .ls (.il .i64 da) .any], .rw G (.il .i64 x.2)])
      (fun x => 0 ≤ x.1 ∧ x.1 ≤ m ∧ m = (x.2.length : Nat)) (fun x => (m - x.1).toNat) (0, l) ⟨by simp only; omega, by simp only; omega, hm⟩ ?_ ?_)
    · exact Gh.tm (by repeat (first | exact Holds.nil _ _ | refine Holds.cons (Wk.refl _ _) ?_))
    intro ⟨j, r⟩ ⟨hj, hj2, hrl⟩ Q3 hb3 hx3 hr3
    simp only at hj hj2 hrl
    have hlnr := hln r
    rw [← hrl] at hlnr
    have hst := hstl r j 7 hj
    have had : ad 0 j = j := by rw [hk.ad_eq]; omega
    dsimp only
    by_cases hjm : j < m
    · obtain ⟨r', hr'⟩ : ∃ r', r' = stI r j 7 := ⟨_, rfl⟩
      rw [← hr'] at hst
      (conv => cbv)
      repeat' (first
        | assumption
        | (rw [hbq]; (conv => cbv))
        | (rw [hs00]; (conv => cbv))
        | (rw [had]; (conv => cbv))
        | (rw [hlnr]; (conv => cbv))
        | (refine hk.idxI hj hjm ?_; (conv => cbv))
        | (rw [← hr']; (conv => cbv))
        | (refine hk.brLssT (by omega) ?_; (conv => cbv))
        | (refine hk.brLssF (by omega) ?_; (conv => cbv))
        | (refine hk.brLeqT (by omega) ?_; (conv => cbv))
        | (refine hk.brLeqF (by omega) ?_; (conv => cbv))
        | (refine hk.brGtrT (by omega) ?_; (conv => cbv))
        | (refine hk.brGtrF (by omega) ?_; (conv => cbv))
        | (refine hk.brGeqT (by omega) ?_; (conv => cbv))
        | (refine hk.brGeqF (by omega) ?_; (conv => cbv))
        | (refine hk.brEqlT (by omega) ?_; (conv => cbv))
        | (refine hk.brEqlF (by omega) ?_; (conv => cbv))
        | (refine hk.brNeqT (by omega) ?_; (conv => cbv))
        | (refine hk.brNeqF (by omega) ?_; (conv => cbv))
        | (refine hk.brLss (fun _ => ?_) (fun _ => ?_) <;> (conv => cbv))
        | (refine hk.brLeq (fun _ => ?_) (fun _ => ?_) <;> (conv => cbv))
        | (refine hk.brGtr (fun _ => ?_) (fun _ => ?_) <;> (conv => cbv))
        | (refine hk.brGeq (fun _ => ?_) (fun _ => ?_) <;> (conv => cbv))
        | (refine hk.brEql (fun _ => ?_) (fun _ => ?_) <;> (conv => cbv))
        | (refine hk.brNeq (fun _ => ?_) (fun _ => ?_) <;> (conv => cbv))
        | (refine hk.brNotT ?_; (conv => cbv))
        | (refine hk.brNotF ?_; (conv => cbv))
        | (refine hk.brNotS _ (by simp [hk.c2_lss, hk.c2_leq, hk.c2_gtr, hk.c2_geq, hk.c2_eql, hk.c2_neq, hk.bn_eq, hk.bq_eq]; rfl) ?_; (conv => cbv))
        | (refine hk.brBqS _ (by simp [hk.c2_lss, hk.c2_leq, hk.c2_gtr, hk.c2_geq, hk.c2_eql, hk.c2_neq, hk.bn_eq, hk.bq_eq]; rfl) ?_; (conv => cbv))
        | (refine hk.idxI (by first | omega | assumption) (by first | omega | assumption) ?_; (conv => cbv))
        | (refine hk.nzI (by first | omega | assumption | decide) ?_; (conv => cbv))
        | (refine hk.ge0I (by first | omega | assumption) ?_; (conv => cbv))
        | (refine hk.needI (by first | (simp only [rNd, hk.sb_eq, hk.ad_eq]; omega) | (simp [rNd, hk.sb_eq, hk.ad_eq]; omega)) ?_; (conv => cbv))
        | (refine hk.callA (by assumption) ?_; (conv => cbv))
        | (refine hk.calldA (by assumption) ?_; (conv => cbv))
        | (rw [hk.sb0]; (conv => cbv))
        | (rw [hk.ad0]; (conv => cbv))
        | exact hk.finB (by first | rfl | (simp [hk.c2_lss, hk.c2_leq, hk.c2_gtr, hk.c2_geq, hk.c2_eql, hk.c2_neq, hk.bn_eq, hk.bq_eq]; done) | assumption)
        | exact hk.fin1 rfl)
      refine hb3 (j + 1, r') _ ⟨by simp only; omega, by simp only; omega, by simp only; omega⟩ (by simp only; omega) ?_
      dsimp only
      refine Gh.tm ?_
      repeat' (first | exact Holds.nil _ _ | refine Holds.cons (Wk.refl _ _) ?_ | refine Holds.cons (Wk.of_eq ?_) ?_)
      all_goals first
        | (rw [← hk.add64 j 1 (by omega) (by omega)]; rfl)
        | rfl
        | skip
    · (conv => cbv)
      repeat' (first
        | assumption
        | (refine hx3 _ _ ?_; (conv => cbv))
        | (refine hk.brLssT (by omega) ?_; (conv => cbv))
        | (refine hk.brLssF (by omega) ?_; (conv => cbv))
        | (refine hk.brLeqT (by omega) ?_; (conv => cbv))
        | (refine hk.brLeqF (by omega) ?_; (conv => cbv))
        | (refine hk.brGtrT (by omega) ?_; (conv => cbv))
        | (refine hk.brGtrF (by omega) ?_; (conv => cbv))
        | (refine hk.brGeqT (by omega) ?_; (conv => cbv))
        | (refine hk.brGeqF (by omega) ?_; (conv => cbv))
        | (refine hk.brEqlT (by omega) ?_; (conv => cbv))
        | (refine hk.brEqlF (by omega) ?_; (conv => cbv))
        | (refine hk.brNeqT (by omega) ?_; (conv => cbv))
        | (refine hk.brNeqF (by omega) ?_; (conv => cbv))
        | (refine hk.brLss (fun _ => ?_) (fun _ => ?_) <;> (conv => cbv))
        | (refine hk.brLeq (fun _ => ?_) (fun _ => ?_) <;> (conv => cbv))
        | (refine hk.brGtr (fun _ => ?_) (fun _ => ?_) <;> (conv => cbv))
        | (refine hk.brGeq (fun _ => ?_) (fun _ => ?_) <;> (conv => cbv))
        | (refine hk.brEql (fun _ => ?_) (fun _ => ?_) <;> (conv => cbv))
        | (refine hk.brNeq (fun _ => ?_) (fun _ => ?_) <;> (conv => cbv))
        | (refine hk.brNotT ?_; (conv => cbv))
        | (refine hk.brNotF ?_; (conv => cbv))
        | (refine hk.brNotS _ (by simp [hk.c2_lss, hk.c2_leq, hk.c2_gtr, hk.c2_geq, hk.c2_eql, hk.c2_neq, hk.bn_eq, hk.bq_eq]; rfl) ?_; (conv => cbv))
        | (refine hk.brBqS _ (by simp [hk.c2_lss, hk.c2_leq, hk.c2_gtr, hk.c2_geq, hk.c2_eql, hk.c2_neq, hk.bn_eq, hk.bq_eq]; rfl) ?_; (conv => cbv))
        | (refine hk.idxI (by first | omega | assumption) (by first | omega | assumption) ?_; (conv => cbv))
        | (refine hk.nzI (by first | omega | assumption | decide) ?_; (conv => cbv))
        | (refine hk.ge0I (by first | omega | assumption) ?_; (conv => cbv))
        | (refine hk.needI (by first | (simp only [rNd, hk.sb_eq, hk.ad_eq]; omega) | (simp [rNd, hk.sb_eq, hk.ad_eq]; omega)) ?_; (conv => cbv))
        | (refine hk.callA (by assumption) ?_; (conv => cbv))
        | (refine hk.calldA (by assumption) ?_; (conv => cbv))
        | (rw [hk.sb0]; (conv => cbv))
        | (rw [hk.ad0]; (conv => cbv))
        | exact hk.finB (by first | rfl | (simp [hk.c2_lss, hk.c2_leq, hk.c2_gtr, hk.c2_geq, hk.c2_eql, hk.c2_neq, hk.bn_eq, hk.bq_eq]; done) | assumption)
        | exact hk.fin1 rfl)
      refine hb (i + 1) _ ⟨by omega, by omega⟩ (by omega) ?_
      refine Gh.low 1 (Nat.le_of_ble_eq_true rfl) ?_ rfl rfl rfl
      repeat' (first | exact Holds.nil _ _ | refine Holds.cons (Wk.refl _ _) ?_ | refine Holds.cons (Wk.of_eq ?_) ?_)
      all_goals first
        | (rw [← hk.add64 i 1 (by omega) (by omega)]; rfl)
        | rfl
        | skip
  · refine hx _ _ ?_
    (conv => cbv)
    exact hk.fin0 rfl rfl (Wk.refl _ _)
end Go.Proofs.Ytnnpookoencpnaa
set_option maxHeartbeats 4000000
set_option maxRecDepth 20000
set_option linter.unusedSimpArgs false
set_option linter.unusedVariables false
open Go Go.AL
namespace Go.Proofs.Ytnnpookoencpnaa
theorem law_out (kd vl sh : Int) (ix : List Int) (lg gn pt : Int) (rc da : List Int) (n d : Int) (hn : fewB ix rc da = false ∨ 64 < n) :
    Does PP 3 [.agg [I kd, I vl, I sh, LI ix, I lg, I gn, I pt, LI rc, LI da], I n, I d] [] (Is (.bool true) []) := by
  have haw := awake10
  have hfw := fun h => few_spec kd vl sh ix lg gn pt rc da h
  obtain ⟨f, hf⟩ : ∃ f, f = fewB ix rc da := ⟨_, rfl⟩
  simp only [← hf] at hfw hn
  clear hf
  refine doesF P_ok Try.f3 (by kernel_rfl) (by kernel_rfl) ?_
  intro i2 c2 u1 cv mx mn ad sbt bn bq ba lnI gtI apI sbI stI rpI lnG gtG apG sbG stG rpG fi fb fs fl fg fc sln sgt sap ssb sc b2s s2b nd call calld callv callvd loop rfun fin hk
  cases f
  · (conv => cbv)
    repeat' (first
      | assumption
      | (refine hk.callA (haw _) ?_; (conv => cbv))
      | (refine hk.calldA haw ?_; (conv => cbv))
      | (refine hk.callA (hfw _) ?_; (conv => cbv))
      | (refine hk.calldA hfw ?_; (conv => cbv))
      | (refine hk.brLssT (by omega) ?_; (conv => cbv))
      | (refine hk.brLssF (by omega) ?_; (conv => cbv))
      | (refine hk.brLeqT (by omega) ?_; (conv => cbv))
      | (refine hk.brLeqF (by omega) ?_; (conv => cbv))
      | (refine hk.brGtrT (by omega) ?_; (conv => cbv))
      | (refine hk.brGtrF (by omega) ?_; (conv => cbv))
      | (refine hk.brGeqT (by omega) ?_; (conv => cbv))
      | (refine hk.brGeqF (by omega) ?_; (conv => cbv))
      | (refine hk.brEqlT (by omega) ?_; (conv => cbv))
      | (refine hk.brEqlF (by omega) ?_; (conv => cbv))
      | (refine hk.brNeqT (by omega) ?_; (conv => cbv))
      | (refine hk.brNeqF (by omega) ?_; (conv => cbv))
      | (refine hk.brLss (fun _ => ?_) (fun _ => ?_) <;> (conv => cbv))
      | (refine hk.brLeq (fun _ => ?_) (fun _ => ?_) <;> (conv => cbv))
      | (refine hk.brGtr (fun _ => ?_) (fun _ => ?_) <;> (conv => cbv))
      | (refine hk.brGeq (fun _ => ?_) (fun _ => ?_) <;> (conv => cbv))
      | (refine hk.brEql (fun _ => ?_) (fun _ => ?_) <;> (conv => cbv))
      | (refine hk.brNeq (fun _ => ?_) (fun _ => ?_) <;> (conv => cbv))
      | (refine hk.brNotT ?_; (conv => cbv))
      | (refine hk.brNotF ?_; (conv => cbv))
      | (refine hk.brNotS _ (by simp [hk.c2_lss, hk.c2_leq, hk.c2_gtr, hk.c2_geq, hk.c2_eql, hk.c2_neq, hk.bn_eq, hk.bq_eq]; rfl) ?_; (conv => cbv))
      | (refine hk.brBqS _ (by simp [hk.c2_lss, hk.c2_leq, hk.c2_gtr, hk.c2_geq, hk.c2_eql, hk.c2_neq, hk.bn_eq, hk.bq_eq]; rfl) ?_; (conv => cbv))
      | (refine hk.idxI (by first | omega | assumption) (by first | omega | assumption) ?_; (conv => cbv))
      | (refine hk.nzI (by first | omega | assumption | decide) ?_; (conv => cbv))
      | (refine hk.ge0I (by first | omega | assumption) ?_; (conv => cbv))
      | (refine hk.needI (by first | (simp only [rNd, hk.sb_eq, hk.ad_eq]; omega) | (simp [rNd, hk.sb_eq, hk.ad_eq]; omega)) ?_; (conv => cbv))
      | (refine hk.callA (by assumption) ?_; (conv => cbv))
      | (refine hk.calldA (by assumption) ?_; (conv => cbv))
      | (rw [hk.sb0]; (conv => cbv))
      | (rw [hk.ad0]; (conv => cbv))
      | exact hk.finB (by first | rfl | (simp [hk.c2_lss, hk.c2_leq, hk.c2_gtr, hk.c2_geq, hk.c2_eql, hk.c2_neq, hk.bn_eq, hk.bq_eq]; done) | assumption)
      | exact hk.fin1 rfl)
    all_goals exact hk.fin0 rfl rfl (Wk.refl _ _)
  · have : 64 < n := by rcases hn with h | h; exact absurd h (by decide); exact h
    (conv => cbv)
    repeat' (first
      | assumption
      | (refine hk.callA (haw _) ?_; (conv => cbv))
      | (refine hk.calldA haw ?_; (conv => cbv))
      | (refine hk.callA (hfw _) ?_; (conv => cbv))
      | (refine hk.calldA hfw ?_; (conv => cbv))
      | (refine hk.brLssT (by omega) ?_; (conv => cbv))
      | (refine hk.brLssF (by omega) ?_; (conv => cbv))
      | (refine hk.brLeqT (by omega) ?_; (conv => cbv))
      | (refine hk.brLeqF (by omega) ?_; (conv => cbv))
      | (refine hk.brGtrT (by omega) ?_; (conv => cbv))
      | (refine hk.brGtrF (by omega) ?_; (conv => cbv))
      | (refine hk.brGeqT (by omega) ?_; (conv => cbv))
      | (refine hk.brGeqF (by omega) ?_; (conv => cbv))
      | (refine hk.brEqlT (by omega) ?_; (conv => cbv))
      | (refine hk.brEqlF (by omega) ?_; (conv => cbv))
      | (refine hk.brNeqT (by omega) ?_; (conv => cbv))
      | (refine hk.brNeqF (by omega) ?_; (conv => cbv))
      | (refine hk.brLss (fun _ => ?_) (fun _ => ?_) <;> (conv => cbv))
      | (refine hk.brLeq (fun _ => ?_) (fun _ => ?_) <;> (conv => cbv))
      | (refine hk.brGtr (fun _ => ?_) (fun _ => ?_) <;> (conv => cbv))
      | (refine hk.brGeq (fun _ => ?_) (fun _ => ?_) <;> (conv => cbv))
      | (refine hk.brEql (fun _ => ?_) (fun _ => ?_) <;> (conv => cbv))
      | (refine hk.brNeq (fun _ => ?_) (fun _ => ?_) <;> (conv => cbv))
      | (refine hk.brNotT ?_; (conv => cbv))
      | (refine hk.brNotF ?_; (conv => cbv))
      | (refine hk.brNotS _ (by simp [hk.c2_lss, hk.c2_leq, hk.c2_gtr, hk.c2_geq, hk.c2_eql, hk.c2_neq, hk.bn_eq, hk.bq_eq]; rfl) ?_; (conv => cbv))
      | (refine hk.brBqS _ (by simp [hk.c2_lss, hk.c2_leq, hk.c2_gtr, hk.c2_geq, hk.c2_eql, hk.c2_neq, hk.bn_eq, hk.bq_eq]; rfl) ?_; (conv => cbv))
      | (refine hk.idxI (by first | omega | assumption) (by first | omega | assumption) ?_; (conv => cbv))
      | (refine hk.nzI (by first | omega | assumption | decide) ?_; (conv => cbv))
      | (refine hk.ge0I (by first | omega | assumption) ?_; (conv => cbv))
      | (refine hk.needI (by first | (simp only [rNd, hk.sb_eq, hk.ad_eq]; omega) | (simp [rNd, hk.sb_eq, hk.ad_eq]; omega)) ?_; (conv => cbv))
      | (refine hk.callA (by assumption) ?_; (conv => cbv))
      | (refine hk.calldA (by assumption) ?_; (conv => cbv))
      | (rw [hk.sb0]; (conv => cbv))
      | (rw [hk.ad0]; (conv => cbv))
      | exact hk.finB (by first | rfl | (simp [hk.c2_lss, hk.c2_leq, hk.c2_gtr, hk.c2_geq, hk.c2_eql, hk.c2_neq, hk.bn_eq, hk.bq_eq]; done) | assumption)
      | exact hk.fin1 rfl)
    all_goals exact hk.fin0 rfl rfl (Wk.refl _ _)
theorem formE_range (kd vl sh : Int) (ix : List Int) (lg gn pt : Int) (rc da : List Int) (n d : Int) : 0 ≤ formE kd vl sh ix lg gn pt rc da n d ∧ formE kd vl sh ix lg gn pt rc da n d ≤ 100 := by
  unfold formE
  repeat' split
  all_goals decide
theorem blockSamples_law (x : BlkIn) (hx : x.ok) (n d : Int) : Does PP 3 [x.v, .int .i64 n, .int .i64 d] [] (Is (.bool true) []) := by
  obtain ⟨kd, vl, sh, ix, lg, gn, pt, rc, da⟩ := x
  obtain ⟨_, hl1, hl2, hl3⟩ := hx
  simp only at hl1 hl2 hl3
  simp only [BlkIn.v]
  by_cases hfe : fewB ix rc da = false
  · exact law_out _ _ _ _ _ _ _ _ _ _ _ (.inl hfe)
  by_cases hn : 64 < n
  · exact law_out _ _ _ _ _ _ _ _ _ _ _ (.inr hn)
  have hfe : fewB ix rc da = true := by simpa using hfe
  have hn : n ≤ 64 := by omega
  by_cases hrg : 1 ≤ n ∧ n ≤ 1024 ∧ 8 ≤ d ∧ d ≤ 26
  case neg => exact law_list _ _ _ _ _ _ _ _ _ _ _ 1 hn (by omega) hfe (fun h => bsamples_range _ _ _ _ _ _ _ _ _ _ _ h hrg) (fun h => rsamples10_range _ _ _ _ _ _ _ _ _ _ _ h hrg)
  obtain ⟨r1, r2, r3, r4⟩ := hrg
  by_cases hf : formE kd vl sh ix lg gn pt rc da n d = 0
  case neg => exact law_list _ _ _ _ _ _ _ _ _ _ _ _ hn (formE_range _ _ _ _ _ _ _ _ _ _ _) hfe (fun h => bsamples_form _ _ _ _ _ _ _ _ _ _ _ h r1 r2 r3 r4 hl1 hl2 hl3 hf) (fun h => rsamples10_form _ _ _ _ _ _ _ _ _ _ _ h r1 r2 r3 r4 hl1 hl2 hl3 hf)
  by_cases k2 : kd = 2
  · subst k2
    by_cases hbad : nmE ix lg gn da d = 0
    case neg => exact law_list _ _ _ _ _ _ _ _ _ _ _ 9 hn (by omega) hfe (fun h => bsamples_bad _ _ _ _ _ _ _ _ _ _ h r1 r2 r3 r4 hl1 hl2 hl3 hf hbad) (fun h => rsamples10_bad _ _ _ _ _ _ _ _ _ _ h r1 r2 r3 r4 hl1 hl2 hl3 hf hbad)
    obtain ⟨hE, hE2⟩ : onE lg gn da = 0 ∧ smE ix (pw d - 1) (onL lg gn da) = 0 := by
      unfold nmE at hbad
      by_cases h1 : onE lg gn da = 0
      · by_cases h2 : smE ix (pw d - 1) (onL lg gn da) = 0
        · exact ⟨h1, h2⟩
        · simp [h1, h2] at hbad
      · simp [h1] at hbad
    have hln : ((nmL sh ix lg gn da d).length : Int) ≤ 1024 := by
      obtain ⟨f1, f2, f3, f4, f5, f6, f7⟩ := form_two hf r4 r2
      obtain ⟨ho1, ho2⟩ := onL_small lg gn da
      have := smL_len ix (pw d - 1) (onL lg gn da)
      rw [nmL]; simp only [hE, hE2, ne_eq, not_true_eq_false, if_false, List.length_map]; omega
    have hr := fun h => rsamples10_two vl sh ix lg gn pt rc da n d h r1 r2 r3 r4 hl1 hl2 hl3 hf hE hE2
    by_cases hok : (nmL sh ix lg gn da d).any (lacksP d) = true
    · simp only [allP, hok] at hr
      exact law_list _ _ _ _ _ _ _ _ _ _ _ 9 hn (by omega) hfe (fun h => pure0 (bsamples_twoN _ _ _ _ _ _ _ _ _ _ r1 r2 r3 r4 hl1 hl2 hl3 hf hE hE2 hok) rfl rfl h) hr
    · have hok : (nmL sh ix lg gn da d).any (lacksP d) = false := by simpa using hok
      simp only [allP, hok] at hr
      exact law_rowB _ _ _ _ _ _ _ _ _ _ _ _ _ _ hn hfe rfl hln (bsamples_two _ _ _ _ _ _ _ _ _ _ r1 r2 r3 r4 hl1 hl2 hl3 hf hE hE2 hok) hr
  · have hr := fun h => rsamples10_plain kd vl sh ix lg gn pt rc da n d h r1 r2 r3 r4 hl1 hl2 hl3 hf k2
    by_cases k3 : kd = 3
    · subst k3
      have ho : outL 3 vl sh ix lg gn da n d = da := rfl
      simp only [ho] at hr
      obtain ⟨_, hdn⟩ := form_plain hf k2
      by_cases hok : da.any (lacksP d) = true
      · simp only [allP, hok] at hr
        exact law_list _ _ _ _ _ _ _ _ _ _ _ 9 hn (by omega) hfe (fun h => pure0 (bsamples_rawN _ _ _ _ _ _ _ _ _ _ r1 r2 r3 r4 hl1 hl2 hl3 hf hok) rfl rfl h) hr
      · have hok : da.any (lacksP d) = false := by simpa using hok
        simp only [allP, hok] at hr
        exact law_row1 _ _ _ _ _ _ _ _ _ _ _ _ _ _ hn hfe (hdn rfl).symm r2 (bsamples_raw _ _ _ _ _ _ _ _ _ _ r1 r2 r3 r4 hl1 hl2 hl3 hf hok) hr
    · have ho : outL kd vl sh ix lg gn da n d = List.replicate n.toNat vl := by rw [outL, if_neg k2, if_neg k3]
      simp only [ho] at hr
      by_cases hok : (List.replicate n.toNat vl).any (lacksP d) = true
      · simp only [allP, hok] at hr
        exact law_list _ _ _ _ _ _ _ _ _ _ _ 9 hn (by omega) hfe (fun h => pure0 (bsamples_constN _ _ _ _ _ _ _ _ _ _ _ r1 hn r3 r4 hl1 hl2 hl3 hf k2 k3 hok) rfl rfl h) hr
      · have hok : (List.replicate n.toNat vl).any (lacksP d) = false := by simpa using hok
        simp only [allP, hok] at hr
        exact law_rowT _ _ _ _ _ _ _ _ _ _ _ _ _ _ hn hfe (by rw [List.length_replicate]; omega) r2 (bsamples_const _ _ _ _ _ _ _ _ _ _ _ r1 hn r3 r4 hl1 hl2 hl3 hf k2 k3 hok) hr
end Go.Proofs.Ytnnpookoencpnaa
