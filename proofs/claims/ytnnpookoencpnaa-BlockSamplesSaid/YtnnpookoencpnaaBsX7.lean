/-
  Contracts of functions of the program, proved over the abstract machine of the Al texts.
-/
import Derived.Test.YtnnpookoencpnaaTryTab
import Derived.Test.YtnnpookoencpnaaAl4
import Derived.Test.YtnnpookoencpnaaBase
import Derived.Test.YtnnpookoencpnaaRkX
import Derived.Test.YtnnpookoencpnaaBsX1
import Derived.Test.YtnnpookoencpnaaBsX2
import Derived.Test.YtnnpookoencpnaaBsX3
import Derived.Test.YtnnpookoencpnaaBsX4
import Derived.Test.YtnnpookoencpnaaBsX5
import Derived.Test.YtnnpookoencpnaaBsX6
set_option maxHeartbeats 4000000
set_option maxRecDepth 20000
set_option linter.unusedSimpArgs false
set_option linter.unusedVariables false
open Go Go.AL
namespace Go.Proofs.Ytnnpookoencpnaa
theorem rsamples10_two (vl sh : Int) (ix : List Int) (lg gn pt : Int) (rc da : List Int) (n d : Int) (h : Heap) (h1 : 1 ≤ n) (h2 : n ≤ 1024) (h3 : 8 ≤ d) (h4 : d ≤ 26)
    (hl1 : ix.length ≤ 9223372036854775807) (hl2 : rc.length ≤ 9223372036854775807) (hl3 : da.length ≤ 9223372036854775807) (hf : formE 2 vl sh ix lg gn pt rc da n d = 0)
    (hE : onE lg gn da = 0) (hE2 : smE ix (pw d - 1) (onL lg gn da) = 0) :
    Does PP 15 [.agg [I 2, I vl, I sh, LI ix, I lg, I gn, I pt, LI rc, LI da], I n, I d] h (Is (.tup [LI (if allP (lacksP d) (nmL sh ix lg gn da d) = true then nmL sh ix lg gn da d else []), I (if allP (lacksP d) (nmL sh ix lg gn da d) = true then 0 else 9)]) h) := by
  obtain ⟨r, hr0⟩ : ∃ r, r = nmL sh ix lg gn da d := ⟨_, rfl⟩
  have hall := fun h => rall_spec (nmL sh ix lg gn da d) d h h3 h4
  obtain ⟨f1, f2, f3, f4, f5, f6, f7⟩ := form_two hf h4 h2
  have hrg := pw_range h3 h4
  obtain ⟨ho1, ho2⟩ := onL_small lg gn da
  have hd := fun h => rdepth_spec d h
  rw [decide_eq_true h3, decide_eq_true h4] at hd
  have hfm := fun h => rform_spec 2 vl sh ix lg gn pt rc da n d h hl1 hl2 hl3
  rw [hf] at hfm
  have hpw := fun h => power_spec (d - 1) h (by omega)
  rw [← pw] at hpw
  have hon := fun h => ron_spec lg gn da h f4 f5 f6
  have hsm := fun h => rsamples_spec ix (onL lg gn da) (pw d - 1) h f3 ho1 (by omega) (by omega) (by omega)
  have hln := smL_len ix (pw d - 1) (onL lg gn da)
  have hall := fun (hh : (nmL sh ix lg gn da d).length ≤ 9223372036854775807) h => hall h hh
  simp only [← hr0] at hall
  rw [← hr0]
  obtain ⟨b, hb⟩ : ∃ b, b = allP (lacksP d) r := ⟨_, rfl⟩
  simp only [← hb] at hall
  rw [← hb]
  rw [nmL] at hr0
  have hps := fun h => power_spec sh h (by omega)
  obtain ⟨ps, hps0⟩ : ∃ p : Int, p = 2 ^ sh.toNat := ⟨_, rfl⟩
  simp only [← hps0] at hps
  have hsm1 : ∀ x, shl1 sh x = W (x * ps) := fun x => by rw [hps0]; exact shl1_mul sh x f1 f2
  obtain ⟨w, hw⟩ : ∃ w, w = pw d := ⟨_, rfl⟩
  obtain ⟨t, ht⟩ : ∃ w, w = pw d - 1 := ⟨_, rfl⟩
  obtain ⟨oL, hoL⟩ : ∃ r, r = onL lg gn da := ⟨_, rfl⟩
  obtain ⟨oE, hoE⟩ : ∃ r, r = onE lg gn da := ⟨_, rfl⟩
  simp only [← hoL, ← hoE, ← ht] at hr0 hon hsm hE hE2 hln ho2
  obtain ⟨sL, hsL⟩ : ∃ r, r = smL ix t oL := ⟨_, rfl⟩
  obtain ⟨sE, hsE⟩ : ∃ r, r = smE ix t oL := ⟨_, rfl⟩
  simp only [← hsL, ← hsE] at hsm hr0 hE2 hln
  rw [← hw] at hpw ht hrg
  obtain ⟨d1, hd1⟩ : ∃ x, x = d - 1 := ⟨_, rfl⟩
  rw [← hd1] at hpw
  subst hE hE2
  simp only [ne_eq, not_true_eq_false, if_false] at hr0
  obtain ⟨m, hm⟩ : ∃ n : Int, n = (sL.length : Nat) := ⟨_, rfl⟩
  have hm1 : 0 ≤ m ∧ m ≤ 1024 := by omega
  obtain ⟨O, hO⟩ : ∃ O : Int → List Int, ∀ i, O i = (sL.take i.toNat).map (shl1 sh) := ⟨_, fun _ => rfl⟩
  have hO0 : O 0 = [] := by rw [hO]; simp
  have hOm : O m = sL.map (shl1 sh) := by rw [hO, hm]; simp
  have hOs : ∀ i : Int, 0 ≤ i → i < m → O i ++ [W (sL.getD i.toNat 0 * ps)] = O (i + 1) := fun i a b => by
    rw [← hsm1, hO, hO, show (i + 1).toNat = i.toNat + 1 by omega, List.take_add_one, List.map_append]
    simp [List.getD, show i.toNat < sL.length by omega]
  have hOl : ∀ i : Int, 0 ≤ i → i ≤ m → (O i).length = i.toNat := fun i a b => by rw [hO, List.length_map, List.length_take]; omega
  rw [← hOm] at hr0
  have hall := hall (by rw [hr0, hOl m (by omega) (by omega)]; omega)
  subst hr0
  clear hO hOm hsm1 hw hoL hsL hsE ho1 ho2 f5 hln hps0 hb
  refine pure0 ?_ rfl rfl h
  refine doesF P_ok Try.f15 (by kernel_rfl) (by kernel_rfl) ?_
  intro i2 c2 u1 cv mx mn ad sbt bn bq ba lnI gtI apI sbI stI rpI lnG gtG apG sbG stG rpG fi fb fs fl fg fc sln sgt sap ssb sc b2s s2b nd call calld callv callvd loop rfun fin hk
  have hdv : i2 .sub .i64 d 1 = d1 := by rw [hd1]; exact hk.sub64 _ _ (by omega) (by omega)
  have htv : i2 .sub .i64 w 1 = t := by rw [ht]; exact hk.sub64 _ _ (by omega) (by omega)
  have hln : lnI sL = m := by rw [hk.lnI_eq]; omega
  have hl1 : ∀ x, lnI [x] = 1 := fun x => hk.lnI_eq _
  have hlO : ∀ i : Int, 0 ≤ i → i ≤ m → lnI (O i) = i := fun i h h2 => by rw [hk.lnI_eq, hOl i h h2]; omega
  have hap : ∀ i : Int, 0 ≤ i → i < m → apI (O i) [i2 .mul .i64 (gtI sL i) ps] = O (i + 1) := fun i h h2 => by
    rw [hk.apI_eq, hk.i2_mul, hk.gtI_eq]
    exact hOs i h h2
  clear hOs hm hOl
  (conv => cbv)
  repeat' (first
    | assumption
    | (refine hk.callA (hd _) ?_; (conv => cbv))
    | (refine hk.calldA hd ?_; (conv => cbv))
    | (refine hk.callA (hfm _) ?_; (conv => cbv))
    | (refine hk.calldA hfm ?_; (conv => cbv))
    | (refine hk.callA (hon _) ?_; (conv => cbv))
    | (refine hk.calldA hon ?_; (conv => cbv))
    | (rw [hdv]; (conv => cbv))
    | (refine hk.callA (hpw _) ?_; (conv => cbv))
    | (refine hk.calldA hpw ?_; (conv => cbv))
    | (rw [htv]; (conv => cbv))
    | (refine hk.callA (hsm _) ?_; (conv => cbv))
    | (refine hk.calldA hsm ?_; (conv => cbv))
    | (rw [hln]; (conv => cbv))
    | (refine hk.brLssT (by omega) ?_; (conv => cbv))
    | (refine hk.brLssF (by omega) ?_; (conv => cbv))
    | (refine hk.brLeqT (by omega) ?_; (conv => cbv))
    | (refine hk.brLeqF (by omega) ?_; (conv => cbv))
    | (refine hk.brGtrT (by omega) ?_; (conv => cbv))
    | (refine hk.brGtrF (by omega) ?_; (conv => cbv))
    | (refine hk.brGeqT (by omega) ?_; (conv => cbv))
    | (refine hk.brGeqF (by omega) ?_; (conv => cbv))
    | (refine hk.brEqlT (by omega) ?_; (conv => cbv))
    | (refine hk.brEqlF (by omega) ?_; (conv => cbv))
    | (refine hk.brNeqT (by omega) ?_; (conv => cbv))
    | (refine hk.brNeqF (by omega) ?_; (conv => cbv))
    | (refine hk.brLss (fun _ => ?_) (fun _ => ?_) <;> (conv => cbv))
    | (refine hk.brLeq (fun _ => ?_) (fun _ => ?_) <;> (conv => cbv))
    | (refine hk.brGtr (fun _ => ?_) (fun _ => ?_) <;> (conv => cbv))
    | (refine hk.brGeq (fun _ => ?_) (fun _ => ?_) <;> (conv => cbv))
    | (refine hk.brEql (fun _ => ?_) (fun _ => ?_) <;> (conv => cbv))
    | (refine hk.brNeq (fun _ => ?_) (fun _ => ?_) <;> (conv => cbv))
    | (refine hk.brNotT ?_; (conv => cbv))
    | (refine hk.brNotF ?_; (conv => cbv))
    | (refine hk.brNotS _ (by simp [hk.c2_lss, hk.c2_leq, hk.c2_gtr, hk.c2_geq, hk.c2_eql, hk.c2_neq, hk.bn_eq, hk.bq_eq]; rfl) ?_; (conv => cbv))
    | (refine hk.brBqS _ (by simp [hk.c2_lss, hk.c2_leq, hk.c2_gtr, hk.c2_geq, hk.c2_eql, hk.c2_neq, hk.bn_eq, hk.bq_eq]; rfl) ?_; (conv => cbv))
    | (refine hk.idxI (by first | omega | assumption) (by first | omega | assumption) ?_; (conv => cbv))
    | (refine hk.nzI (by first | omega | assumption | decide) ?_; (conv => cbv))
    | (refine hk.ge0I (by first | omega | assumption) ?_; (conv => cbv))
    | (refine hk.needI (by first | (simp only [rNd, hk.sb_eq, hk.ad_eq]; omega) | (simp [rNd, hk.sb_eq, hk.ad_eq]; omega)) ?_; (conv => cbv))
    | (refine hk.callA (by assumption) ?_; (conv => cbv))
    | (refine hk.calldA (by assumption) ?_; (conv => cbv))
    | (rw [hk.sb0]; (conv => cbv))
    | (rw [hk.ad0]; (conv => cbv))
    | exact hk.finB (by first | rfl | (simp [hk.c2_lss, hk.c2_leq, hk.c2_gtr, hk.c2_geq, hk.c2_eql, hk.c2_neq, hk.bn_eq, hk.bq_eq]; done) | assumption)
    | exact hk.fin1 rfl)
  obtain ⟨N, hN⟩ : ∃ N, N = O m := ⟨_, rfl⟩
  rw [← hN] at hall ⊢
  have hfr : [AObj.box [.int .i64 2, .int .i64 vl, .int .i64 sh, .ls (.il .i64 ix) .any, .int .i64 lg, .int .i64 gn, .int .i64 pt, .ls (.il .i64 rc) .any, .ls (.il .i64 da) .any], .tok 0].length = 2 := rfl
  refine hk.loopI (loop_rule (α := Int) (fun i => [(1, .int .i64 n), (2, .int .i64 d), (3, .ptr 0 0), (6, .ls .nl .nil), (7, .int .i64 0), (9, .ls (.il .i64 (O i)) (.tok 1 0)), (12, .ls (.il .i64 sL) .any), (63, .int .i64 m), (64, .int .i64 i)]) (fun _ => [.box [.int .i64 2, .int .i64 vl, .int .i64 sh, .ls (.il .i64 ix) .any, .int .i64 lg, .int .i64 gn, .int .i64 pt, .ls (.il .i64 rc) .any, .ls (.il .i64 da) .any], .tok 0])
    (fun i => 0 ≤ i ∧ i ≤ m) (fun i => (m - i).toNat) 0 ⟨by omega, by omega⟩ ?_ ?_)
  · rw [hO0]
    refine Gh.trans (Gh.thaw 9 (.il .i64 []) rfl trivial rfl) (Gh.tm ?_)
    repeat' (first | exact Holds.nil _ _ | refine Holds.cons (Wk.refl _ _) ?_)
  intro i ⟨hi, hi2⟩ Q' hb hx hr
  have hlO := hlO i hi hi2
  (conv => cbv)
  refine hk.brLss (fun h2 => ?_) (fun h2 => ?_)
  · have hap := hap i hi h2
    obtain ⟨x, hx0⟩ : ∃ x, x = gtI sL i := ⟨_, rfl⟩
    rw [← hx0] at hap
    (conv => cbv)
    try rw [hln]
    refine hk.idxI hi h2 ?_
    (conv => cbv)
    try rw [← hx0]
    repeat' (first
      | assumption
      | (rw [← hx0]; (conv => cbv))
      | (rw [hap]; (conv => cbv))
      | (rw [hlO, hl1]; (conv => cbv))
      | (refine hk.callA (hps _) ?_; (conv => cbv))
      | (refine hk.calldA hps ?_; (conv => cbv))
      | (refine hk.needI (by first | (simp only [rNd, hk.ad_eq, hk.sb_eq]; omega) | (simp [rNd, hk.ad_eq, hk.sb_eq]; omega)) ?_; (conv => cbv))
      | (refine hk.brLssT (by omega) ?_; (conv => cbv))
      | (refine hk.brLssF (by omega) ?_; (conv => cbv))
      | (refine hk.brLeqT (by omega) ?_; (conv => cbv))
      | (refine hk.brLeqF (by omega) ?_; (conv => cbv))
      | (refine hk.brGtrT (by omega) ?_; (conv => cbv))
      | (refine hk.brGtrF (by omega) ?_; (conv => cbv))
      | (refine hk.brGeqT (by omega) ?_; (conv => cbv))
      | (refine hk.brGeqF (by omega) ?_; (conv => cbv))
      | (refine hk.brEqlT (by omega) ?_; (conv => cbv))
      | (refine hk.brEqlF (by omega) ?_; (conv => cbv))
      | (refine hk.brNeqT (by omega) ?_; (conv => cbv))
      | (refine hk.brNeqF (by omega) ?_; (conv => cbv))
      | (refine hk.brLss (fun _ => ?_) (fun _ => ?_) <;> (conv => cbv))
      | (refine hk.brLeq (fun _ => ?_) (fun _ => ?_) <;> (conv => cbv))
      | (refine hk.brGtr (fun _ => ?_) (fun _ => ?_) <;> (conv => cbv))
      | (refine hk.brGeq (fun _ => ?_) (fun _ => ?_) <;> (conv => cbv))
      | (refine hk.brEql (fun _ => ?_) (fun _ => ?_) <;> (conv => cbv))
      | (refine hk.brNeq (fun _ => ?_) (fun _ => ?_) <;> (conv => cbv))
      | (refine hk.brNotT ?_; (conv => cbv))
      | (refine hk.brNotF ?_; (conv => cbv))
      | (refine hk.brNotS _ (by simp [hk.c2_lss, hk.c2_leq, hk.c2_gtr, hk.c2_geq, hk.c2_eql, hk.c2_neq, hk.bn_eq, hk.bq_eq]; rfl) ?_; (conv => cbv))
      | (refine hk.brBqS _ (by simp [hk.c2_lss, hk.c2_leq, hk.c2_gtr, hk.c2_geq, hk.c2_eql, hk.c2_neq, hk.bn_eq, hk.bq_eq]; rfl) ?_; (conv => cbv))
      | (refine hk.idxI (by first | omega | assumption) (by first | omega | assumption) ?_; (conv => cbv))
      | (refine hk.nzI (by first | omega | assumption | decide) ?_; (conv => cbv))
      | (refine hk.ge0I (by first | omega | assumption) ?_; (conv => cbv))
      | (refine hk.needI (by first | (simp only [rNd, hk.sb_eq, hk.ad_eq]; omega) | (simp [rNd, hk.sb_eq, hk.ad_eq]; omega)) ?_; (conv => cbv))
      | (refine hk.callA (by assumption) ?_; (conv => cbv))
      | (refine hk.calldA (by assumption) ?_; (conv => cbv))
      | (rw [hk.sb0]; (conv => cbv))
      | (rw [hk.ad0]; (conv => cbv))
      | exact hk.finB (by first | rfl | (simp [hk.c2_lss, hk.c2_leq, hk.c2_gtr, hk.c2_geq, hk.c2_eql, hk.c2_neq, hk.bn_eq, hk.bq_eq]; done) | assumption)
      | exact hk.fin1 rfl)
    refine hb (i + 1) _ ⟨by omega, by omega⟩ (by omega) ?_
    refine Gh.retok 1 1 rfl (Nat.le_of_ble_eq_true rfl) ?_ rfl rfl
    repeat' (first | exact HoldsT.nil _ _ _ _ | refine HoldsT.tok rfl ?_ | refine HoldsT.cons (Wk.refl _ _) rfl ?_ | refine HoldsT.cons (Wk.of_eq ?_) rfl ?_)
    all_goals first
      | (rw [← hk.add64 i 1 (by omega) (by omega)]; rfl)
      | rfl
      | skip
  · have : i = m := by omega
    subst this
    refine hx _ _ ?_
    rw [← hN]
    have hall2 : ∀ h, Does PP 59 [.ls (.il .i64 N) (.tok 1 0), I d] h (Is (.bool b) h) := fun h => by
      rename_i hall3 _
      exact (‹∀ (h : Heap), Does PP 59 [LI N, I d] h (Is (.bool b) h)› h).wk (by repeat' (first | exact WkL.nil | refine WkL.cons (Wk.refl _ _) ?_ | refine WkL.cons (Wk.any _ _ _) ?_ | refine WkL.cons (Wk.nilL _ _) ?_))
    cases b
    all_goals
      (conv => cbv)
      repeat' (first
        | assumption
        | (refine hk.brLssT (by omega) ?_; (conv => cbv))
        | (refine hk.brLssF (by omega) ?_; (conv => cbv))
        | (refine hk.brLeqT (by omega) ?_; (conv => cbv))
        | (refine hk.brLeqF (by omega) ?_; (conv => cbv))
        | (refine hk.brGtrT (by omega) ?_; (conv => cbv))
        | (refine hk.brGtrF (by omega) ?_; (conv => cbv))
        | (refine hk.brGeqT (by omega) ?_; (conv => cbv))
        | (refine hk.brGeqF (by omega) ?_; (conv => cbv))
        | (refine hk.brEqlT (by omega) ?_; (conv => cbv))
        | (refine hk.brEqlF (by omega) ?_; (conv => cbv))
        | (refine hk.brNeqT (by omega) ?_; (conv => cbv))
        | (refine hk.brNeqF (by omega) ?_; (conv => cbv))
        | (refine hk.brLss (fun _ => ?_) (fun _ => ?_) <;> (conv => cbv))
        | (refine hk.brLeq (fun _ => ?_) (fun _ => ?_) <;> (conv => cbv))
        | (refine hk.brGtr (fun _ => ?_) (fun _ => ?_) <;> (conv => cbv))
        | (refine hk.brGeq (fun _ => ?_) (fun _ => ?_) <;> (conv => cbv))
        | (refine hk.brEql (fun _ => ?_) (fun _ => ?_) <;> (conv => cbv))
        | (refine hk.brNeq (fun _ => ?_) (fun _ => ?_) <;> (conv => cbv))
        | (refine hk.brNotT ?_; (conv => cbv))
        | (refine hk.brNotF ?_; (conv => cbv))
        | (refine hk.brNotS _ (by simp [hk.c2_lss, hk.c2_leq, hk.c2_gtr, hk.c2_geq, hk.c2_eql, hk.c2_neq, hk.bn_eq, hk.bq_eq]; rfl) ?_; (conv => cbv))
        | (refine hk.brBqS _ (by simp [hk.c2_lss, hk.c2_leq, hk.c2_gtr, hk.c2_geq, hk.c2_eql, hk.c2_neq, hk.bn_eq, hk.bq_eq]; rfl) ?_; (conv => cbv))
        | (refine hk.idxI (by first | omega | assumption) (by first | omega | assumption) ?_; (conv => cbv))
        | (refine hk.nzI (by first | omega | assumption | decide) ?_; (conv => cbv))
        | (refine hk.ge0I (by first | omega | assumption) ?_; (conv => cbv))
        | (refine hk.needI (by first | (simp only [rNd, hk.sb_eq, hk.ad_eq]; omega) | (simp [rNd, hk.sb_eq, hk.ad_eq]; omega)) ?_; (conv => cbv))
        | (refine hk.callA (by assumption) ?_; (conv => cbv))
        | (refine hk.calldA (by assumption) ?_; (conv => cbv))
        | (rw [hk.sb0]; (conv => cbv))
        | (rw [hk.ad0]; (conv => cbv))
        | exact hk.finB (by first | rfl | (simp [hk.c2_lss, hk.c2_leq, hk.c2_gtr, hk.c2_geq, hk.c2_eql, hk.c2_neq, hk.bn_eq, hk.bq_eq]; done) | assumption)
        | exact hk.fin1 rfl)
      refine hk.loopI (loop_rule (α := Int) (fun i => [(1, .int .i64 n), (2, .int .i64 d), (3, .ptr 0 0), (6, .ls .nl .nil), (7, .int .i64 0), (9, .ls (.il .i64 N) (.tok 1 0)), (15, .int .i64 i)]) (fun _ => [.box [.int .i64 2, .int .i64 vl, .int .i64 sh, .ls (.il .i64 ix) .any, .int .i64 lg, .int .i64 gn, .int .i64 pt, .ls (.il .i64 rc) .any, .ls (.il .i64 da) .any], .tok 0])
        (fun i => i = 0) (fun i => i.toNat) 0 rfl ?_ ?_)
      · exact Gh.tm (by repeat (first | exact Holds.nil _ _ | refine Holds.cons (Wk.refl _ _) ?_))
      intro j hj Q3 hb3 hx3 hr3
      subst hj
      clear hb hx hr
      (conv => cbv)
      repeat' (first
        | assumption
        | (refine hx3 _ _ ?_; (conv => cbv))
        | (refine hk.callA (hall2 _) ?_; (conv => cbv))
        | (refine hk.calldA hall2 ?_; (conv => cbv))
        | (refine hk.brLssT (by omega) ?_; (conv => cbv))
        | (refine hk.brLssF (by omega) ?_; (conv => cbv))
        | (refine hk.brLeqT (by omega) ?_; (conv => cbv))
        | (refine hk.brLeqF (by omega) ?_; (conv => cbv))
        | (refine hk.brGtrT (by omega) ?_; (conv => cbv))
        | (refine hk.brGtrF (by omega) ?_; (conv => cbv))
        | (refine hk.brGeqT (by omega) ?_; (conv => cbv))
        | (refine hk.brGeqF (by omega) ?_; (conv => cbv))
        | (refine hk.brEqlT (by omega) ?_; (conv => cbv))
        | (refine hk.brEqlF (by omega) ?_; (conv => cbv))
        | (refine hk.brNeqT (by omega) ?_; (conv => cbv))
        | (refine hk.brNeqF (by omega) ?_; (conv => cbv))
        | (refine hk.brLss (fun _ => ?_) (fun _ => ?_) <;> (conv => cbv))
        | (refine hk.brLeq (fun _ => ?_) (fun _ => ?_) <;> (conv => cbv))
        | (refine hk.brGtr (fun _ => ?_) (fun _ => ?_) <;> (conv => cbv))
        | (refine hk.brGeq (fun _ => ?_) (fun _ => ?_) <;> (conv => cbv))
        | (refine hk.brEql (fun _ => ?_) (fun _ => ?_) <;> (conv => cbv))
        | (refine hk.brNeq (fun _ => ?_) (fun _ => ?_) <;> (conv => cbv))
        | (refine hk.brNotT ?_; (conv => cbv))
        | (refine hk.brNotF ?_; (conv => cbv))
        | (refine hk.brNotS _ (by simp [hk.c2_lss, hk.c2_leq, hk.c2_gtr, hk.c2_geq, hk.c2_eql, hk.c2_neq, hk.bn_eq, hk.bq_eq]; rfl) ?_; (conv => cbv))
        | (refine hk.brBqS _ (by simp [hk.c2_lss, hk.c2_leq, hk.c2_gtr, hk.c2_geq, hk.c2_eql, hk.c2_neq, hk.bn_eq, hk.bq_eq]; rfl) ?_; (conv => cbv))
        | (refine hk.idxI (by first | omega | assumption) (by first | omega | assumption) ?_; (conv => cbv))
        | (refine hk.nzI (by first | omega | assumption | decide) ?_; (conv => cbv))
        | (refine hk.ge0I (by first | omega | assumption) ?_; (conv => cbv))
        | (refine hk.needI (by first | (simp only [rNd, hk.sb_eq, hk.ad_eq]; omega) | (simp [rNd, hk.sb_eq, hk.ad_eq]; omega)) ?_; (conv => cbv))
        | (refine hk.callA (by assumption) ?_; (conv => cbv))
        | (refine hk.calldA (by assumption) ?_; (conv => cbv))
        | (rw [hk.sb0]; (conv => cbv))
        | (rw [hk.ad0]; (conv => cbv))
        | exact hk.finB (by first | rfl | (simp [hk.c2_lss, hk.c2_leq, hk.c2_gtr, hk.c2_geq, hk.c2_eql, hk.c2_neq, hk.bn_eq, hk.bq_eq]; done) | assumption)
        | exact hk.fin1 rfl)
      first
        | exact hk.fin0 rfl rfl (Wk.tup ⟨Wk.any _ _ _, .refl _ _, trivial⟩)
        | exact hk.fin0 rfl rfl (Wk.tup ⟨Wk.nilL _ _, .refl _ _, trivial⟩)
        | skip
end Go.Proofs.Ytnnpookoencpnaa
set_option maxHeartbeats 4000000
set_option maxRecDepth 20000
set_option linter.unusedSimpArgs false
set_option linter.unusedVariables false
open Go Go.AL
namespace Go.Proofs.Ytnnpookoencpnaa
theorem form_plain {kd vl sh : Int} {ix : List Int} {lg gn pt : Int} {rc da : List Int} {n d : Int} (h : formE kd vl sh ix lg gn pt rc da n d = 0) (h2 : kd ≠ 2) :
    (kd = 0 ∨ kd = 1 ∨ kd = 3) ∧ (kd = 3 → (da.length : Int) = n) := by
  unfold formE at h
  by_cases k0 : kd = 0
  · exact ⟨.inl k0, by omega⟩
  rw [if_neg k0] at h
  by_cases k1 : kd = 1
  · exact ⟨.inr (.inl k1), by omega⟩
  rw [if_neg k1] at h
  by_cases k3 : kd = 3
  · rw [if_pos k3] at h
    refine ⟨.inr (.inr k3), fun _ => ?_⟩
    split at h
    · rename_i hh
      exact hh.2.2
    · exact absurd h (by decide)
  rw [if_neg k3, if_neg h2] at h
  exact absurd h (by decide)
theorem rsamples10_plain (kd vl sh : Int) (ix : List Int) (lg gn pt : Int) (rc da : List Int) (n d : Int) (h : Heap) (h1 : 1 ≤ n) (h2 : n ≤ 1024) (h3 : 8 ≤ d) (h4 : d ≤ 26)
    (hl1 : ix.length ≤ 9223372036854775807) (hl2 : rc.length ≤ 9223372036854775807) (hl3 : da.length ≤ 9223372036854775807) (hf : formE kd vl sh ix lg gn pt rc da n d = 0) (hk2 : kd ≠ 2) :
    Does PP 15 [.agg [I kd, I vl, I sh, LI ix, I lg, I gn, I pt, LI rc, LI da], I n, I d] h (Is (.tup [LI (if allP (lacksP d) (outL kd vl sh ix lg gn da n d) = true then outL kd vl sh ix lg gn da n d else []), I (if allP (lacksP d) (outL kd vl sh ix lg gn da n d) = true then 0 else 9)]) h) := by
  obtain ⟨hkd, hdn⟩ := form_plain hf hk2
  have hd := fun h => rdepth_spec d h
  rw [decide_eq_true h3, decide_eq_true h4] at hd
  have hfm := fun h => rform_spec kd vl sh ix lg gn pt rc da n d h hl1 hl2 hl3
  rw [hf] at hfm
  obtain ⟨r, hr0⟩ : ∃ r, r = outL kd vl sh ix lg gn da n d := ⟨_, rfl⟩
  have hrl : (r.length : Int) = n := by
    rw [hr0, outL, if_neg hk2]
    split
    · rename_i e; exact hdn e
    · rw [List.length_replicate]; omega
  have hall := fun h => rall_spec r d h h3 h4 (by omega)
  obtain ⟨b, hb⟩ : ∃ b, b = allP (lacksP d) r := ⟨_, rfl⟩
  simp only [← hb] at hall
  rw [← hr0, ← hb]
  obtain ⟨O, hO⟩ : ∃ O : Int → List Int, ∀ i, O i = r.take i.toNat := ⟨_, fun _ => rfl⟩
  have hO0 : O 0 = [] := by rw [hO]; simp
  have hOn : O n = r := by rw [hO]; exact List.take_of_length_le (by omega)
  have hOs : ∀ i : Int, 0 ≤ i → i < n → O i ++ [r.getD i.toNat 0] = O (i + 1) := fun i a b => by
    rw [hO, hO, show (i + 1).toNat = i.toNat + 1 by omega, List.take_add_one]
    simp [List.getD, show i.toNat < r.length by omega]
  have hOl : ∀ i : Int, 0 ≤ i → i ≤ n → (O i).length = i.toNat := fun i a b => by rw [hO, List.length_take]; omega
  have hv : kd ≠ 3 → ∀ i : Int, 0 ≤ i → i < n → O i ++ [vl] = O (i + 1) := fun k i a b => by
    rw [← hOs i a b, hr0, outL, if_neg hk2, if_neg k]
    simp [List.getD, show i.toNat < n.toNat by omega]
  have hda : kd = 3 → ∀ i : Int, 0 ≤ i → i < n → O i ++ [da.getD i.toNat 0] = O (i + 1) := fun k i a b => by
    rw [← hOs i a b, hr0, outL, if_neg hk2, if_pos k]
  clear hO hr0 hb hOs hf
  refine pure0 ?_ rfl rfl h
  refine doesF P_ok Try.f15 (by kernel_rfl) (by kernel_rfl) ?_
  intro i2 c2 u1 cv mx mn ad sbt bn bq ba lnI gtI apI sbI stI rpI lnG gtG apG sbG stG rpG fi fb fs fl fg fc sln sgt sap ssb sc b2s s2b nd call calld callv callvd loop rfun fin hk
  have hl1 : ∀ x, lnI [x] = 1 := fun x => hk.lnI_eq _
  have hlO : ∀ i : Int, 0 ≤ i → i ≤ n → lnI (O i) = i := fun i h h2 => by rw [hk.lnI_eq, hOl i h h2]; omega
  have hv : kd ≠ 3 → ∀ i : Int, 0 ≤ i → i < n → apI (O i) [vl] = O (i + 1) := fun k i a b => by rw [hk.apI_eq]; exact hv k i a b
  have hda : kd = 3 → ∀ i : Int, 0 ≤ i → i < n → apI (O i) [gtI da i] = O (i + 1) := fun k i a b => by rw [hk.apI_eq, hk.gtI_eq]; exact hda k i a b
  have hdl : kd = 3 → lnI da = n := fun k => by rw [hk.lnI_eq]; exact hdn k
  clear hOl hdn hrl
  (conv => cbv)
  repeat' (first
    | assumption
    | (refine hk.callA (hd _) ?_; (conv => cbv))
    | (refine hk.calldA hd ?_; (conv => cbv))
    | (refine hk.callA (hfm _) ?_; (conv => cbv))
    | (refine hk.calldA hfm ?_; (conv => cbv))
    | (refine hk.brLssT (by omega) ?_; (conv => cbv))
    | (refine hk.brLssF (by omega) ?_; (conv => cbv))
    | (refine hk.brLeqT (by omega) ?_; (conv => cbv))
    | (refine hk.brLeqF (by omega) ?_; (conv => cbv))
    | (refine hk.brGtrT (by omega) ?_; (conv => cbv))
    | (refine hk.brGtrF (by omega) ?_; (conv => cbv))
    | (refine hk.brGeqT (by omega) ?_; (conv => cbv))
    | (refine hk.brGeqF (by omega) ?_; (conv => cbv))
    | (refine hk.brEqlT (by omega) ?_; (conv => cbv))
    | (refine hk.brEqlF (by omega) ?_; (conv => cbv))
    | (refine hk.brNeqT (by omega) ?_; (conv => cbv))
    | (refine hk.brNeqF (by omega) ?_; (conv => cbv))
    | (refine hk.brLss (fun _ => ?_) (fun _ => ?_) <;> (conv => cbv))
    | (refine hk.brLeq (fun _ => ?_) (fun _ => ?_) <;> (conv => cbv))
    | (refine hk.brGtr (fun _ => ?_) (fun _ => ?_) <;> (conv => cbv))
    | (refine hk.brGeq (fun _ => ?_) (fun _ => ?_) <;> (conv => cbv))
    | (refine hk.brEql (fun _ => ?_) (fun _ => ?_) <;> (conv => cbv))
    | (refine hk.brNeq (fun _ => ?_) (fun _ => ?_) <;> (conv => cbv))
    | (refine hk.brNotT ?_; (conv => cbv))
    | (refine hk.brNotF ?_; (conv => cbv))
    | (refine hk.brNotS _ (by simp [hk.c2_lss, hk.c2_leq, hk.c2_gtr, hk.c2_geq, hk.c2_eql, hk.c2_neq, hk.bn_eq, hk.bq_eq]; rfl) ?_; (conv => cbv))
    | (refine hk.brBqS _ (by simp [hk.c2_lss, hk.c2_leq, hk.c2_gtr, hk.c2_geq, hk.c2_eql, hk.c2_neq, hk.bn_eq, hk.bq_eq]; rfl) ?_; (conv => cbv))
    | (refine hk.idxI (by first | omega | assumption) (by first | omega | assumption) ?_; (conv => cbv))
    | (refine hk.nzI (by first | omega | assumption | decide) ?_; (conv => cbv))
    | (refine hk.ge0I (by first | omega | assumption) ?_; (conv => cbv))
    | (refine hk.needI (by first | (simp only [rNd, hk.sb_eq, hk.ad_eq]; omega) | (simp [rNd, hk.sb_eq, hk.ad_eq]; omega)) ?_; (conv => cbv))
    | (refine hk.callA (by assumption) ?_; (conv => cbv))
    | (refine hk.calldA (by assumption) ?_; (conv => cbv))
    | (rw [hk.sb0]; (conv => cbv))
    | (rw [hk.ad0]; (conv => cbv))
    | exact hk.finB (by first | rfl | (simp [hk.c2_lss, hk.c2_leq, hk.c2_gtr, hk.c2_geq, hk.c2_eql, hk.c2_neq, hk.bn_eq, hk.bq_eq]; done) | assumption)
    | exact hk.fin1 rfl)
  have hall2 : ∀ h, Does PP 59 [.ls (.il .i64 r) (.tok 1 0), I d] h (Is (.bool b) h) := fun h => (hall h).wk (by repeat' (first | exact WkL.nil | refine WkL.cons (Wk.refl _ _) ?_ | refine WkL.cons (Wk.any _ _ _) ?_ | refine WkL.cons (Wk.nilL _ _) ?_))
  refine hk.loopI (loop_rule (α := Int) (fun i => [(1, .int .i64 n), (2, .int .i64 d), (3, .ptr 0 0), (6, .ls .nl .nil), (7, .int .i64 0), (9, .ls (.il .i64 (O i)) (.tok 1 0)), (15, .int .i64 i)]) (fun _ => [.box [.int .i64 kd, .int .i64 vl, .int .i64 sh, .ls (.il .i64 ix) .any, .int .i64 lg, .int .i64 gn, .int .i64 pt, .ls (.il .i64 rc) .any, .ls (.il .i64 da) .any], .tok 0])
    (fun i => 0 ≤ i ∧ i ≤ n) (fun i => (n - i).toNat) 0 ⟨by omega, by omega⟩ ?_ ?_)
  · rw [hO0]
    refine Gh.trans (Gh.thaw 9 (.il .i64 []) rfl trivial rfl) (Gh.tm ?_)
    repeat' (first | exact Holds.nil _ _ | refine Holds.cons (Wk.refl _ _) ?_)
  intro i ⟨hi, hi2⟩ Q' hb hx hr
  have hlO := hlO i hi hi2
  by_cases hin : i < n
  · by_cases k3 : kd = 3
    · have hap := hda k3 i hi hin
      have hdl := hdl k3
      (conv => cbv)
      repeat' (first
        | assumption
        | (rw [hap]; (conv => cbv))
        | (rw [hlO, hl1]; (conv => cbv))
        | (rw [hdl]; (conv => cbv))
        | (refine hk.idxI hi hin ?_; (conv => cbv))
        | (refine hk.needI (by first | (simp only [rNd, hk.ad_eq, hk.sb_eq]; omega) | (simp [rNd, hk.ad_eq, hk.sb_eq]; omega)) ?_; (conv => cbv))
        | (refine hk.brLssT (by omega) ?_; (conv => cbv))
        | (refine hk.brLssF (by omega) ?_; (conv => cbv))
        | (refine hk.brLeqT (by omega) ?_; (conv => cbv))
        | (refine hk.brLeqF (by omega) ?_; (conv => cbv))
        | (refine hk.brGtrT (by omega) ?_; (conv => cbv))
        | (refine hk.brGtrF (by omega) ?_; (conv => cbv))
        | (refine hk.brGeqT (by omega) ?_; (conv => cbv))
        | (refine hk.brGeqF (by omega) ?_; (conv => cbv))
        | (refine hk.brEqlT (by omega) ?_; (conv => cbv))
        | (refine hk.brEqlF (by omega) ?_; (conv => cbv))
        | (refine hk.brNeqT (by omega) ?_; (conv => cbv))
        | (refine hk.brNeqF (by omega) ?_; (conv => cbv))
        | (refine hk.brLss (fun _ => ?_) (fun _ => ?_) <;> (conv => cbv))
        | (refine hk.brLeq (fun _ => ?_) (fun _ => ?_) <;> (conv => cbv))
        | (refine hk.brGtr (fun _ => ?_) (fun _ => ?_) <;> (conv => cbv))
        | (refine hk.brGeq (fun _ => ?_) (fun _ => ?_) <;> (conv => cbv))
        | (refine hk.brEql (fun _ => ?_) (fun _ => ?_) <;> (conv => cbv))
        | (refine hk.brNeq (fun _ => ?_) (fun _ => ?_) <;> (conv => cbv))
        | (refine hk.brNotT ?_; (conv => cbv))
        | (refine hk.brNotF ?_; (conv => cbv))
        | (refine hk.brNotS _ (by simp [hk.c2_lss, hk.c2_leq, hk.c2_gtr, hk.c2_geq, hk.c2_eql, hk.c2_neq, hk.bn_eq, hk.bq_eq]; rfl) ?_; (conv => cbv))
        | (refine hk.brBqS _ (by simp [hk.c2_lss, hk.c2_leq, hk.c2_gtr, hk.c2_geq, hk.c2_eql, hk.c2_neq, hk.bn_eq, hk.bq_eq]; rfl) ?_; (conv => cbv))
        | (refine hk.idxI (by first | omega | assumption) (by first | omega | assumption) ?_; (conv => cbv))
        | (refine hk.nzI (by first | omega | assumption | decide) ?_; (conv => cbv))
        | (refine hk.ge0I (by first | omega | assumption) ?_; (conv => cbv))
        | (refine hk.needI (by first | (simp only [rNd, hk.sb_eq, hk.ad_eq]; omega) | (simp [rNd, hk.sb_eq, hk.ad_eq]; omega)) ?_; (conv => cbv))
        | (refine hk.callA (by assumption) ?_; (conv => cbv))
        | (refine hk.calldA (by assumption) ?_; (conv => cbv))
        | (rw [hk.sb0]; (conv => cbv))
        | (rw [hk.ad0]; (conv => cbv))
        | exact hk.finB (by first | rfl | (simp [hk.c2_lss, hk.c2_leq, hk.c2_gtr, hk.c2_geq, hk.c2_eql, hk.c2_neq, hk.bn_eq, hk.bq_eq]; done) | assumption)
        | exact hk.fin1 rfl)
      refine hb (i + 1) _ ⟨by omega, by omega⟩ (by omega) ?_
      refine Gh.retok 1 1 rfl (Nat.le_of_ble_eq_true rfl) ?_ rfl rfl
      repeat' (first | exact HoldsT.nil _ _ _ _ | refine HoldsT.tok rfl ?_ | refine HoldsT.cons (Wk.refl _ _) rfl ?_ | refine HoldsT.cons (Wk.of_eq ?_) rfl ?_)
      all_goals first
        | (rw [← hk.add64 i 1 (by omega) (by omega)]; rfl)
        | rfl
        | skip
    · have hap := hv k3 i hi hin
      (conv => cbv)
      repeat' (first
        | assumption
        | (rw [hap]; (conv => cbv))
        | (rw [hlO, hl1]; (conv => cbv))
        | (refine hk.needI (by first | (simp only [rNd, hk.ad_eq, hk.sb_eq]; omega) | (simp [rNd, hk.ad_eq, hk.sb_eq]; omega)) ?_; (conv => cbv))
        | (refine hk.brLssT (by omega) ?_; (conv => cbv))
        | (refine hk.brLssF (by omega) ?_; (conv => cbv))
        | (refine hk.brLeqT (by omega) ?_; (conv => cbv))
        | (refine hk.brLeqF (by omega) ?_; (conv => cbv))
        | (refine hk.brGtrT (by omega) ?_; (conv => cbv))
        | (refine hk.brGtrF (by omega) ?_; (conv => cbv))
        | (refine hk.brGeqT (by omega) ?_; (conv => cbv))
        | (refine hk.brGeqF (by omega) ?_; (conv => cbv))
        | (refine hk.brEqlT (by omega) ?_; (conv => cbv))
        | (refine hk.brEqlF (by omega) ?_; (conv => cbv))
        | (refine hk.brNeqT (by omega) ?_; (conv => cbv))
        | (refine hk.brNeqF (by omega) ?_; (conv => cbv))
        | (refine hk.brLss (fun _ => ?_) (fun _ => ?_) <;> (conv => cbv))
        | (refine hk.brLeq (fun _ => ?_) (fun _ => ?_) <;> (conv => cbv))
        | (refine hk.brGtr (fun _ => ?_) (fun _ => ?_) <;> (conv => cbv))
        | (refine hk.brGeq (fun _ => ?_) (fun _ => ?_) <;> (conv => cbv))
        | (refine hk.brEql (fun _ => ?_) (fun _ => ?_) <;> (conv => cbv))
        | (refine hk.brNeq (fun _ => ?_) (fun _ => ?_) <;> (conv => cbv))
        | (refine hk.brNotT ?_; (conv => cbv))
        | (refine hk.brNotF ?_; (conv => cbv))
        | (refine hk.brNotS _ (by simp [hk.c2_lss, hk.c2_leq, hk.c2_gtr, hk.c2_geq, hk.c2_eql, hk.c2_neq, hk.bn_eq, hk.bq_eq]; rfl) ?_; (conv => cbv))
        | (refine hk.brBqS _ (by simp [hk.c2_lss, hk.c2_leq, hk.c2_gtr, hk.c2_geq, hk.c2_eql, hk.c2_neq, hk.bn_eq, hk.bq_eq]; rfl) ?_; (conv => cbv))
        | (refine hk.idxI (by first | omega | assumption) (by first | omega | assumption) ?_; (conv => cbv))
        | (refine hk.nzI (by first | omega | assumption | decide) ?_; (conv => cbv))
        | (refine hk.ge0I (by first | omega | assumption) ?_; (conv => cbv))
        | (refine hk.needI (by first | (simp only [rNd, hk.sb_eq, hk.ad_eq]; omega) | (simp [rNd, hk.sb_eq, hk.ad_eq]; omega)) ?_; (conv => cbv))
        | (refine hk.callA (by assumption) ?_; (conv => cbv))
        | (refine hk.calldA (by assumption) ?_; (conv => cbv))
        | (rw [hk.sb0]; (conv => cbv))
        | (rw [hk.ad0]; (conv => cbv))
        | exact hk.finB (by first | rfl | (simp [hk.c2_lss, hk.c2_leq, hk.c2_gtr, hk.c2_geq, hk.c2_eql, hk.c2_neq, hk.bn_eq, hk.bq_eq]; done) | assumption)
        | exact hk.fin1 rfl)
      refine hb (i + 1) _ ⟨by omega, by omega⟩ (by omega) ?_
      refine Gh.retok 1 1 rfl (Nat.le_of_ble_eq_true rfl) ?_ rfl rfl
      repeat' (first | exact HoldsT.nil _ _ _ _ | refine HoldsT.tok rfl ?_ | refine HoldsT.cons (Wk.refl _ _) rfl ?_ | refine HoldsT.cons (Wk.of_eq ?_) rfl ?_)
      all_goals first
        | (rw [← hk.add64 i 1 (by omega) (by omega)]; rfl)
        | rfl
        | skip
  · have hie : i = n := by omega
    clear hin hb hr hlO hv hda hdl hkd
    rw [hie, hOn]
    cases b
    all_goals
      (conv => cbv)
      repeat' (first
        | assumption
        | (refine hx _ _ ?_; (conv => cbv))
        | (refine hk.callA (hall2 _) ?_; (conv => cbv))
        | (refine hk.calldA hall2 ?_; (conv => cbv))
        | (refine hk.brLssT (by omega) ?_; (conv => cbv))
        | (refine hk.brLssF (by omega) ?_; (conv => cbv))
        | (refine hk.brLeqT (by omega) ?_; (conv => cbv))
        | (refine hk.brLeqF (by omega) ?_; (conv => cbv))
        | (refine hk.brGtrT (by omega) ?_; (conv => cbv))
        | (refine hk.brGtrF (by omega) ?_; (conv => cbv))
        | (refine hk.brGeqT (by omega) ?_; (conv => cbv))
        | (refine hk.brGeqF (by omega) ?_; (conv => cbv))
        | (refine hk.brEqlT (by omega) ?_; (conv => cbv))
        | (refine hk.brEqlF (by omega) ?_; (conv => cbv))
        | (refine hk.brNeqT (by omega) ?_; (conv => cbv))
        | (refine hk.brNeqF (by omega) ?_; (conv => cbv))
        | (refine hk.brLss (fun _ => ?_) (fun _ => ?_) <;> (conv => cbv))
        | (refine hk.brLeq (fun _ => ?_) (fun _ => ?_) <;> (conv => cbv))
        | (refine hk.brGtr (fun _ => ?_) (fun _ => ?_) <;> (conv => cbv))
        | (refine hk.brGeq (fun _ => ?_) (fun _ => ?_) <;> (conv => cbv))
        | (refine hk.brEql (fun _ => ?_) (fun _ => ?_) <;> (conv => cbv))
        | (refine hk.brNeq (fun _ => ?_) (fun _ => ?_) <;> (conv => cbv))
        | (refine hk.brNotT ?_; (conv => cbv))
        | (refine hk.brNotF ?_; (conv => cbv))
        | (refine hk.brNotS _ (by simp [hk.c2_lss, hk.c2_leq, hk.c2_gtr, hk.c2_geq, hk.c2_eql, hk.c2_neq, hk.bn_eq, hk.bq_eq]; rfl) ?_; (conv => cbv))
        | (refine hk.brBqS _ (by simp [hk.c2_lss, hk.c2_leq, hk.c2_gtr, hk.c2_geq, hk.c2_eql, hk.c2_neq, hk.bn_eq, hk.bq_eq]; rfl) ?_; (conv => cbv))
        | (refine hk.idxI (by first | omega | assumption) (by first | omega | assumption) ?_; (conv => cbv))
        | (refine hk.nzI (by first | omega | assumption | decide) ?_; (conv => cbv))
        | (refine hk.ge0I (by first | omega | assumption) ?_; (conv => cbv))
        | (refine hk.needI (by first | (simp only [rNd, hk.sb_eq, hk.ad_eq]; omega) | (simp [rNd, hk.sb_eq, hk.ad_eq]; omega)) ?_; (conv => cbv))
        | (refine hk.callA (by assumption) ?_; (conv => cbv))
        | (refine hk.calldA (by assumption) ?_; (conv => cbv))
        | (rw [hk.sb0]; (conv => cbv))
        | (rw [hk.ad0]; (conv => cbv))
        | exact hk.finB (by first | rfl | (simp [hk.c2_lss, hk.c2_leq, hk.c2_gtr, hk.c2_geq, hk.c2_eql, hk.c2_neq, hk.bn_eq, hk.bq_eq]; done) | assumption)
        | exact hk.fin1 rfl)
      first
        | exact hk.fin0 rfl rfl (Wk.tup ⟨Wk.any _ _ _, .refl _ _, trivial⟩)
        | exact hk.fin0 rfl rfl (Wk.tup ⟨Wk.nilL _ _, .refl _ _, trivial⟩)
        | skip
end Go.Proofs.Ytnnpookoencpnaa
