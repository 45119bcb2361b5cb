/-
  Contracts of functions of the program, proved over the abstract machine of the Al texts.
-/
import Derived.Test.YtnnpookoencpnaaTryTab
import Derived.Test.YtnnpookoencpnaaAl4
import Derived.Test.YtnnpookoencpnaaBase
import Derived.Test.YtnnpookoencpnaaRkX
import Derived.Test.YtnnpookoencpnaaBk
import Derived.Test.YtnnpookoencpnaaBsX1
import Derived.Test.YtnnpookoencpnaaBsX3
import Derived.Test.YtnnpookoencpnaaBsX8
import Derived.Test.YtnnpookoencpnaaBsX7
import Derived.Test.YtnnpookoencpnaaPlY
set_option maxHeartbeats 4000000
set_option maxRecDepth 20000
set_option linter.unusedSimpArgs false
set_option linter.unusedVariables false
open Go Go.AL
namespace Go.Proofs.Ytnnpookoencpnaa
theorem plain_Z (l : List Int) (d n x0 q : Int) (hqr : q = 2) (hall : ∀ j, j < l.length → l.getD j 0 = x0) (hz : x0 = 0) (hn0 : n = (l.length : Nat)) (hl0 : 1 ≤ n) (hl : n ≤ 64) (hx00 : x0 = l.getD 0 0) (h3 : 8 ≤ d) (h4 : d ≤ 26) (hb : l.any (lacksP d) = false)
    (hpl : ∀ h, Does PP 18 [LI l, I d] h (Is (.tup [bv (0) (0) ([]), I 0]) h))
    (hsa : Does PP 14 [bv (0) (0) ([]), I n, I d] [] (Is (.tup [.sl 2 0 0 n, I 0]) [.box [I 0, I 0, I 0, LI [], I 0, I 0, I 0, LI [], LI []], .tok 0, .rw 0 (.il .i64 l)]))
    (hbi : ∀ h, Does PP 22 [bv (0) (0) ([]), I n, I d] h (Is (I q) h)) (hrb : ∀ h, Does PP 23 [bv (0) (0) ([]), I d] h (Is (I q) h)) :
    Does PP 5 [LI l, I d] [] (Is (.bool true) []) := by
  have haw := awake10
  have hrd := fun h => rdepth_spec d h
  rw [decide_eq_true h3, decide_eq_true h4] at hrd
  have hha := fun n h => rhas_spec d n h h3 h4
  have hgo : ∀ j, j < l.length → (!lacksP d (l.getD j 0)) = true := fun j hj => by
    rw [List.any_eq_false] at hb
    have := hb (l.getD j 0) (mem_getD.2 ⟨j, hj, rfl⟩)
    simpa using this
  obtain ⟨g, hg⟩ : ∃ g : Int → Bool, ∀ n, g n = !lacksP d n := ⟨_, fun _ => rfl⟩
  simp only [← hg] at hha hgo
  have hsa1 : Does PP 14 [bv (0) (0) ([]), I n, I d] [.box [.int .i64 0, .int .i64 0, .int .i64 0, .ls (.il .i64 []) .any, .int .i64 0, .int .i64 0, .int .i64 0, .ls (.il .i64 []) .any, .ls (.il .i64 []) .any]] (Is (.tup [.sl 3 0 0 n, I 0]) [.box [.int .i64 0, .int .i64 0, .int .i64 0, .ls (.il .i64 []) .any, .int .i64 0, .int .i64 0, .int .i64 0, .ls (.il .i64 []) .any, .ls (.il .i64 []) .any], .box [I 0, I 0, I 0, LI [], I 0, I 0, I 0, LI [], LI []], .tok 0, .rw 0 (.il .i64 l)]) :=
    hsa.renI [] rfl (by decide) rfl trivial rfl rfl rfl rfl rfl rfl
  have hsm : ∀ o, Does PP 16 [.sl 3 0 0 n, LI l] [.box [.int .i64 0, .int .i64 0, .int .i64 0, .ls (.il .i64 []) .any, .int .i64 0, .int .i64 0, .int .i64 0, .ls (.il .i64 []) .any, .ls (.il .i64 []) .any], .box [I 0, I 0, I 0, LI [], I 0, I 0, I 0, LI [], LI []], .tok 0, .rw 0 (.il .i64 l), o] (Is (.bool true) [.box [.int .i64 0, .int .i64 0, .int .i64 0, .ls (.il .i64 []) .any, .int .i64 0, .int .i64 0, .int .i64 0, .ls (.il .i64 []) .any, .ls (.il .i64 []) .any], .box [I 0, I 0, I 0, LI [], I 0, I 0, I 0, LI [], LI []], .tok 0, .rw 0 (.il .i64 l), o]) := fun o => by
    have := sameR_spec l l 0 n hn0 (by omega) (by omega)
    rw [decide_eq_true rfl] at this
    exact this.renI [3] rfl (by decide) rfl ⟨rfl, trivial⟩ rfl rfl rfl rfl rfl rfl
  clear hsa hb hg
  refine doesF P_ok Try.f5 (by kernel_rfl) (by kernel_rfl) ?_
  intro i2 c2 u1 cv mx mn ad sbt bn bq ba lnI gtI apI sbI stI rpI lnG gtG apG sbG stG rpG fi fb fs fl fg fc sln sgt sap ssb sc b2s s2b nd call calld callv callvd loop rfun fin hk
  have hln : lnI l = n := by rw [hk.lnI_eq]; omega
  have hgt := hk.gtI_eq l
  have hgt0 : gtI l 0 = x0 := by rw [hgt, hx00]; rfl
  have hmd : i2 .mul .i64 n d = n * d := by
    have : 0 ≤ n * d := Int.mul_nonneg (by omega) (by omega)
    have : n * d ≤ 64 * 26 := Int.mul_le_mul hl h4 (by omega) (by omega)
    exact hk.mul64 _ _ (by omega) (by omega)
  obtain ⟨w, hw⟩ : ∃ w, w = n * d := ⟨_, rfl⟩
  have hw1 : 0 ≤ w ∧ w ≤ 1664 := by
    have : 0 ≤ n * d := Int.mul_nonneg (by omega) (by omega)
    have : n * d ≤ 64 * 26 := Int.mul_le_mul hl h4 (by omega) (by omega)
    omega
  rw [← hw] at hmd
  obtain ⟨y1, hy1⟩ : ∃ y, y = 2 + d := ⟨_, rfl⟩
  obtain ⟨y2, hy2⟩ : ∃ y, y = 2 + w := ⟨_, rfl⟩
  have ha1 : i2 .add .i64 2 d = y1 := by rw [hy1]; exact hk.add64 _ _ (by omega) (by omega)
  have ha2 : i2 .add .i64 2 w = y2 := by rw [hy2]; exact hk.add64 _ _ (by omega) (by omega)
  have hbt : ∀ b, Nat.beq b b = true := fun b => Nat.beq_refl b
  (conv => cbv)
  repeat' (first
    | assumption
    | (rw [hln]; (conv => cbv))
    | (rw [hgt0]; (conv => cbv))
    | (refine hk.callA (haw _) ?_; (conv => cbv))
    | (refine hk.calldA haw ?_; (conv => cbv))
    | (refine hk.callA (hpl _) ?_; (conv => cbv))
    | (refine hk.calldA hpl ?_; (conv => cbv))
    | (refine hk.callA (hrd _) ?_; (conv => cbv))
    | (refine hk.calldA hrd ?_; (conv => cbv))
    | (refine hk.idxI (by omega) (by omega : (0 : Int) < n) ?_; (conv => cbv))
    | (refine hk.brLssT (by omega) ?_; (conv => cbv))
    | (refine hk.brLssF (by omega) ?_; (conv => cbv))
    | (refine hk.brLeqT (by omega) ?_; (conv => cbv))
    | (refine hk.brLeqF (by omega) ?_; (conv => cbv))
    | (refine hk.brGtrT (by omega) ?_; (conv => cbv))
    | (refine hk.brGtrF (by omega) ?_; (conv => cbv))
    | (refine hk.brGeqT (by omega) ?_; (conv => cbv))
    | (refine hk.brGeqF (by omega) ?_; (conv => cbv))
    | (refine hk.brEqlT (by omega) ?_; (conv => cbv))
    | (refine hk.brEqlF (by omega) ?_; (conv => cbv))
    | (refine hk.brNeqT (by omega) ?_; (conv => cbv))
    | (refine hk.brNeqF (by omega) ?_; (conv => cbv))
    | (refine hk.brLss (fun _ => ?_) (fun _ => ?_) <;> (conv => cbv))
    | (refine hk.brLeq (fun _ => ?_) (fun _ => ?_) <;> (conv => cbv))
    | (refine hk.brGtr (fun _ => ?_) (fun _ => ?_) <;> (conv => cbv))
    | (refine hk.brGeq (fun _ => ?_) (fun _ => ?_) <;> (conv => cbv))
    | (refine hk.brEql (fun _ => ?_) (fun _ => ?_) <;> (conv => cbv))
    | (refine hk.brNeq (fun _ => ?_) (fun _ => ?_) <;> (conv => cbv))
    | (refine hk.brNotT ?_; (conv => cbv))
    | (refine hk.brNotF ?_; (conv => cbv))
    | (refine hk.brNotS _ (by simp [hk.c2_lss, hk.c2_leq, hk.c2_gtr, hk.c2_geq, hk.c2_eql, hk.c2_neq, hk.bn_eq, hk.bq_eq]; rfl) ?_; (conv => cbv))
    | (refine hk.brBqS _ (by simp [hk.c2_lss, hk.c2_leq, hk.c2_gtr, hk.c2_geq, hk.c2_eql, hk.c2_neq, hk.bn_eq, hk.bq_eq]; rfl) ?_; (conv => cbv))
    | (refine hk.idxI (by first | omega | assumption) (by first | omega | assumption) ?_; (conv => cbv))
    | (refine hk.nzI (by first | omega | assumption | decide) ?_; (conv => cbv))
    | (refine hk.ge0I (by first | omega | assumption) ?_; (conv => cbv))
    | (refine hk.needI (by first | (simp only [rNd, hk.sb_eq, hk.ad_eq]; omega) | (simp [rNd, hk.sb_eq, hk.ad_eq]; omega)) ?_; (conv => cbv))
    | (refine hk.callA (by assumption) ?_; (conv => cbv))
    | (refine hk.calldA (by assumption) ?_; (conv => cbv))
    | (rw [hk.sb0]; (conv => cbv))
    | (rw [hk.ad0]; (conv => cbv))
    | exact hk.finB (by first | rfl | (simp [hk.c2_lss, hk.c2_leq, hk.c2_gtr, hk.c2_geq, hk.c2_eql, hk.c2_neq, hk.bn_eq, hk.bq_eq]; done) | assumption)
    | exact hk.fin1 rfl)
  refine hk.loopI (loop_rule (α := Int × Int × Int) (fun x => [(0, .ls (.il .i64 l) .any), (1, .int .i64 d), (4, .bool false), (5, .ptr 0 0), (6, .int .i64 0), (7, .int .i64 x.2.1), (8, .int .i64 x.2.2), (46, .ls (.il .i64 l) .any), (47, .int .i64 n), (48, .int .i64 x.1)]) (fun _ => [.box [.int .i64 0, .int .i64 0, .int .i64 0, .ls (.il .i64 []) .any, .int .i64 0, .int .i64 0, .int .i64 0, .ls (.il .i64 []) .any, .ls (.il .i64 []) .any]])
    (fun x => 0 ≤ x.1 ∧ x.1 ≤ n ∧ x.2.1 = 1 ∧ x.2.2 = x0) (fun x => (n - x.1).toNat) (0, 1, x0) ⟨by simp only; omega, by simp only; omega, rfl, rfl⟩ ?_ ?_)
  · exact Gh.tm (by repeat (first | exact Holds.nil _ _ | refine Holds.cons (Wk.refl _ _) ?_))
  intro ⟨i, k, v⟩ ⟨hi, hi2, hi3⟩ Q' hb hx hr
  simp only at hi hi2 hi3
  dsimp only
  by_cases hin : i < n
  · obtain ⟨x, hx0⟩ : ∃ x, x = gtI l i := ⟨_, rfl⟩
    have hxm := hx0
    rw [hgt] at hxm
    have hha := fun h => hha x h
    have hgx : g x = true := by rw [hxm]; exact hgo _ (by omega)
    rw [hgx] at hha
    have hxe : x = x0 := by rw [hxm]; exact hall _ (by omega)
    obtain ⟨rfl, rfl⟩ := hi3
    subst hxe
    (conv => cbv)
    repeat' (first
      | assumption
      | (rw [hln]; (conv => cbv))
      | (rw [hgt0]; (conv => cbv))
      | (refine hk.idxI hi hin ?_; (conv => cbv))
      | (refine hk.idxI (by omega) (by omega : (0 : Int) < n) ?_; (conv => cbv))
      | (rw [← hx0]; (conv => cbv))
      | (refine hk.callA (hha _) ?_; (conv => cbv))
      | (refine hk.calldA hha ?_; (conv => cbv))
      | (refine hk.brLssT (by omega) ?_; (conv => cbv))
      | (refine hk.brLssF (by omega) ?_; (conv => cbv))
      | (refine hk.brLeqT (by omega) ?_; (conv => cbv))
      | (refine hk.brLeqF (by omega) ?_; (conv => cbv))
      | (refine hk.brGtrT (by omega) ?_; (conv => cbv))
      | (refine hk.brGtrF (by omega) ?_; (conv => cbv))
      | (refine hk.brGeqT (by omega) ?_; (conv => cbv))
      | (refine hk.brGeqF (by omega) ?_; (conv => cbv))
      | (refine hk.brEqlT (by omega) ?_; (conv => cbv))
      | (refine hk.brEqlF (by omega) ?_; (conv => cbv))
      | (refine hk.brNeqT (by omega) ?_; (conv => cbv))
      | (refine hk.brNeqF (by omega) ?_; (conv => cbv))
      | (refine hk.brLss (fun _ => ?_) (fun _ => ?_) <;> (conv => cbv))
      | (refine hk.brLeq (fun _ => ?_) (fun _ => ?_) <;> (conv => cbv))
      | (refine hk.brGtr (fun _ => ?_) (fun _ => ?_) <;> (conv => cbv))
      | (refine hk.brGeq (fun _ => ?_) (fun _ => ?_) <;> (conv => cbv))
      | (refine hk.brEql (fun _ => ?_) (fun _ => ?_) <;> (conv => cbv))
      | (refine hk.brNeq (fun _ => ?_) (fun _ => ?_) <;> (conv => cbv))
      | (refine hk.brNotT ?_; (conv => cbv))
      | (refine hk.brNotF ?_; (conv => cbv))
      | (refine hk.brNotS _ (by simp [hk.c2_lss, hk.c2_leq, hk.c2_gtr, hk.c2_geq, hk.c2_eql, hk.c2_neq, hk.bn_eq, hk.bq_eq]; rfl) ?_; (conv => cbv))
      | (refine hk.brBqS _ (by simp [hk.c2_lss, hk.c2_leq, hk.c2_gtr, hk.c2_geq, hk.c2_eql, hk.c2_neq, hk.bn_eq, hk.bq_eq]; rfl) ?_; (conv => cbv))
      | (refine hk.idxI (by first | omega | assumption) (by first | omega | assumption) ?_; (conv => cbv))
      | (refine hk.nzI (by first | omega | assumption | decide) ?_; (conv => cbv))
      | (refine hk.ge0I (by first | omega | assumption) ?_; (conv => cbv))
      | (refine hk.needI (by first | (simp only [rNd, hk.sb_eq, hk.ad_eq]; omega) | (simp [rNd, hk.sb_eq, hk.ad_eq]; omega)) ?_; (conv => cbv))
      | (refine hk.callA (by assumption) ?_; (conv => cbv))
      | (refine hk.calldA (by assumption) ?_; (conv => cbv))
      | (rw [hk.sb0]; (conv => cbv))
      | (rw [hk.ad0]; (conv => cbv))
      | exact hk.finB (by first | rfl | (simp [hk.c2_lss, hk.c2_leq, hk.c2_gtr, hk.c2_geq, hk.c2_eql, hk.c2_neq, hk.bn_eq, hk.bq_eq]; done) | assumption)
      | exact hk.fin1 rfl)
    refine hb (i + 1, 1, x) _ ⟨by simp only; omega, by simp only; omega, rfl, rfl⟩ (by simp only; omega) ?_
    dsimp only
    refine Gh.tm ?_
    repeat' (first | exact Holds.nil _ _ | refine Holds.cons (Wk.refl _ _) ?_ | refine Holds.cons (Wk.of_eq ?_) ?_)
    all_goals first
      | (rw [← hk.add64 i 1 (by omega) (by omega)]; rfl)
      | rfl
      | skip
  · have : i = n := by omega
    subst this
    obtain ⟨rfl, rfl⟩ := hi3
    subst hqr
    (conv => cbv)
    repeat' (first
      | assumption
      | (rw [hln]; (conv => cbv))
      | (rw [hmd]; (conv => cbv))
      | (rw [ha1]; (conv => cbv))
      | (rw [ha2]; (conv => cbv))
      | (refine hx _ _ ?_; (conv => cbv))
      | (refine hk.callA hsa1 ?_; (conv => cbv))
      | (refine hk.callA (hsm _) ?_; (conv => cbv))
      | (refine hk.callA (hbi _) ?_; (conv => cbv))
      | (refine hk.calldA hbi ?_; (conv => cbv))
      | (refine hk.callA (hrb _) ?_; (conv => cbv))
      | (refine hk.calldA hrb ?_; (conv => cbv))
      | (refine hk.brLssT (by omega) ?_; (conv => cbv))
      | (refine hk.brLssF (by omega) ?_; (conv => cbv))
      | (refine hk.brLeqT (by omega) ?_; (conv => cbv))
      | (refine hk.brLeqF (by omega) ?_; (conv => cbv))
      | (refine hk.brGtrT (by omega) ?_; (conv => cbv))
      | (refine hk.brGtrF (by omega) ?_; (conv => cbv))
      | (refine hk.brGeqT (by omega) ?_; (conv => cbv))
      | (refine hk.brGeqF (by omega) ?_; (conv => cbv))
      | (refine hk.brEqlT (by omega) ?_; (conv => cbv))
      | (refine hk.brEqlF (by omega) ?_; (conv => cbv))
      | (refine hk.brNeqT (by omega) ?_; (conv => cbv))
      | (refine hk.brNeqF (by omega) ?_; (conv => cbv))
      | (refine hk.brLss (fun _ => ?_) (fun _ => ?_) <;> (conv => cbv))
      | (refine hk.brLeq (fun _ => ?_) (fun _ => ?_) <;> (conv => cbv))
      | (refine hk.brGtr (fun _ => ?_) (fun _ => ?_) <;> (conv => cbv))
      | (refine hk.brGeq (fun _ => ?_) (fun _ => ?_) <;> (conv => cbv))
      | (refine hk.brEql (fun _ => ?_) (fun _ => ?_) <;> (conv => cbv))
      | (refine hk.brNeq (fun _ => ?_) (fun _ => ?_) <;> (conv => cbv))
      | (refine hk.brNotT ?_; (conv => cbv))
      | (refine hk.brNotF ?_; (conv => cbv))
      | (refine hk.brNotS _ (by simp [hk.c2_lss, hk.c2_leq, hk.c2_gtr, hk.c2_geq, hk.c2_eql, hk.c2_neq, hk.bn_eq, hk.bq_eq]; rfl) ?_; (conv => cbv))
      | (refine hk.brBqS _ (by simp [hk.c2_lss, hk.c2_leq, hk.c2_gtr, hk.c2_geq, hk.c2_eql, hk.c2_neq, hk.bn_eq, hk.bq_eq]; rfl) ?_; (conv => cbv))
      | (refine hk.idxI (by first | omega | assumption) (by first | omega | assumption) ?_; (conv => cbv))
      | (refine hk.nzI (by first | omega | assumption | decide) ?_; (conv => cbv))
      | (refine hk.ge0I (by first | omega | assumption) ?_; (conv => cbv))
      | (refine hk.needI (by first | (simp only [rNd, hk.sb_eq, hk.ad_eq]; omega) | (simp [rNd, hk.sb_eq, hk.ad_eq]; omega)) ?_; (conv => cbv))
      | (refine hk.callA (by assumption) ?_; (conv => cbv))
      | (refine hk.calldA (by assumption) ?_; (conv => cbv))
      | (rw [hk.sb0]; (conv => cbv))
      | (rw [hk.ad0]; (conv => cbv))
      | exact hk.finB (by first | rfl | (simp [hk.c2_lss, hk.c2_leq, hk.c2_gtr, hk.c2_geq, hk.c2_eql, hk.c2_neq, hk.bn_eq, hk.bq_eq]; done) | assumption)
      | exact hk.fin1 rfl)
    all_goals first
      | exact hk.fin0 rfl rfl (Wk.refl _ _)
      | exact hk.fin0 rfl rfl (Wk.of_eq (by rw [hk.c2_eql, decide_eq_true rfl]))
      | skip
theorem plain_C (l : List Int) (d n x0 q : Int) (hqr : q = 2 + d) (hall : ∀ j, j < l.length → l.getD j 0 = x0) (hz : x0 ≠ 0) (hn0 : n = (l.length : Nat)) (hl0 : 1 ≤ n) (hl : n ≤ 64) (hx00 : x0 = l.getD 0 0) (h3 : 8 ≤ d) (h4 : d ≤ 26) (hb : l.any (lacksP d) = false)
    (hpl : ∀ h, Does PP 18 [LI l, I d] h (Is (.tup [bv (1) (x0) ([]), I 0]) h))
    (hsa : Does PP 14 [bv (1) (x0) ([]), I n, I d] [] (Is (.tup [.sl 2 0 0 n, I 0]) [.box [I 1, I x0, I 0, LI [], I 0, I 0, I 0, LI [], LI []], .tok 0, .rw 0 (.il .i64 l)]))
    (hbi : ∀ h, Does PP 22 [bv (1) (x0) ([]), I n, I d] h (Is (I q) h)) (hrb : ∀ h, Does PP 23 [bv (1) (x0) ([]), I d] h (Is (I q) h)) :
    Does PP 5 [LI l, I d] [] (Is (.bool true) []) := by
  have haw := awake10
  have hrd := fun h => rdepth_spec d h
  rw [decide_eq_true h3, decide_eq_true h4] at hrd
  have hha := fun n h => rhas_spec d n h h3 h4
  have hgo : ∀ j, j < l.length → (!lacksP d (l.getD j 0)) = true := fun j hj => by
    rw [List.any_eq_false] at hb
    have := hb (l.getD j 0) (mem_getD.2 ⟨j, hj, rfl⟩)
    simpa using this
  obtain ⟨g, hg⟩ : ∃ g : Int → Bool, ∀ n, g n = !lacksP d n := ⟨_, fun _ => rfl⟩
  simp only [← hg] at hha hgo
  have hsa1 : Does PP 14 [bv (1) (x0) ([]), I n, I d] [.box [.int .i64 1, .int .i64 x0, .int .i64 0, .ls (.il .i64 []) .any, .int .i64 0, .int .i64 0, .int .i64 0, .ls (.il .i64 []) .any, .ls (.il .i64 []) .any]] (Is (.tup [.sl 3 0 0 n, I 0]) [.box [.int .i64 1, .int .i64 x0, .int .i64 0, .ls (.il .i64 []) .any, .int .i64 0, .int .i64 0, .int .i64 0, .ls (.il .i64 []) .any, .ls (.il .i64 []) .any], .box [I 1, I x0, I 0, LI [], I 0, I 0, I 0, LI [], LI []], .tok 0, .rw 0 (.il .i64 l)]) :=
    hsa.renI [] rfl (by decide) rfl trivial rfl rfl rfl rfl rfl rfl
  have hsm : ∀ o, Does PP 16 [.sl 3 0 0 n, LI l] [.box [.int .i64 1, .int .i64 x0, .int .i64 0, .ls (.il .i64 []) .any, .int .i64 0, .int .i64 0, .int .i64 0, .ls (.il .i64 []) .any, .ls (.il .i64 []) .any], .box [I 1, I x0, I 0, LI [], I 0, I 0, I 0, LI [], LI []], .tok 0, .rw 0 (.il .i64 l), o] (Is (.bool true) [.box [.int .i64 1, .int .i64 x0, .int .i64 0, .ls (.il .i64 []) .any, .int .i64 0, .int .i64 0, .int .i64 0, .ls (.il .i64 []) .any, .ls (.il .i64 []) .any], .box [I 1, I x0, I 0, LI [], I 0, I 0, I 0, LI [], LI []], .tok 0, .rw 0 (.il .i64 l), o]) := fun o => by
    have := sameR_spec l l 0 n hn0 (by omega) (by omega)
    rw [decide_eq_true rfl] at this
    exact this.renI [3] rfl (by decide) rfl ⟨rfl, trivial⟩ rfl rfl rfl rfl rfl rfl
  clear hsa hb hg
  refine doesF P_ok Try.f5 (by kernel_rfl) (by kernel_rfl) ?_
  intro i2 c2 u1 cv mx mn ad sbt bn bq ba lnI gtI apI sbI stI rpI lnG gtG apG sbG stG rpG fi fb fs fl fg fc sln sgt sap ssb sc b2s s2b nd call calld callv callvd loop rfun fin hk
  have hln : lnI l = n := by rw [hk.lnI_eq]; omega
  have hgt := hk.gtI_eq l
  have hgt0 : gtI l 0 = x0 := by rw [hgt, hx00]; rfl
  have hmd : i2 .mul .i64 n d = n * d := by
    have : 0 ≤ n * d := Int.mul_nonneg (by omega) (by omega)
    have : n * d ≤ 64 * 26 := Int.mul_le_mul hl h4 (by omega) (by omega)
    exact hk.mul64 _ _ (by omega) (by omega)
  obtain ⟨w, hw⟩ : ∃ w, w = n * d := ⟨_, rfl⟩
  have hw1 : 0 ≤ w ∧ w ≤ 1664 := by
    have : 0 ≤ n * d := Int.mul_nonneg (by omega) (by omega)
    have : n * d ≤ 64 * 26 := Int.mul_le_mul hl h4 (by omega) (by omega)
    omega
  rw [← hw] at hmd
  obtain ⟨y1, hy1⟩ : ∃ y, y = 2 + d := ⟨_, rfl⟩
  obtain ⟨y2, hy2⟩ : ∃ y, y = 2 + w := ⟨_, rfl⟩
  have ha1 : i2 .add .i64 2 d = y1 := by rw [hy1]; exact hk.add64 _ _ (by omega) (by omega)
  have ha2 : i2 .add .i64 2 w = y2 := by rw [hy2]; exact hk.add64 _ _ (by omega) (by omega)
  have hbt : ∀ b, Nat.beq b b = true := fun b => Nat.beq_refl b
  (conv => cbv)
  repeat' (first
    | assumption
    | (rw [hln]; (conv => cbv))
    | (rw [hgt0]; (conv => cbv))
    | (refine hk.callA (haw _) ?_; (conv => cbv))
    | (refine hk.calldA haw ?_; (conv => cbv))
    | (refine hk.callA (hpl _) ?_; (conv => cbv))
    | (refine hk.calldA hpl ?_; (conv => cbv))
    | (refine hk.callA (hrd _) ?_; (conv => cbv))
    | (refine hk.calldA hrd ?_; (conv => cbv))
    | (refine hk.idxI (by omega) (by omega : (0 : Int) < n) ?_; (conv => cbv))
    | (refine hk.brLssT (by omega) ?_; (conv => cbv))
    | (refine hk.brLssF (by omega) ?_; (conv => cbv))
    | (refine hk.brLeqT (by omega) ?_; (conv => cbv))
    | (refine hk.brLeqF (by omega) ?_; (conv => cbv))
    | (refine hk.brGtrT (by omega) ?_; (conv => cbv))
    | (refine hk.brGtrF (by omega) ?_; (conv => cbv))
    | (refine hk.brGeqT (by omega) ?_; (conv => cbv))
    | (refine hk.brGeqF (by omega) ?_; (conv => cbv))
    | (refine hk.brEqlT (by omega) ?_; (conv => cbv))
    | (refine hk.brEqlF (by omega) ?_; (conv => cbv))
    | (refine hk.brNeqT (by omega) ?_; (conv => cbv))
    | (refine hk.brNeqF (by omega) ?_; (conv => cbv))
    | (refine hk.brLss (fun _ => ?_) (fun _ => ?_) <;> (conv => cbv))
    | (refine hk.brLeq (fun _ => ?_) (fun _ => ?_) <;> (conv => cbv))
    | (refine hk.brGtr (fun _ => ?_) (fun _ => ?_) <;> (conv => cbv))
    | (refine hk.brGeq (fun _ => ?_) (fun _ => ?_) <;> (conv => cbv))
    | (refine hk.brEql (fun _ => ?_) (fun _ => ?_) <;> (conv => cbv))
    | (refine hk.brNeq (fun _ => ?_) (fun _ => ?_) <;> (conv => cbv))
    | (refine hk.brNotT ?_; (conv => cbv))
    | (refine hk.brNotF ?_; (conv => cbv))
    | (refine hk.brNotS _ (by simp [hk.c2_lss, hk.c2_leq, hk.c2_gtr, hk.c2_geq, hk.c2_eql, hk.c2_neq, hk.bn_eq, hk.bq_eq]; rfl) ?_; (conv => cbv))
    | (refine hk.brBqS _ (by simp [hk.c2_lss, hk.c2_leq, hk.c2_gtr, hk.c2_geq, hk.c2_eql, hk.c2_neq, hk.bn_eq, hk.bq_eq]; rfl) ?_; (conv => cbv))
    | (refine hk.idxI (by first | omega | assumption) (by first | omega | assumption) ?_; (conv => cbv))
    | (refine hk.nzI (by first | omega | assumption | decide) ?_; (conv => cbv))
    | (refine hk.ge0I (by first | omega | assumption) ?_; (conv => cbv))
    | (refine hk.needI (by first | (simp only [rNd, hk.sb_eq, hk.ad_eq]; omega) | (simp [rNd, hk.sb_eq, hk.ad_eq]; omega)) ?_; (conv => cbv))
    | (refine hk.callA (by assumption) ?_; (conv => cbv))
    | (refine hk.calldA (by assumption) ?_; (conv => cbv))
    | (rw [hk.sb0]; (conv => cbv))
    | (rw [hk.ad0]; (conv => cbv))
    | exact hk.finB (by first | rfl | (simp [hk.c2_lss, hk.c2_leq, hk.c2_gtr, hk.c2_geq, hk.c2_eql, hk.c2_neq, hk.bn_eq, hk.bq_eq]; done) | assumption)
    | exact hk.fin1 rfl)
  refine hk.loopI (loop_rule (α := Int × Int × Int) (fun x => [(0, .ls (.il .i64 l) .any), (1, .int .i64 d), (4, .bool false), (5, .ptr 0 0), (6, .int .i64 0), (7, .int .i64 x.2.1), (8, .int .i64 x.2.2), (46, .ls (.il .i64 l) .any), (47, .int .i64 n), (48, .int .i64 x.1)]) (fun _ => [.box [.int .i64 1, .int .i64 x0, .int .i64 0, .ls (.il .i64 []) .any, .int .i64 0, .int .i64 0, .int .i64 0, .ls (.il .i64 []) .any, .ls (.il .i64 []) .any]])
    (fun x => 0 ≤ x.1 ∧ x.1 ≤ n ∧ x.2.1 = 1 ∧ x.2.2 = x0) (fun x => (n - x.1).toNat) (0, 1, x0) ⟨by simp only; omega, by simp only; omega, rfl, rfl⟩ ?_ ?_)
  · exact Gh.tm (by repeat (first | exact Holds.nil _ _ | refine Holds.cons (Wk.refl _ _) ?_))
  intro ⟨i, k, v⟩ ⟨hi, hi2, hi3⟩ Q' hb hx hr
  simp only at hi hi2 hi3
  dsimp only
  by_cases hin : i < n
  · obtain ⟨x, hx0⟩ : ∃ x, x = gtI l i := ⟨_, rfl⟩
    have hxm := hx0
    rw [hgt] at hxm
    have hha := fun h => hha x h
    have hgx : g x = true := by rw [hxm]; exact hgo _ (by omega)
    rw [hgx] at hha
    have hxe : x = x0 := by rw [hxm]; exact hall _ (by omega)
    obtain ⟨rfl, rfl⟩ := hi3
    subst hxe
    (conv => cbv)
    repeat' (first
      | assumption
      | (rw [hln]; (conv => cbv))
      | (rw [hgt0]; (conv => cbv))
      | (refine hk.idxI hi hin ?_; (conv => cbv))
      | (refine hk.idxI (by omega) (by omega : (0 : Int) < n) ?_; (conv => cbv))
      | (rw [← hx0]; (conv => cbv))
      | (refine hk.callA (hha _) ?_; (conv => cbv))
      | (refine hk.calldA hha ?_; (conv => cbv))
      | (refine hk.brLssT (by omega) ?_; (conv => cbv))
      | (refine hk.brLssF (by omega) ?_; (conv => cbv))
      | (refine hk.brLeqT (by omega) ?_; (conv => cbv))
      | (refine hk.brLeqF (by omega) ?_; (conv => cbv))
      | (refine hk.brGtrT (by omega) ?_; (conv => cbv))
      | (refine hk.brGtrF (by omega) ?_; (conv => cbv))
      | (refine hk.brGeqT (by omega) ?_; (conv => cbv))
      | (refine hk.brGeqF (by omega) ?_; (conv => cbv))
      | (refine hk.brEqlT (by omega) ?_; (conv => cbv))
      | (refine hk.brEqlF (by omega) ?_; (conv => cbv))
      | (refine hk.brNeqT (by omega) ?_; (conv => cbv))
      | (refine hk.brNeqF (by omega) ?_; (conv => cbv))
      | (refine hk.brLss (fun _ => ?_) (fun _ => ?_) <;> (conv => cbv))
      | (refine hk.brLeq (fun _ => ?_) (fun _ => ?_) <;> (conv => cbv))
      | (refine hk.brGtr (fun _ => ?_) (fun _ => ?_) <;> (conv => cbv))
      | (refine hk.brGeq (fun _ => ?_) (fun _ => ?_) <;> (conv => cbv))
      | (refine hk.brEql (fun _ => ?_) (fun _ => ?_) <;> (conv => cbv))
      | (refine hk.brNeq (fun _ => ?_) (fun _ => ?_) <;> (conv => cbv))
      | (refine hk.brNotT ?_; (conv => cbv))
      | (refine hk.brNotF ?_; (conv => cbv))
      | (refine hk.brNotS _ (by simp [hk.c2_lss, hk.c2_leq, hk.c2_gtr, hk.c2_geq, hk.c2_eql, hk.c2_neq, hk.bn_eq, hk.bq_eq]; rfl) ?_; (conv => cbv))
      | (refine hk.brBqS _ (by simp [hk.c2_lss, hk.c2_leq, hk.c2_gtr, hk.c2_geq, hk.c2_eql, hk.c2_neq, hk.bn_eq, hk.bq_eq]; rfl) ?_; (conv => cbv))
      | (refine hk.idxI (by first | omega | assumption) (by first | omega | assumption) ?_; (conv => cbv))
      | (refine hk.nzI (by first | omega | assumption | decide) ?_; (conv => cbv))
      | (refine hk.ge0I (by first | omega | assumption) ?_; (conv => cbv))
      | (refine hk.needI (by first | (simp only [rNd, hk.sb_eq, hk.ad_eq]; omega) | (simp [rNd, hk.sb_eq, hk.ad_eq]; omega)) ?_; (conv => cbv))
      | (refine hk.callA (by assumption) ?_; (conv => cbv))
      | (refine hk.calldA (by assumption) ?_; (conv => cbv))
      | (rw [hk.sb0]; (conv => cbv))
      | (rw [hk.ad0]; (conv => cbv))
      | exact hk.finB (by first | rfl | (simp [hk.c2_lss, hk.c2_leq, hk.c2_gtr, hk.c2_geq, hk.c2_eql, hk.c2_neq, hk.bn_eq, hk.bq_eq]; done) | assumption)
      | exact hk.fin1 rfl)
    refine hb (i + 1, 1, x) _ ⟨by simp only; omega, by simp only; omega, rfl, rfl⟩ (by simp only; omega) ?_
    dsimp only
    refine Gh.tm ?_
    repeat' (first | exact Holds.nil _ _ | refine Holds.cons (Wk.refl _ _) ?_ | refine Holds.cons (Wk.of_eq ?_) ?_)
    all_goals first
      | (rw [← hk.add64 i 1 (by omega) (by omega)]; rfl)
      | rfl
      | skip
  · have : i = n := by omega
    subst this
    obtain ⟨rfl, rfl⟩ := hi3
    have hqy : q = y1 := by omega
    subst hqy
    (conv => cbv)
    repeat' (first
      | assumption
      | (rw [hln]; (conv => cbv))
      | (rw [hmd]; (conv => cbv))
      | (rw [ha1]; (conv => cbv))
      | (rw [ha2]; (conv => cbv))
      | (refine hx _ _ ?_; (conv => cbv))
      | (refine hk.callA hsa1 ?_; (conv => cbv))
      | (refine hk.callA (hsm _) ?_; (conv => cbv))
      | (refine hk.callA (hbi _) ?_; (conv => cbv))
      | (refine hk.calldA hbi ?_; (conv => cbv))
      | (refine hk.callA (hrb _) ?_; (conv => cbv))
      | (refine hk.calldA hrb ?_; (conv => cbv))
      | (refine hk.brLssT (by omega) ?_; (conv => cbv))
      | (refine hk.brLssF (by omega) ?_; (conv => cbv))
      | (refine hk.brLeqT (by omega) ?_; (conv => cbv))
      | (refine hk.brLeqF (by omega) ?_; (conv => cbv))
      | (refine hk.brGtrT (by omega) ?_; (conv => cbv))
      | (refine hk.brGtrF (by omega) ?_; (conv => cbv))
      | (refine hk.brGeqT (by omega) ?_; (conv => cbv))
      | (refine hk.brGeqF (by omega) ?_; (conv => cbv))
      | (refine hk.brEqlT (by omega) ?_; (conv => cbv))
      | (refine hk.brEqlF (by omega) ?_; (conv => cbv))
      | (refine hk.brNeqT (by omega) ?_; (conv => cbv))
      | (refine hk.brNeqF (by omega) ?_; (conv => cbv))
      | (refine hk.brLss (fun _ => ?_) (fun _ => ?_) <;> (conv => cbv))
      | (refine hk.brLeq (fun _ => ?_) (fun _ => ?_) <;> (conv => cbv))
      | (refine hk.brGtr (fun _ => ?_) (fun _ => ?_) <;> (conv => cbv))
      | (refine hk.brGeq (fun _ => ?_) (fun _ => ?_) <;> (conv => cbv))
      | (refine hk.brEql (fun _ => ?_) (fun _ => ?_) <;> (conv => cbv))
      | (refine hk.brNeq (fun _ => ?_) (fun _ => ?_) <;> (conv => cbv))
      | (refine hk.brNotT ?_; (conv => cbv))
      | (refine hk.brNotF ?_; (conv => cbv))
      | (refine hk.brNotS _ (by simp [hk.c2_lss, hk.c2_leq, hk.c2_gtr, hk.c2_geq, hk.c2_eql, hk.c2_neq, hk.bn_eq, hk.bq_eq]; rfl) ?_; (conv => cbv))
      | (refine hk.brBqS _ (by simp [hk.c2_lss, hk.c2_leq, hk.c2_gtr, hk.c2_geq, hk.c2_eql, hk.c2_neq, hk.bn_eq, hk.bq_eq]; rfl) ?_; (conv => cbv))
      | (refine hk.idxI (by first | omega | assumption) (by first | omega | assumption) ?_; (conv => cbv))
      | (refine hk.nzI (by first | omega | assumption | decide) ?_; (conv => cbv))
      | (refine hk.ge0I (by first | omega | assumption) ?_; (conv => cbv))
      | (refine hk.needI (by first | (simp only [rNd, hk.sb_eq, hk.ad_eq]; omega) | (simp [rNd, hk.sb_eq, hk.ad_eq]; omega)) ?_; (conv => cbv))
      | (refine hk.callA (by assumption) ?_; (conv => cbv))
      | (refine hk.calldA (by assumption) ?_; (conv => cbv))
      | (rw [hk.sb0]; (conv => cbv))
      | (rw [hk.ad0]; (conv => cbv))
      | exact hk.finB (by first | rfl | (simp [hk.c2_lss, hk.c2_leq, hk.c2_gtr, hk.c2_geq, hk.c2_eql, hk.c2_neq, hk.bn_eq, hk.bq_eq]; done) | assumption)
      | exact hk.fin1 rfl)
    all_goals first
      | exact hk.fin0 rfl rfl (Wk.refl _ _)
      | exact hk.fin0 rfl rfl (Wk.of_eq (by rw [hk.c2_eql, decide_eq_true rfl]))
      | skip
end Go.Proofs.Ytnnpookoencpnaa
