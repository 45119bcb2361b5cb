/-
  Contracts of functions of the program, proved over the abstract machine of the Al texts.
-/
import Derived.Test.YtnnpookoencpnaaRkZ
set_option maxHeartbeats 4000000
set_option maxRecDepth 20000
set_option linter.unusedSimpArgs false
set_option linter.unusedVariables false
open Go Go.AL
namespace Go.Proofs.Ytnnpookoencpnaa
theorem rankMarks_law (l : List Int) (hl : l.length ≤ 9223372036854775807) : Does PP 8 [LI l] [] (Is (.bool true) []) := by
  have haw := awake12 []
  have hG := good_spec l [] hl
  have hRG := refGood_spec l [] hl
  obtain ⟨b, hb⟩ : ∃ b, b = orderB l := ⟨_, rfl⟩
  have hbt : b = true → Order l := fun h => (orderB_iff l).1 (by rw [← hb]; exact h)
  rw [← hb] at hG hRG
  cases b with
  | false =>
    refine doesF P_ok Try.f8 (by kernel_rfl) (by kernel_rfl) ?_
    intro i2 c2 u1 cv mx mn ad sbt bn bq ba lnI gtI apI sbI stI rpI lnG gtG apG sbG stG rpG fi fb fs fl fg fc sln sgt sap ssb sc b2s s2b nd call calld callv callvd loop rfun fin hk
    (conv => cbv)
    repeat' (first
      | assumption
      | (refine hk.brLssT (by omega) ?_; (conv => cbv))
      | (refine hk.brLssF (by omega) ?_; (conv => cbv))
      | (refine hk.brLeqT (by omega) ?_; (conv => cbv))
      | (refine hk.brLeqF (by omega) ?_; (conv => cbv))
      | (refine hk.brGtrT (by omega) ?_; (conv => cbv))
      | (refine hk.brGtrF (by omega) ?_; (conv => cbv))
      | (refine hk.brGeqT (by omega) ?_; (conv => cbv))
      | (refine hk.brGeqF (by omega) ?_; (conv => cbv))
      | (refine hk.brEqlT (by omega) ?_; (conv => cbv))
      | (refine hk.brEqlF (by omega) ?_; (conv => cbv))
      | (refine hk.brNeqT (by omega) ?_; (conv => cbv))
      | (refine hk.brNeqF (by omega) ?_; (conv => cbv))
      | (refine hk.brLss (fun _ => ?_) (fun _ => ?_) <;> (conv => cbv))
      | (refine hk.brLeq (fun _ => ?_) (fun _ => ?_) <;> (conv => cbv))
      | (refine hk.brGtr (fun _ => ?_) (fun _ => ?_) <;> (conv => cbv))
      | (refine hk.brGeq (fun _ => ?_) (fun _ => ?_) <;> (conv => cbv))
      | (refine hk.brEql (fun _ => ?_) (fun _ => ?_) <;> (conv => cbv))
      | (refine hk.brNeq (fun _ => ?_) (fun _ => ?_) <;> (conv => cbv))
      | (refine hk.brNotT ?_; (conv => cbv))
      | (refine hk.brNotF ?_; (conv => cbv))
      | (refine hk.brNotS _ (by simp [hk.c2_lss, hk.c2_leq, hk.c2_gtr, hk.c2_geq, hk.c2_eql, hk.c2_neq, hk.bn_eq, hk.bq_eq]; rfl) ?_; (conv => cbv))
      | (refine hk.brBqS _ (by simp [hk.c2_lss, hk.c2_leq, hk.c2_gtr, hk.c2_geq, hk.c2_eql, hk.c2_neq, hk.bn_eq, hk.bq_eq]; rfl) ?_; (conv => cbv))
      | (refine hk.idxI (by first | omega | assumption) (by first | omega | assumption) ?_; (conv => cbv))
      | (refine hk.nzI (by first | omega | assumption | decide) ?_; (conv => cbv))
      | (refine hk.ge0I (by first | omega | assumption) ?_; (conv => cbv))
      | (refine hk.needI (by simp only [rNd, hk.sb_eq, hk.ad_eq]; omega) ?_; (conv => cbv))
      | (refine hk.callA (by assumption) ?_; (conv => cbv))
      | (refine hk.calldA (by assumption) ?_; (conv => cbv))
      | (rw [hk.sb0]; (conv => cbv))
      | (rw [hk.ad0]; (conv => cbv))
      | exact hk.finB (by first | rfl | assumption | (simp [hk.c2_lss, hk.c2_leq, hk.c2_gtr, hk.c2_geq, hk.c2_eql, hk.c2_neq, hk.bn_eq, hk.bq_eq]; done))
      | exact hk.fin1 rfl)
  | true =>
    have ho := hbt rfl
    obtain ⟨n, hn⟩ : ∃ n, n = l.length := ⟨_, rfl⟩
    obtain ⟨z, hz⟩ : ∃ z : Int, z = (n : Int) := ⟨_, rfl⟩
    have h1 := ho.1
    have h8 := ho.2.1
    have hzn : z.toNat = n := by omega
    have hp : (rangeI n).Perm l := by rw [hn]; exact order_perm ho.2.2
    have hofg := ofGo_mk l (rangeI n) (rangeI_inc n) hp
    have hM : ∀ h, Does PP 30 [LI l] h (Is (LI (mk l)) h) := marks_spec l n z (by omega) (by omega) (by omega) (by omega) (by omega) hp
    have hRM : ∀ h, Does PP 31 [LI l] h (Is (LI (mk l)) h) := fun h => refMarks_spec l h z (by omega) (by omega) (by omega)
    have hPl : ∀ h, Does PP 26 [LI l] h (Is (LI (places l)) h) := fun h => places_spec l h h8 ho.bounds
    have hml := mk_len l
    have hO : ∀ h, Does PP 28 [LI (mk l)] h (Is (.tup [LI l, I 0]) h) := fun h => pure0 (of_spec (mk l) n z hz (by omega) (by omega) (by omega) l 0 (fun x e => by rw [hofg] at e; cases e; exact ⟨rfl, rfl⟩) (fun e => by rw [hofg] at e; cases e)) rfl rfl h
    obtain ⟨M, hMe⟩ : ∃ M, M = mk l := ⟨_, rfl⟩
    obtain ⟨P, hPe⟩ : ∃ P, P = places l := ⟨_, rfl⟩
    have hPl2 : P.length = n := by rw [hPe, places_len]; omega
    have hplc : ∀ i, i < n → 0 ≤ l.getD i 0 ∧ (l.getD i 0).toNat < n ∧ P.getD (l.getD i 0).toNat 0 = i := fun i hi => by
      have := ho.bounds i (by omega)
      refine ⟨this.1, by omega, ?_⟩
      rw [hPe]
      exact plc_get ho l.length (Nat.le_refl _) i (by omega)
    rw [← hMe] at hM hRM hO hml
    rw [← hPe] at hPl
    have hS1 : ∀ h, Does PP 16 [LI M, LI M] h (Is (.bool true) h) := fun h => by
      have := same_spec M M h (by omega) (by omega)
      rwa [decide_eq_true (rfl : M = M)] at this
    have hS2 : ∀ h, Does PP 16 [LI l, LI l] h (Is (.bool true) h) := fun h => by
      have := same_spec l l h (by omega) (by omega)
      rwa [decide_eq_true (rfl : l = l)] at this
    clear hofg hMe hPe hbt hb
    refine doesF P_ok Try.f8 (by kernel_rfl) (by kernel_rfl) ?_
    intro i2 c2 u1 cv mx mn ad sbt bn bq ba lnI gtI apI sbI stI rpI lnG gtG apG sbG stG rpG fi fb fs fl fg fc sln sgt sap ssb sc b2s s2b nd call calld callv callvd loop rfun fin hk
    have hln : lnI l = z := by rw [hk.lnI_eq]; omega
    have hlp : lnI P = z := by rw [hk.lnI_eq]; omega
    have hz20 : 1 ≤ z ∧ z ≤ 8 := by omega
    have hplc : ∀ i : Int, 0 ≤ i → i < z → 0 ≤ gtI l i ∧ gtI l i < z ∧ gtI P (gtI l i) = i := fun i h0 h1 => by
      obtain ⟨g1, g2, g3⟩ := hplc i.toNat (by omega)
      rw [hk.gtI_eq, hk.gtI_eq]
      exact ⟨g1, by omega, by omega⟩
    clear hz
    (conv => cbv)
    repeat' (first
      | assumption
      | (refine hk.callA (Does.wk (hM _) ?_) ?_
         · (repeat' (first | exact WkL.nil | refine WkL.cons (Wk.refl _ _) ?_ | refine WkL.cons (Wk.any _ _ _) ?_ | refine WkL.cons (Wk.nilL _ _) ?_))
         (conv => cbv))
      | (refine hk.callA (Does.wk (hRM _) ?_) ?_
         · (repeat' (first | exact WkL.nil | refine WkL.cons (Wk.refl _ _) ?_ | refine WkL.cons (Wk.any _ _ _) ?_ | refine WkL.cons (Wk.nilL _ _) ?_))
         (conv => cbv))
      | (refine hk.callA (Does.wk (hPl _) ?_) ?_
         · (repeat' (first | exact WkL.nil | refine WkL.cons (Wk.refl _ _) ?_ | refine WkL.cons (Wk.any _ _ _) ?_ | refine WkL.cons (Wk.nilL _ _) ?_))
         (conv => cbv))
      | (refine hk.callA (Does.wk (hO _) ?_) ?_
         · (repeat' (first | exact WkL.nil | refine WkL.cons (Wk.refl _ _) ?_ | refine WkL.cons (Wk.any _ _ _) ?_ | refine WkL.cons (Wk.nilL _ _) ?_))
         (conv => cbv))
      | (refine hk.callA (Does.wk (hS1 _) ?_) ?_
         · (repeat' (first | exact WkL.nil | refine WkL.cons (Wk.refl _ _) ?_ | refine WkL.cons (Wk.any _ _ _) ?_ | refine WkL.cons (Wk.nilL _ _) ?_))
         (conv => cbv))
      | (refine hk.callA (Does.wk (hS2 _) ?_) ?_
         · (repeat' (first | exact WkL.nil | refine WkL.cons (Wk.refl _ _) ?_ | refine WkL.cons (Wk.any _ _ _) ?_ | refine WkL.cons (Wk.nilL _ _) ?_))
         (conv => cbv))
      | (refine hk.brLssT (by omega) ?_; (conv => cbv))
      | (refine hk.brLssF (by omega) ?_; (conv => cbv))
      | (refine hk.brLeqT (by omega) ?_; (conv => cbv))
      | (refine hk.brLeqF (by omega) ?_; (conv => cbv))
      | (refine hk.brGtrT (by omega) ?_; (conv => cbv))
      | (refine hk.brGtrF (by omega) ?_; (conv => cbv))
      | (refine hk.brGeqT (by omega) ?_; (conv => cbv))
      | (refine hk.brGeqF (by omega) ?_; (conv => cbv))
      | (refine hk.brEqlT (by omega) ?_; (conv => cbv))
      | (refine hk.brEqlF (by omega) ?_; (conv => cbv))
      | (refine hk.brNeqT (by omega) ?_; (conv => cbv))
      | (refine hk.brNeqF (by omega) ?_; (conv => cbv))
      | (refine hk.brLss (fun _ => ?_) (fun _ => ?_) <;> (conv => cbv))
      | (refine hk.brLeq (fun _ => ?_) (fun _ => ?_) <;> (conv => cbv))
      | (refine hk.brGtr (fun _ => ?_) (fun _ => ?_) <;> (conv => cbv))
      | (refine hk.brGeq (fun _ => ?_) (fun _ => ?_) <;> (conv => cbv))
      | (refine hk.brEql (fun _ => ?_) (fun _ => ?_) <;> (conv => cbv))
      | (refine hk.brNeq (fun _ => ?_) (fun _ => ?_) <;> (conv => cbv))
      | (refine hk.brNotT ?_; (conv => cbv))
      | (refine hk.brNotF ?_; (conv => cbv))
      | (refine hk.brNotS _ (by simp [hk.c2_lss, hk.c2_leq, hk.c2_gtr, hk.c2_geq, hk.c2_eql, hk.c2_neq, hk.bn_eq, hk.bq_eq]; rfl) ?_; (conv => cbv))
      | (refine hk.brBqS _ (by simp [hk.c2_lss, hk.c2_leq, hk.c2_gtr, hk.c2_geq, hk.c2_eql, hk.c2_neq, hk.bn_eq, hk.bq_eq]; rfl) ?_; (conv => cbv))
      | (refine hk.idxI (by first | omega | assumption) (by first | omega | assumption) ?_; (conv => cbv))
      | (refine hk.nzI (by first | omega | assumption | decide) ?_; (conv => cbv))
      | (refine hk.ge0I (by first | omega | assumption) ?_; (conv => cbv))
      | (refine hk.needI (by simp only [rNd, hk.sb_eq, hk.ad_eq]; omega) ?_; (conv => cbv))
      | (refine hk.callA (by assumption) ?_; (conv => cbv))
      | (refine hk.calldA (by assumption) ?_; (conv => cbv))
      | (rw [hk.sb0]; (conv => cbv))
      | (rw [hk.ad0]; (conv => cbv))
      | exact hk.finB (by first | rfl | assumption | (simp [hk.c2_lss, hk.c2_leq, hk.c2_gtr, hk.c2_geq, hk.c2_eql, hk.c2_neq, hk.bn_eq, hk.bq_eq]; done))
      | exact hk.fin1 rfl)
    try rw [hln]
    refine hk.loopI (loop_rule (α := Int) (fun i => [(6, .ls (.il .i64 P) .any), (67, .ls (.il .i64 l) .any), (68, .int .i64 z), (69, .int .i64 i), (2, .bool false)]) (fun _ => [.tok 1])
      (fun i => 0 ≤ i ∧ i ≤ z) (fun i => (z - i).toNat) 0 ⟨by omega, by omega⟩ ?_ ?_)
    · exact Gh.tm (by repeat (first | exact Holds.nil _ _ | refine Holds.cons (Wk.refl _ _) ?_))
    intro i ⟨hi, hi2⟩ Q' hb hx hr
    (conv => cbv)
    try rw [hln]
    refine hk.brLss (fun h2 => ?_) (fun h2 => ?_)
    · obtain ⟨g1, g2, g3⟩ := hplc i hi h2
      (conv => cbv)
      rw [hln]
      refine hk.idxI hi h2 ?_
      (conv => cbv)
      rw [hlp]
      refine hk.idxI g1 g2 ?_
      (conv => cbv)
      refine hk.brNeqF g3 ?_
      (conv => cbv)
      refine hb (i + 1) _ ⟨by omega, by omega⟩ (by omega) ?_
      refine Gh.tm ?_
      repeat' (first | exact Holds.nil _ _ | refine Holds.cons (Wk.refl _ _) ?_ | refine Holds.cons (Wk.of_eq ?_) ?_)
      all_goals first
        | (rw [← hk.add64 i 1 (by omega) (by omega)]; rfl)
        | rfl
        | skip
    · refine hx _ _ ?_
      (conv => cbv)
      exact hk.fin0 rfl rfl (.refl _ _)
end Go.Proofs.Ytnnpookoencpnaa
