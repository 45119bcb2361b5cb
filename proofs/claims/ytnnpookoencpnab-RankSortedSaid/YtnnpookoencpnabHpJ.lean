/-
  Contracts of functions of the program, proved over the abstract machine of the Al texts.
-/
import Derived.Test.YtnnpookoencpnabTryTab
import Derived.Test.YtnnpookoencpnabAl4
import Derived.Test.YtnnpookoencpnabBase
import Derived.Test.YtnnpookoencpnabRkX
import Derived.Test.YtnnpookoencpnabRkY
import Derived.Test.YtnnpookoencpnabHpY
import Derived.Test.YtnnpookoencpnabHpZ
set_option maxHeartbeats 4000000
set_option maxRecDepth 20000
set_option linter.unusedSimpArgs false
set_option linter.unusedVariables false
open Go Go.AL
namespace Go.Proofs.Ytnnpookoencpnab
theorem rsorted_spec (ms : List Int) (h : Heap) (hl : ms.length ≤ 9223372036854775807) : Does PP 6 [LI ms] h (Is (.tup [LI ((srtO ms).getD []), .bool (srtO ms).isSome]) h) := by
  refine pure0 ?_ rfl rfl h
  by_cases hr : rightB ms = true
  · rw [srtO, if_pos hr]
    exact rsorted_ok ms ((rightB_iff ms).1 hr)
  · rw [srtO, if_neg hr]
    exact rsorted_bad ms hl (fun h => hr ((rightB_iff ms).2 h))
theorem srtO_some {ms l : List Int} (h : srtO ms = some l) : Right ms ∧ srt ms ms.length ms.length [] = some l := by
  unfold srtO at h
  split at h
  · rename_i hr; exact ⟨(rightB_iff ms).1 hr, h⟩
  · cases h
theorem srtO_none {ms o : List Int} (h : srtO ms = none) : goesB o ms = false := by
  cases hg : goesB o ms with
  | false => rfl
  | true =>
    have hg := (goesB_iff o ms).1 hg
    unfold srtO at h
    rw [if_pos ((rightB_iff ms).2 ((goes_alt o ms).1 hg).2.2.1)] at h
    exact absurd h (srt_total hg _ _ (by simp))
theorem sorted_law (ms : List Int) (hl : ms.length ≤ 9223372036854775807) (o : List Int) (ho : o.length ≤ 9223372036854775807) : Does PP 3 [LI ms, LI o] [] (Is (.bool true) []) := by
  have haw := awake12
  have hso := fun h => psorted_spec ms h hl
  have hrs := fun h => rsorted_spec ms h hl
  have hgo := fun h => refGoes_spec o ms h ho hl
  obtain ⟨go, hgo0⟩ : ∃ b, b = goesB o ms := ⟨_, rfl⟩
  simp only [← hgo0] at hgo
  obtain ⟨m, hm⟩ : ∃ n : Int, n = (ms.length : Nat) := ⟨_, rfl⟩
  obtain ⟨n, hn⟩ : ∃ n : Int, n = (o.length : Nat) := ⟨_, rfl⟩
  cases hS : srtO ms with
  | none =>
    have hng := srtO_none (o := o) hS
    rw [← hgo0] at hng
    subst hng
    simp only [hS, Option.getD, Option.isSome] at hso hrs
    have hsm := fun h => same_spec [] [] h (by decide) (by decide)
    rw [decide_eq_true rfl] at hsm
    clear hgo0 hS
    refine doesF P_ok Try.f3 (by kernel_rfl) (by kernel_rfl) ?_
    intro i2 c2 u1 cv mx mn ad sbt bn bq ba lnI gtI apI sbI stI rpI lnG gtG apG sbG stG rpG fi fb fs fl fg fc sln sgt sap ssb sc b2s s2b nd call calld callv callvd loop rfun fin hk
    have hlm : lnI ms = m := by rw [hk.lnI_eq]; omega
    have hlo : lnI o = n := by rw [hk.lnI_eq]; omega
    (conv => cbv)
    repeat' (first
      | assumption
      | (rw [hlm]; (conv => cbv))
      | (rw [hlo]; (conv => cbv))
      | (refine hk.callA (haw _) ?_; (conv => cbv))
      | (refine hk.calldA haw ?_; (conv => cbv))
      | (refine hk.callA (hso _) ?_; (conv => cbv))
      | (refine hk.calldA hso ?_; (conv => cbv))
      | (refine hk.callA (hrs _) ?_; (conv => cbv))
      | (refine hk.calldA hrs ?_; (conv => cbv))
      | (refine hk.callA (hsm _) ?_; (conv => cbv))
      | (refine hk.calldA hsm ?_; (conv => cbv))
      | (refine hk.callA (hgo _) ?_; (conv => cbv))
      | (refine hk.calldA hgo ?_; (conv => cbv))
      | (refine hk.brLssT (by omega) ?_; (conv => cbv))
      | (refine hk.brLssF (by omega) ?_; (conv => cbv))
      | (refine hk.brLeqT (by omega) ?_; (conv => cbv))
      | (refine hk.brLeqF (by omega) ?_; (conv => cbv))
      | (refine hk.brGtrT (by omega) ?_; (conv => cbv))
      | (refine hk.brGtrF (by omega) ?_; (conv => cbv))
      | (refine hk.brGeqT (by omega) ?_; (conv => cbv))
      | (refine hk.brGeqF (by omega) ?_; (conv => cbv))
      | (refine hk.brEqlT (by omega) ?_; (conv => cbv))
      | (refine hk.brEqlF (by omega) ?_; (conv => cbv))
      | (refine hk.brNeqT (by omega) ?_; (conv => cbv))
      | (refine hk.brNeqF (by omega) ?_; (conv => cbv))
      | (refine hk.brLss (fun _ => ?_) (fun _ => ?_) <;> (conv => cbv))
      | (refine hk.brLeq (fun _ => ?_) (fun _ => ?_) <;> (conv => cbv))
      | (refine hk.brGtr (fun _ => ?_) (fun _ => ?_) <;> (conv => cbv))
      | (refine hk.brGeq (fun _ => ?_) (fun _ => ?_) <;> (conv => cbv))
      | (refine hk.brEql (fun _ => ?_) (fun _ => ?_) <;> (conv => cbv))
      | (refine hk.brNeq (fun _ => ?_) (fun _ => ?_) <;> (conv => cbv))
      | (refine hk.brNotT ?_; (conv => cbv))
      | (refine hk.brNotF ?_; (conv => cbv))
      | (refine hk.brNotS _ (by simp [hk.c2_lss, hk.c2_leq, hk.c2_gtr, hk.c2_geq, hk.c2_eql, hk.c2_neq, hk.bn_eq, hk.bq_eq]; rfl) ?_; (conv => cbv))
      | (refine hk.brBqS _ (by simp [hk.c2_lss, hk.c2_leq, hk.c2_gtr, hk.c2_geq, hk.c2_eql, hk.c2_neq, hk.bn_eq, hk.bq_eq]; rfl) ?_; (conv => cbv))
      | (refine hk.idxI (by first | omega | assumption) (by first | omega | assumption) ?_; (conv => cbv))
      | (refine hk.nzI (by first | omega | assumption | decide) ?_; (conv => cbv))
      | (refine hk.ge0I (by first | omega | assumption) ?_; (conv => cbv))
      | (refine hk.needI (by first | (simp only [rNd, hk.sb_eq, hk.ad_eq]; omega) | (simp [rNd, hk.sb_eq, hk.ad_eq]; omega)) ?_; (conv => cbv))
      | (refine hk.callA (by assumption) ?_; (conv => cbv))
      | (refine hk.calldA (by assumption) ?_; (conv => cbv))
      | (rw [hk.sb0]; (conv => cbv))
      | (rw [hk.ad0]; (conv => cbv))
      | exact hk.finB (by first | rfl | (simp [hk.c2_lss, hk.c2_leq, hk.c2_gtr, hk.c2_geq, hk.c2_eql, hk.c2_neq, hk.bn_eq, hk.bq_eq]; done) | assumption)
      | exact hk.fin1 rfl)
    all_goals skip
  | some l =>
    obtain ⟨hR, hS1⟩ := srtO_some hS
    have hgl := srt_goes hR hS1
    obtain ⟨hol, hll, _⟩ := hgl
    have hgl := srt_goes hR hS1
    have hpg := fun h => goes_spec l ms h (by have := hol.2.1; omega) hl
    rw [(goesB_iff l ms).2 hgl] at hpg
    simp only [hS, Option.getD, Option.isSome] at hso hrs
    have hsm := fun h => same_spec l l h (by have := hol.2.1; omega) (by have := hol.2.1; omega)
    rw [decide_eq_true rfl] at hsm
    have hml : ms.length ≤ 8 := hR.2.1
    have hfst : go = true → n = m ∧ ∀ i : Nat, i < l.length → (∀ j, j < i → o.getD j 0 = l.getD j 0) → l.getD i 0 ≤ o.getD i 0 := fun e => by
      have hg := (goesB_iff o ms).1 (by rw [← hgo0]; exact e)
      exact ⟨by have := hg.2.1; omega, fun i hi he => srt_first hg hS1 i hi he⟩
    clear hgo0 hS hS1 hgl
    refine doesF P_ok Try.f3 (by kernel_rfl) (by kernel_rfl) ?_
    intro i2 c2 u1 cv mx mn ad sbt bn bq ba lnI gtI apI sbI stI rpI lnG gtG apG sbG stG rpG fi fb fs fl fg fc sln sgt sap ssb sc b2s s2b nd call calld callv callvd loop rfun fin hk
    have hlm : lnI ms = m := by rw [hk.lnI_eq]; omega
    have hlo : lnI o = n := by rw [hk.lnI_eq]; omega
    have hll2 : lnI l = m := by rw [hk.lnI_eq]; omega
    have hgt := hk.gtI_eq
    (conv => cbv)
    repeat' (first
      | assumption
      | (rw [hlm]; (conv => cbv))
      | (rw [hlo]; (conv => cbv))
      | (rw [hll2]; (conv => cbv))
      | (refine hk.callA (haw _) ?_; (conv => cbv))
      | (refine hk.calldA haw ?_; (conv => cbv))
      | (refine hk.callA (hso _) ?_; (conv => cbv))
      | (refine hk.calldA hso ?_; (conv => cbv))
      | (refine hk.callA (hrs _) ?_; (conv => cbv))
      | (refine hk.calldA hrs ?_; (conv => cbv))
      | (refine hk.callA (hsm _) ?_; (conv => cbv))
      | (refine hk.calldA hsm ?_; (conv => cbv))
      | (refine hk.callA (hgo _) ?_; (conv => cbv))
      | (refine hk.calldA hgo ?_; (conv => cbv))
      | (refine hk.callA (hpg _) ?_; (conv => cbv))
      | (refine hk.calldA hpg ?_; (conv => cbv))
      | (refine hk.brLssT (by omega) ?_; (conv => cbv))
      | (refine hk.brLssF (by omega) ?_; (conv => cbv))
      | (refine hk.brLeqT (by omega) ?_; (conv => cbv))
      | (refine hk.brLeqF (by omega) ?_; (conv => cbv))
      | (refine hk.brGtrT (by omega) ?_; (conv => cbv))
      | (refine hk.brGtrF (by omega) ?_; (conv => cbv))
      | (refine hk.brGeqT (by omega) ?_; (conv => cbv))
      | (refine hk.brGeqF (by omega) ?_; (conv => cbv))
      | (refine hk.brEqlT (by omega) ?_; (conv => cbv))
      | (refine hk.brEqlF (by omega) ?_; (conv => cbv))
      | (refine hk.brNeqT (by omega) ?_; (conv => cbv))
      | (refine hk.brNeqF (by omega) ?_; (conv => cbv))
      | (refine hk.brLss (fun _ => ?_) (fun _ => ?_) <;> (conv => cbv))
      | (refine hk.brLeq (fun _ => ?_) (fun _ => ?_) <;> (conv => cbv))
      | (refine hk.brGtr (fun _ => ?_) (fun _ => ?_) <;> (conv => cbv))
      | (refine hk.brGeq (fun _ => ?_) (fun _ => ?_) <;> (conv => cbv))
      | (refine hk.brEql (fun _ => ?_) (fun _ => ?_) <;> (conv => cbv))
      | (refine hk.brNeq (fun _ => ?_) (fun _ => ?_) <;> (conv => cbv))
      | (refine hk.brNotT ?_; (conv => cbv))
      | (refine hk.brNotF ?_; (conv => cbv))
      | (refine hk.brNotS _ (by simp [hk.c2_lss, hk.c2_leq, hk.c2_gtr, hk.c2_geq, hk.c2_eql, hk.c2_neq, hk.bn_eq, hk.bq_eq]; rfl) ?_; (conv => cbv))
      | (refine hk.brBqS _ (by simp [hk.c2_lss, hk.c2_leq, hk.c2_gtr, hk.c2_geq, hk.c2_eql, hk.c2_neq, hk.bn_eq, hk.bq_eq]; rfl) ?_; (conv => cbv))
      | (refine hk.idxI (by first | omega | assumption) (by first | omega | assumption) ?_; (conv => cbv))
      | (refine hk.nzI (by first | omega | assumption | decide) ?_; (conv => cbv))
      | (refine hk.ge0I (by first | omega | assumption) ?_; (conv => cbv))
      | (refine hk.needI (by first | (simp only [rNd, hk.sb_eq, hk.ad_eq]; omega) | (simp [rNd, hk.sb_eq, hk.ad_eq]; omega)) ?_; (conv => cbv))
      | (refine hk.callA (by assumption) ?_; (conv => cbv))
      | (refine hk.calldA (by assumption) ?_; (conv => cbv))
      | (rw [hk.sb0]; (conv => cbv))
      | (rw [hk.ad0]; (conv => cbv))
      | exact hk.finB (by first | rfl | (simp [hk.c2_lss, hk.c2_leq, hk.c2_gtr, hk.c2_geq, hk.c2_eql, hk.c2_neq, hk.bn_eq, hk.bq_eq]; done) | assumption)
      | exact hk.fin1 rfl)
    refine hk.loopI (loop_rule (α := Int) (fun i => [(1, .ls (.il .i64 o) .any), (4, .bool false), (5, .ls (.il .i64 l) .any), (9, .bool go), (64, .int .i64 m), (65, .int .i64 i)]) (fun _ => [])
      (fun i => 0 ≤ i ∧ i ≤ m ∧ ∀ j, j < i.toNat → o.getD j 0 = l.getD j 0) (fun i => (m - i).toNat) 0 ⟨by omega, by omega, upto_zero⟩ ?_ ?_)
    · exact Gh.tm (by repeat (first | exact Holds.nil _ _ | refine Holds.cons (Wk.refl _ _) ?_))
    intro i ⟨hi, hi2, hi3⟩ Q' hb hx hr
    by_cases him : i < m
    · obtain ⟨x, hx0⟩ : ∃ x, x = gtI o i := ⟨_, rfl⟩
      obtain ⟨y, hy0⟩ : ∃ x, x = gtI l i := ⟨_, rfl⟩
      have hxm := hx0
      have hym := hy0
      rw [hgt] at hxm hym
      cases go
      · (conv => cbv)
        repeat' (first
          | assumption
          | (rw [hlo]; (conv => cbv))
          | (rw [hll2]; (conv => cbv))
          | (refine hk.idxI hi him ?_; (conv => cbv))
          | (rw [← hx0]; (conv => cbv))
          | (rw [← hy0]; (conv => cbv))
          | (refine hr _ ?_; (conv => cbv))
          | (refine hk.brLssT (by omega) ?_; (conv => cbv))
          | (refine hk.brLssF (by omega) ?_; (conv => cbv))
          | (refine hk.brLeqT (by omega) ?_; (conv => cbv))
          | (refine hk.brLeqF (by omega) ?_; (conv => cbv))
          | (refine hk.brGtrT (by omega) ?_; (conv => cbv))
          | (refine hk.brGtrF (by omega) ?_; (conv => cbv))
          | (refine hk.brGeqT (by omega) ?_; (conv => cbv))
          | (refine hk.brGeqF (by omega) ?_; (conv => cbv))
          | (refine hk.brEqlT (by omega) ?_; (conv => cbv))
          | (refine hk.brEqlF (by omega) ?_; (conv => cbv))
          | (refine hk.brNeqT (by omega) ?_; (conv => cbv))
          | (refine hk.brNeqF (by omega) ?_; (conv => cbv))
          | (refine hk.brLss (fun _ => ?_) (fun _ => ?_) <;> (conv => cbv))
          | (refine hk.brLeq (fun _ => ?_) (fun _ => ?_) <;> (conv => cbv))
          | (refine hk.brGtr (fun _ => ?_) (fun _ => ?_) <;> (conv => cbv))
          | (refine hk.brGeq (fun _ => ?_) (fun _ => ?_) <;> (conv => cbv))
          | (refine hk.brEql (fun _ => ?_) (fun _ => ?_) <;> (conv => cbv))
          | (refine hk.brNeq (fun _ => ?_) (fun _ => ?_) <;> (conv => cbv))
          | (refine hk.brNotT ?_; (conv => cbv))
          | (refine hk.brNotF ?_; (conv => cbv))
          | (refine hk.brNotS _ (by simp [hk.c2_lss, hk.c2_leq, hk.c2_gtr, hk.c2_geq, hk.c2_eql, hk.c2_neq, hk.bn_eq, hk.bq_eq]; rfl) ?_; (conv => cbv))
          | (refine hk.brBqS _ (by simp [hk.c2_lss, hk.c2_leq, hk.c2_gtr, hk.c2_geq, hk.c2_eql, hk.c2_neq, hk.bn_eq, hk.bq_eq]; rfl) ?_; (conv => cbv))
          | (refine hk.idxI (by first | omega | assumption) (by first | omega | assumption) ?_; (conv => cbv))
          | (refine hk.nzI (by first | omega | assumption | decide) ?_; (conv => cbv))
          | (refine hk.ge0I (by first | omega | assumption) ?_; (conv => cbv))
          | (refine hk.needI (by first | (simp only [rNd, hk.sb_eq, hk.ad_eq]; omega) | (simp [rNd, hk.sb_eq, hk.ad_eq]; omega)) ?_; (conv => cbv))
          | (refine hk.callA (by assumption) ?_; (conv => cbv))
          | (refine hk.calldA (by assumption) ?_; (conv => cbv))
          | (rw [hk.sb0]; (conv => cbv))
          | (rw [hk.ad0]; (conv => cbv))
          | exact hk.finB (by first | rfl | (simp [hk.c2_lss, hk.c2_leq, hk.c2_gtr, hk.c2_geq, hk.c2_eql, hk.c2_neq, hk.bn_eq, hk.bq_eq]; done) | assumption)
          | exact hk.fin1 rfl)
        all_goals exact hk.fin0 rfl rfl (Wk.refl _ _)
      · obtain ⟨hnm, hfst⟩ := hfst rfl
        have hle := hfst i.toNat (by omega) hi3
        rw [← hxm, ← hym] at hle
        by_cases hxy : x = y
        · subst hxy
          (conv => cbv)
          repeat' (first
            | assumption
            | (rw [hlo]; (conv => cbv))
            | (rw [hll2]; (conv => cbv))
            | (refine hk.idxI hi him ?_; (conv => cbv))
            | (refine hk.idxI hi (by omega) ?_; (conv => cbv))
            | (rw [← hx0]; (conv => cbv))
            | (rw [← hy0]; (conv => cbv))
            | (refine hk.brLssT (by omega) ?_; (conv => cbv))
            | (refine hk.brLssF (by omega) ?_; (conv => cbv))
            | (refine hk.brLeqT (by omega) ?_; (conv => cbv))
            | (refine hk.brLeqF (by omega) ?_; (conv => cbv))
            | (refine hk.brGtrT (by omega) ?_; (conv => cbv))
            | (refine hk.brGtrF (by omega) ?_; (conv => cbv))
            | (refine hk.brGeqT (by omega) ?_; (conv => cbv))
            | (refine hk.brGeqF (by omega) ?_; (conv => cbv))
            | (refine hk.brEqlT (by omega) ?_; (conv => cbv))
            | (refine hk.brEqlF (by omega) ?_; (conv => cbv))
            | (refine hk.brNeqT (by omega) ?_; (conv => cbv))
            | (refine hk.brNeqF (by omega) ?_; (conv => cbv))
            | (refine hk.brLss (fun _ => ?_) (fun _ => ?_) <;> (conv => cbv))
            | (refine hk.brLeq (fun _ => ?_) (fun _ => ?_) <;> (conv => cbv))
            | (refine hk.brGtr (fun _ => ?_) (fun _ => ?_) <;> (conv => cbv))
            | (refine hk.brGeq (fun _ => ?_) (fun _ => ?_) <;> (conv => cbv))
            | (refine hk.brEql (fun _ => ?_) (fun _ => ?_) <;> (conv => cbv))
            | (refine hk.brNeq (fun _ => ?_) (fun _ => ?_) <;> (conv => cbv))
            | (refine hk.brNotT ?_; (conv => cbv))
            | (refine hk.brNotF ?_; (conv => cbv))
            | (refine hk.brNotS _ (by simp [hk.c2_lss, hk.c2_leq, hk.c2_gtr, hk.c2_geq, hk.c2_eql, hk.c2_neq, hk.bn_eq, hk.bq_eq]; rfl) ?_; (conv => cbv))
            | (refine hk.brBqS _ (by simp [hk.c2_lss, hk.c2_leq, hk.c2_gtr, hk.c2_geq, hk.c2_eql, hk.c2_neq, hk.bn_eq, hk.bq_eq]; rfl) ?_; (conv => cbv))
            | (refine hk.idxI (by first | omega | assumption) (by first | omega | assumption) ?_; (conv => cbv))
            | (refine hk.nzI (by first | omega | assumption | decide) ?_; (conv => cbv))
            | (refine hk.ge0I (by first | omega | assumption) ?_; (conv => cbv))
            | (refine hk.needI (by first | (simp only [rNd, hk.sb_eq, hk.ad_eq]; omega) | (simp [rNd, hk.sb_eq, hk.ad_eq]; omega)) ?_; (conv => cbv))
            | (refine hk.callA (by assumption) ?_; (conv => cbv))
            | (refine hk.calldA (by assumption) ?_; (conv => cbv))
            | (rw [hk.sb0]; (conv => cbv))
            | (rw [hk.ad0]; (conv => cbv))
            | exact hk.finB (by first | rfl | (simp [hk.c2_lss, hk.c2_leq, hk.c2_gtr, hk.c2_geq, hk.c2_eql, hk.c2_neq, hk.bn_eq, hk.bq_eq]; done) | assumption)
            | exact hk.fin1 rfl)
          refine hb (i + 1) _ ⟨by omega, by omega, upto_step hi hi3 (by rw [← hxm, ← hym])⟩ (by omega) ?_
          refine Gh.tm ?_
          repeat' (first | exact Holds.nil _ _ | refine Holds.cons (Wk.refl _ _) ?_ | refine Holds.cons (Wk.of_eq ?_) ?_)
          all_goals first
            | (rw [← hk.add64 i 1 (by omega) (by omega)]; rfl)
            | rfl
            | skip
        · have hlt : x > y := by omega
          (conv => cbv)
          repeat' (first
            | assumption
            | (rw [hlo]; (conv => cbv))
            | (rw [hll2]; (conv => cbv))
            | (refine hk.idxI hi him ?_; (conv => cbv))
            | (refine hk.idxI hi (by omega) ?_; (conv => cbv))
            | (rw [← hx0]; (conv => cbv))
            | (rw [← hy0]; (conv => cbv))
            | (refine hr _ ?_; (conv => cbv))
            | (refine hk.brLssT (by omega) ?_; (conv => cbv))
            | (refine hk.brLssF (by omega) ?_; (conv => cbv))
            | (refine hk.brLeqT (by omega) ?_; (conv => cbv))
            | (refine hk.brLeqF (by omega) ?_; (conv => cbv))
            | (refine hk.brGtrT (by omega) ?_; (conv => cbv))
            | (refine hk.brGtrF (by omega) ?_; (conv => cbv))
            | (refine hk.brGeqT (by omega) ?_; (conv => cbv))
            | (refine hk.brGeqF (by omega) ?_; (conv => cbv))
            | (refine hk.brEqlT (by omega) ?_; (conv => cbv))
            | (refine hk.brEqlF (by omega) ?_; (conv => cbv))
            | (refine hk.brNeqT (by omega) ?_; (conv => cbv))
            | (refine hk.brNeqF (by omega) ?_; (conv => cbv))
            | (refine hk.brLss (fun _ => ?_) (fun _ => ?_) <;> (conv => cbv))
            | (refine hk.brLeq (fun _ => ?_) (fun _ => ?_) <;> (conv => cbv))
            | (refine hk.brGtr (fun _ => ?_) (fun _ => ?_) <;> (conv => cbv))
            | (refine hk.brGeq (fun _ => ?_) (fun _ => ?_) <;> (conv => cbv))
            | (refine hk.brEql (fun _ => ?_) (fun _ => ?_) <;> (conv => cbv))
            | (refine hk.brNeq (fun _ => ?_) (fun _ => ?_) <;> (conv => cbv))
            | (refine hk.brNotT ?_; (conv => cbv))
            | (refine hk.brNotF ?_; (conv => cbv))
            | (refine hk.brNotS _ (by simp [hk.c2_lss, hk.c2_leq, hk.c2_gtr, hk.c2_geq, hk.c2_eql, hk.c2_neq, hk.bn_eq, hk.bq_eq]; rfl) ?_; (conv => cbv))
            | (refine hk.brBqS _ (by simp [hk.c2_lss, hk.c2_leq, hk.c2_gtr, hk.c2_geq, hk.c2_eql, hk.c2_neq, hk.bn_eq, hk.bq_eq]; rfl) ?_; (conv => cbv))
            | (refine hk.idxI (by first | omega | assumption) (by first | omega | assumption) ?_; (conv => cbv))
            | (refine hk.nzI (by first | omega | assumption | decide) ?_; (conv => cbv))
            | (refine hk.ge0I (by first | omega | assumption) ?_; (conv => cbv))
            | (refine hk.needI (by first | (simp only [rNd, hk.sb_eq, hk.ad_eq]; omega) | (simp [rNd, hk.sb_eq, hk.ad_eq]; omega)) ?_; (conv => cbv))
            | (refine hk.callA (by assumption) ?_; (conv => cbv))
            | (refine hk.calldA (by assumption) ?_; (conv => cbv))
            | (rw [hk.sb0]; (conv => cbv))
            | (rw [hk.ad0]; (conv => cbv))
            | exact hk.finB (by first | rfl | (simp [hk.c2_lss, hk.c2_leq, hk.c2_gtr, hk.c2_geq, hk.c2_eql, hk.c2_neq, hk.bn_eq, hk.bq_eq]; done) | assumption)
            | exact hk.fin1 rfl)
          all_goals first
            | exact hk.fin0 rfl rfl (Wk.of_eq (by rw [hk.c2_gtr, decide_eq_true hlt]))
            | skip
    · (conv => cbv)
      repeat' (first
        | assumption
        | (refine hx _ _ ?_; (conv => cbv))
        | (refine hk.brLssT (by omega) ?_; (conv => cbv))
        | (refine hk.brLssF (by omega) ?_; (conv => cbv))
        | (refine hk.brLeqT (by omega) ?_; (conv => cbv))
        | (refine hk.brLeqF (by omega) ?_; (conv => cbv))
        | (refine hk.brGtrT (by omega) ?_; (conv => cbv))
        | (refine hk.brGtrF (by omega) ?_; (conv => cbv))
        | (refine hk.brGeqT (by omega) ?_; (conv => cbv))
        | (refine hk.brGeqF (by omega) ?_; (conv => cbv))
        | (refine hk.brEqlT (by omega) ?_; (conv => cbv))
        | (refine hk.brEqlF (by omega) ?_; (conv => cbv))
        | (refine hk.brNeqT (by omega) ?_; (conv => cbv))
        | (refine hk.brNeqF (by omega) ?_; (conv => cbv))
        | (refine hk.brLss (fun _ => ?_) (fun _ => ?_) <;> (conv => cbv))
        | (refine hk.brLeq (fun _ => ?_) (fun _ => ?_) <;> (conv => cbv))
        | (refine hk.brGtr (fun _ => ?_) (fun _ => ?_) <;> (conv => cbv))
        | (refine hk.brGeq (fun _ => ?_) (fun _ => ?_) <;> (conv => cbv))
        | (refine hk.brEql (fun _ => ?_) (fun _ => ?_) <;> (conv => cbv))
        | (refine hk.brNeq (fun _ => ?_) (fun _ => ?_) <;> (conv => cbv))
        | (refine hk.brNotT ?_; (conv => cbv))
        | (refine hk.brNotF ?_; (conv => cbv))
        | (refine hk.brNotS _ (by simp [hk.c2_lss, hk.c2_leq, hk.c2_gtr, hk.c2_geq, hk.c2_eql, hk.c2_neq, hk.bn_eq, hk.bq_eq]; rfl) ?_; (conv => cbv))
        | (refine hk.brBqS _ (by simp [hk.c2_lss, hk.c2_leq, hk.c2_gtr, hk.c2_geq, hk.c2_eql, hk.c2_neq, hk.bn_eq, hk.bq_eq]; rfl) ?_; (conv => cbv))
        | (refine hk.idxI (by first | omega | assumption) (by first | omega | assumption) ?_; (conv => cbv))
        | (refine hk.nzI (by first | omega | assumption | decide) ?_; (conv => cbv))
        | (refine hk.ge0I (by first | omega | assumption) ?_; (conv => cbv))
        | (refine hk.needI (by first | (simp only [rNd, hk.sb_eq, hk.ad_eq]; omega) | (simp [rNd, hk.sb_eq, hk.ad_eq]; omega)) ?_; (conv => cbv))
        | (refine hk.callA (by assumption) ?_; (conv => cbv))
        | (refine hk.calldA (by assumption) ?_; (conv => cbv))
        | (rw [hk.sb0]; (conv => cbv))
        | (rw [hk.ad0]; (conv => cbv))
        | exact hk.finB (by first | rfl | (simp [hk.c2_lss, hk.c2_leq, hk.c2_gtr, hk.c2_geq, hk.c2_eql, hk.c2_neq, hk.bn_eq, hk.bq_eq]; done) | assumption)
        | exact hk.fin1 rfl)
      all_goals exact hk.fin0 rfl rfl (Wk.refl _ _)
end Go.Proofs.Ytnnpookoencpnab
