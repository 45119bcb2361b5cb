/-
  Contracts of functions of the program, proved over the abstract machine of the Al texts.
-/
import Derived.Test.YtnnpookoencpnaaRkI
set_option maxHeartbeats 4000000
set_option maxRecDepth 20000
set_option linter.unusedSimpArgs false
set_option linter.unusedVariables false
open Go Go.AL
namespace Go.Proofs.Ytnnpookoencpnaa
theorem refGoes_spec (l ms : List Int) (h : Heap) (hl : l.length ≤ 9223372036854775807) (hm : ms.length ≤ 9223372036854775807) : Does PP 33 [LI l, LI ms] h (Is (.bool (goesB l ms)) h) := by
  have hgood := refGood_spec l h hl
  obtain ⟨r, hr0⟩ : ∃ r, r = goesB l ms := ⟨_, rfl⟩
  have hrt : r = true ↔ GoesP l ms := by rw [hr0]; exact goesB_iff _ _
  rw [← hr0]
  obtain ⟨b, hb⟩ : ∃ b, b = orderB l := ⟨_, rfl⟩
  have hbt : b = true ↔ Order l := by rw [hb]; exact orderB_iff l
  rw [← hb] at hgood
  have hbd : b = true → ∀ i, i < l.length → 0 ≤ l.getD i 0 ∧ l.getD i 0 < l.length := fun h => (hbt.1 h).bounds
  have hhas : ∀ k n, Does PP 64 [LI (l.take k), I n] h (Is (.bool (decide (n ∈ l.take k))) h) := fun k n => has_spec _ _ _ (by rw [List.length_take]; omega)
  obtain ⟨hf, hhf⟩ : ∃ hf : Nat → Int → Bool, ∀ k n, hf k n = decide (n ∈ l.take k) := ⟨_, fun _ _ => rfl⟩
  have hhas : ∀ k n, Does PP 64 [LI (l.take k), I n] h (Is (.bool (hf k n)) h) := fun k n => by rw [hhf]; exact hhas k n
  have hrt2 : r = true ↔ b = true ∧ l.length = ms.length ∧ ∀ i, i < l.length → ms.getD (l.getD i 0).toNat 0 = -1 ∨ hf i (ms.getD (l.getD i 0).toNat 0) = true := by
    rw [hrt, GoesP, hbt]
    simp only [hhf, decide_eq_true_eq]
  clear hr0 hrt hb hbt hhf
  refine doesF P_ok Try.f33 (by kernel_rfl) (by kernel_rfl) ?_
  intro i2 c2 u1 cv mx mn ad sbt bn bq ba lnI gtI apI sbI stI rpI lnG gtG apG sbG stG rpG fi fb fs fl fg fc sln sgt sap ssb sc b2s s2b nd call calld callv callvd loop rfun fin hk
  have hnl := hk.lnI_eq l
  have hnm := hk.lnI_eq ms
  have hrn : lnI l ≠ lnI ms → r = false := fun h => by rw [Bool.eq_false_iff, ne_eq, hrt2]; rintro ⟨_, h2, _⟩; omega
  have hall : b = true → lnI l = lnI ms → (r = true ↔ ∀ j, j < (lnI l).toNat → ms.getD (l.getD j 0).toNat 0 = -1 ∨ hf j (ms.getD (l.getD j 0).toNat 0) = true) := fun h1 h3 => by
    rw [hrt2, show (lnI l).toNat = l.length by omega]
    exact ⟨fun h => h.2.2, fun h => ⟨h1, by omega, h⟩⟩
  have hbd : b = true → lnI l = lnI ms → ∀ i : Int, 0 ≤ i → i < lnI l → 0 ≤ gtI l i ∧ gtI l i < lnI ms := fun h1 h4 i h2 h3 => by
    rw [hk.gtI_eq]
    have := hbd h1 i.toNat (by omega)
    omega
  have hnn := hk.lnI_nn l
  have hmx := hk.lnI_le l 9223372036854775807 (by omega)
  have hgl := hk.gtI_eq l
  have hgm := hk.gtI_eq ms
  have hsb : ∀ i : Int, 0 ≤ i → sbI l 0 i = l.take i.toNat := fun i h => by rw [hk.sbI_eq]; simp
  have hf1 : b = false → r = false := fun h => by rw [Bool.eq_false_iff, ne_eq, hrt2, h]; simp
  clear hrt2 hnl hnm
  cbv
  refine hk.callA hgood ?_
  cases b
  · have := hf1 rfl
    subst this
    cbv
    repeat' (first
      | assumption
      | (refine hk.brLss (fun _ => ?_) (fun _ => ?_) <;> (conv => cbv))
      | (refine hk.brLeq (fun _ => ?_) (fun _ => ?_) <;> (conv => cbv))
      | (refine hk.brGtr (fun _ => ?_) (fun _ => ?_) <;> (conv => cbv))
      | (refine hk.brGeq (fun _ => ?_) (fun _ => ?_) <;> (conv => cbv))
      | (refine hk.brEql (fun _ => ?_) (fun _ => ?_) <;> (conv => cbv))
      | (refine hk.brNeq (fun _ => ?_) (fun _ => ?_) <;> (conv => cbv))
      | (refine hk.brNotT ?_; (conv => cbv))
      | (refine hk.brNotF ?_; (conv => cbv))
      | (refine hk.idxI (by first | omega | assumption) (by first | omega | assumption) ?_; (conv => cbv))
      | (refine hk.nzI (by first | omega | assumption | decide) ?_; (conv => cbv))
      | (refine hk.ge0I (by first | omega | assumption) ?_; (conv => cbv))
      | (refine hk.needI (by simp only [rNd, hk.sb_eq, hk.ad_eq]; omega) ?_; (conv => cbv))
      | (refine hk.callA (by assumption) ?_; (conv => cbv))
      | (refine hk.calldA (by assumption) ?_; (conv => cbv))
      | (rw [hk.sb0]; (conv => cbv))
      | (rw [hk.ad0]; (conv => cbv))
      | exact hk.finB (by first | rfl | assumption)
      | exact hk.fin1 rfl)
  cbv
  refine hk.brNotT ?_
  cbv
  refine hk.brNeq (fun h1 => ?_) (fun h1 => ?_)
  · have := hrn h1
    subst this
    cbv
    repeat' (first
      | assumption
      | (refine hk.brLss (fun _ => ?_) (fun _ => ?_) <;> (conv => cbv))
      | (refine hk.brLeq (fun _ => ?_) (fun _ => ?_) <;> (conv => cbv))
      | (refine hk.brGtr (fun _ => ?_) (fun _ => ?_) <;> (conv => cbv))
      | (refine hk.brGeq (fun _ => ?_) (fun _ => ?_) <;> (conv => cbv))
      | (refine hk.brEql (fun _ => ?_) (fun _ => ?_) <;> (conv => cbv))
      | (refine hk.brNeq (fun _ => ?_) (fun _ => ?_) <;> (conv => cbv))
      | (refine hk.brNotT ?_; (conv => cbv))
      | (refine hk.brNotF ?_; (conv => cbv))
      | (refine hk.idxI (by first | omega | assumption) (by first | omega | assumption) ?_; (conv => cbv))
      | (refine hk.nzI (by first | omega | assumption | decide) ?_; (conv => cbv))
      | (refine hk.ge0I (by first | omega | assumption) ?_; (conv => cbv))
      | (refine hk.needI (by simp only [rNd, hk.sb_eq, hk.ad_eq]; omega) ?_; (conv => cbv))
      | (refine hk.callA (by assumption) ?_; (conv => cbv))
      | (refine hk.calldA (by assumption) ?_; (conv => cbv))
      | (rw [hk.sb0]; (conv => cbv))
      | (rw [hk.ad0]; (conv => cbv))
      | exact hk.finB (by first | rfl | assumption)
      | exact hk.fin1 rfl)
  have hall := hall rfl h1
  have hbd := hbd rfl h1
  cbv
  refine hk.loopI (loop_rule (α := Int) (fun i => [(4, .bool false), (0, .ls (.il .i64 l) .any), (1, .ls (.il .i64 ms) .any), (18, .int .i64 (lnI l)), (19, .int .i64 i)]) (fun i => h)
      (fun i => 0 ≤ i ∧ i ≤ lnI l ∧ ∀ j, j < i.toNat → ms.getD (l.getD j 0).toNat 0 = -1 ∨ hf j (ms.getD (l.getD j 0).toNat 0) = true) (fun i => (lnI l - i).toNat) 0 ⟨by omega, by omega, upto_zero⟩ ?_ ?_)
  · exact Gh.tm (by repeat (first | exact Holds.nil _ _ | refine Holds.cons (Wk.refl _ _) ?_))
  intro i ⟨hi, hi2, hi3⟩ Q' hb hx hr
  cbv
  refine hk.brLss (fun h2 => ?_) (fun h2 => ?_)
  · have hmi := hbd i hi h2
    have hg1 := hgl i
    have hg2 := hgm (gtI l i)
    have hsi := hsb i hi
    have hcall := hhas i.toNat (gtI ms (gtI l i))
    rw [← hsi] at hcall
    obtain ⟨t, ht⟩ : ∃ t, t = hf i.toNat (gtI ms (gtI l i)) := ⟨_, rfl⟩
    rw [← ht] at hcall
    rw [hg2, hg1] at ht
    refine hk.idxI hi h2 ?_
    cbv
    refine hk.idxI hmi.1 hmi.2 ?_
    cbv
    refine hk.brNeq (fun h3 => ?_) (fun h3 => ?_)
    · rw [hg2, hg1] at h3
      cbv
      refine ⟨hk.ndI ⟨by omega, by omega, by omega⟩, ?_⟩
      refine hk.callA hcall ?_
      cases t
      · cbv
        refine hk.brNotF ?_
        cbv
        have : r = false := by
          rw [Bool.eq_false_iff, ne_eq, hall]
          intro h
          rcases h i.toNat (by omega) with h | h
          · exact h3 h
          · rw [← ht] at h; cases h
        subst this
        repeat' (first
          | assumption
          | (refine hr _ ?_; (conv => cbv))
          | (refine hk.brLss (fun _ => ?_) (fun _ => ?_) <;> (conv => cbv))
          | (refine hk.brLeq (fun _ => ?_) (fun _ => ?_) <;> (conv => cbv))
          | (refine hk.brGtr (fun _ => ?_) (fun _ => ?_) <;> (conv => cbv))
          | (refine hk.brGeq (fun _ => ?_) (fun _ => ?_) <;> (conv => cbv))
          | (refine hk.brEql (fun _ => ?_) (fun _ => ?_) <;> (conv => cbv))
          | (refine hk.brNeq (fun _ => ?_) (fun _ => ?_) <;> (conv => cbv))
          | (refine hk.brNotT ?_; (conv => cbv))
          | (refine hk.brNotF ?_; (conv => cbv))
          | (refine hk.idxI (by first | omega | assumption) (by first | omega | assumption) ?_; (conv => cbv))
          | (refine hk.nzI (by first | omega | assumption | decide) ?_; (conv => cbv))
          | (refine hk.ge0I (by first | omega | assumption) ?_; (conv => cbv))
          | (refine hk.needI (by simp only [rNd, hk.sb_eq, hk.ad_eq]; omega) ?_; (conv => cbv))
          | (refine hk.callA (by assumption) ?_; (conv => cbv))
          | (refine hk.calldA (by assumption) ?_; (conv => cbv))
          | (rw [hk.sb0]; (conv => cbv))
          | (rw [hk.ad0]; (conv => cbv))
          | exact hk.finB (by first | rfl | assumption)
          | exact hk.fin1 rfl)
      · cbv
        refine hk.brNotT ?_
        cbv
        refine hb (i + 1) _ ⟨by omega, by omega, upto_step hi hi3 (.inr ht.symm)⟩ (by omega) ?_
        refine Gh.tm ?_
        repeat' (first | exact Holds.nil _ _ | refine Holds.cons (Wk.refl _ _) ?_ | refine Holds.cons (Wk.of_eq ?_) ?_)
        all_goals first
          | (rw [← hk.add64 i 1 (by omega) (by omega)]; rfl)
          | rfl
          | skip
    · rw [hg2, hg1] at h3
      cbv
      refine hb (i + 1) _ ⟨by omega, by omega, upto_step hi hi3 (.inl h3)⟩ (by omega) ?_
      refine Gh.tm ?_
      repeat' (first | exact Holds.nil _ _ | refine Holds.cons (Wk.refl _ _) ?_ | refine Holds.cons (Wk.of_eq ?_) ?_)
      all_goals first
        | (rw [← hk.add64 i 1 (by omega) (by omega)]; rfl)
        | rfl
        | skip
  · have : i = lnI l := by omega
    subst this
    have : r = true := hall.2 hi3
    subst this
    cbv
    repeat' (first
      | assumption
      | (refine hx _ _ ?_; (conv => cbv))
      | (refine hk.brLss (fun _ => ?_) (fun _ => ?_) <;> (conv => cbv))
      | (refine hk.brLeq (fun _ => ?_) (fun _ => ?_) <;> (conv => cbv))
      | (refine hk.brGtr (fun _ => ?_) (fun _ => ?_) <;> (conv => cbv))
      | (refine hk.brGeq (fun _ => ?_) (fun _ => ?_) <;> (conv => cbv))
      | (refine hk.brEql (fun _ => ?_) (fun _ => ?_) <;> (conv => cbv))
      | (refine hk.brNeq (fun _ => ?_) (fun _ => ?_) <;> (conv => cbv))
      | (refine hk.brNotT ?_; (conv => cbv))
      | (refine hk.brNotF ?_; (conv => cbv))
      | (refine hk.idxI (by first | omega | assumption) (by first | omega | assumption) ?_; (conv => cbv))
      | (refine hk.nzI (by first | omega | assumption | decide) ?_; (conv => cbv))
      | (refine hk.ge0I (by first | omega | assumption) ?_; (conv => cbv))
      | (refine hk.needI (by simp only [rNd, hk.sb_eq, hk.ad_eq]; omega) ?_; (conv => cbv))
      | (refine hk.callA (by assumption) ?_; (conv => cbv))
      | (refine hk.calldA (by assumption) ?_; (conv => cbv))
      | (rw [hk.sb0]; (conv => cbv))
      | (rw [hk.ad0]; (conv => cbv))
      | exact hk.finB (by first | rfl | assumption)
      | exact hk.fin1 rfl)
theorem goes_law (l : List Int) (hl : l.length ≤ 9223372036854775807) (ms : List Int) (hm : ms.length ≤ 9223372036854775807) : Does PP 9 [LI l, LI ms] [] (Is (.bool true) []) := by
  have h1 := goes_spec l ms [] hl hm
  have h2 := refGoes_spec l ms [] hl hm
  have h3 := awake12 []
  obtain ⟨r, hr0⟩ : ∃ r, r = goesB l ms := ⟨_, rfl⟩
  rw [← hr0] at h1 h2
  refine doesF P_ok Try.f9 (by kernel_rfl) (by kernel_rfl) ?_
  intro i2 c2 u1 cv mx mn ad sbt bn bq ba lnI gtI apI sbI stI rpI lnG gtG apG sbG stG rpG fi fb fs fl fg fc sln sgt sap ssb sc b2s s2b nd call calld callv callvd loop rfun fin hk
  have hqq : bq r r = true := by rw [hk.bq_eq]; simp
  cbv
  repeat' (first
    | assumption
    | (refine hk.brLss (fun _ => ?_) (fun _ => ?_) <;> (conv => cbv))
    | (refine hk.brLeq (fun _ => ?_) (fun _ => ?_) <;> (conv => cbv))
    | (refine hk.brGtr (fun _ => ?_) (fun _ => ?_) <;> (conv => cbv))
    | (refine hk.brGeq (fun _ => ?_) (fun _ => ?_) <;> (conv => cbv))
    | (refine hk.brEql (fun _ => ?_) (fun _ => ?_) <;> (conv => cbv))
    | (refine hk.brNeq (fun _ => ?_) (fun _ => ?_) <;> (conv => cbv))
    | (refine hk.brNotT ?_; (conv => cbv))
    | (refine hk.brNotF ?_; (conv => cbv))
    | (refine hk.idxI (by first | omega | assumption) (by first | omega | assumption) ?_; (conv => cbv))
    | (refine hk.nzI (by first | omega | assumption | decide) ?_; (conv => cbv))
    | (refine hk.ge0I (by first | omega | assumption) ?_; (conv => cbv))
    | (refine hk.needI (by simp only [rNd, hk.sb_eq, hk.ad_eq]; omega) ?_; (conv => cbv))
    | (refine hk.callA (by assumption) ?_; (conv => cbv))
    | (refine hk.calldA (by assumption) ?_; (conv => cbv))
    | (rw [hk.sb0]; (conv => cbv))
    | (rw [hk.ad0]; (conv => cbv))
    | exact hk.finB (by first | rfl | assumption)
    | exact hk.fin1 rfl)
end Go.Proofs.Ytnnpookoencpnaa
