/- The document's spans of quiet neighbours. -/
import Derived.Test.YtnkaagbepppodaaMeterQx
set_option linter.unusedSimpArgs false
set_option linter.unusedVariables false
set_option maxHeartbeats 4000000
open Go Go.AL
namespace Go.Proofs.Ytnkaagbepppodaa
def flat : List (Int × Int) → List Int
  | [] => []
  | (a, b) :: r => a :: b :: flat r
theorem flat_len : ∀ x, (flat x).length = 2 * x.length
  | [] => rfl
  | (a, b) :: r => by simp [flat, flat_len r]; omega
theorem evs_len (l : List Int) (most least : Int) : ∀ n fr i, (evs l most least n fr i).length ≤ n
  | 0, _, _ => by simp [evs]
  | n + 1, fr, i => by
    simp only [evs]
    split
    · have := evs_len l most least n fr (i + 1); omega
    · split
      · have := evs_len l most least n (i + 1) (i + 1); simp; omega
      · have := evs_len l most least n (i + 1) (i + 1); omega
def spans (l : List Int) (most least : Int) : List (Int × Int) := evsAt l most least 0 0
theorem spans_len (l : List Int) (most least : Int) : (spans l most least).length ≤ l.length + 1 := by
  have := evs_len l most least ((l.length : Int) + 1 - 0).toNat 0 0
  simp only [spans, evsAt]; omega
theorem q22 (l : List Int) (most least : Int) (hl : l.length ≤ 200) (hle : 1 ≤ least) (h : Heap) : Does PP 22 [.ls (.il .i64 l) .any, .int .i64 most, .int .i64 least] h (Is (.ls (.il .i64 (flat (spans l most least))) .any) h) := by
  obtain ⟨r, hr⟩ : ∃ r, r = flat (spans l most least) := ⟨_, rfl⟩
  have hrl : r.length ≤ 402 := by rw [hr, flat_len]; have := spans_len l most least; omega
  rw [← hr]
  refine pure0 (doesF P_ok Try.f22 (by kernel_rfl) (by kernel_rfl) ?_) rfl rfl h
  intro i2 c2 u1 cv mx mn ad sbt bn bq ba lnI gtI apI sbI stI rpI lnG gtG apG sbG stG rpG fi fb fs fl fg fc sln sgt sap ssb sc b2s s2b nd call calld callv callvd loop rfun fin hk
  have hn := hk.lnI_nn l
  have hne := hk.lnI_eq l
  have hl2 := hk.lnI_le l 200 (by omega)
  have hlen : ∀ j, j ≤ lnI l → j ≤ (l.length : Int) := fun j h => by omega
  have hlen2 : ∀ j, lnI l < j → (l.length : Int) < j := fun j h => by omega
  have hlen3 : ∀ j, ¬ j < lnI l → ¬ j < (l.length : Int) := fun j h => by omega
  have hlen4 : ∀ j, j < lnI l → j < (l.length : Int) := fun j h => by omega
  have room : ∀ a b c : List Int, a ++ b ++ c = r → nd (.room (ad (lnI a) (lnI b)) 8) := fun a b c e => hk.ndI (by
    subst e
    rw [hk.ad_eq, hk.lnI_eq, hk.lnI_eq]
    simp at hrl
    exact ⟨by omega, by omega, by omega⟩)
  have evsAt_none' : ∀ i, ¬ i < lnI l → i ≤ lnI l + 1 → evsAt l most least i i = [] := fun i h h' => by
    by_cases he : i = l.length
    · have hc : calm l most i = false := by rw [calm, decide_eq_false (by omega), Bool.false_and]
      rw [evsAt_miss (by omega) hc (by omega), evsAt_end _ _ _ _ _ (by omega)]
    · exact evsAt_end _ _ _ _ _ (by omega)
  have hap := hk.apI_eq
  cbv
  refine hk.loopI (loop_rule (α := Int × List Int) (fun x => [(0, .ls (.il .i64 l) .any), (1, .int .i64 most), (2, .int .i64 least), (7, .ls (.il .i64 x.2) (.tok 0 0)), (8, .int .i64 x.1)])
      (fun x => [.tok 0]) (fun x => 0 ≤ x.1 ∧ x.1 ≤ lnI l + 1 ∧ x.2 ++ flat (evsAt l most least x.1 x.1) = r) (fun x => (lnI l + 1 - x.1).toNat) (0, []) ⟨by omega, by omega, hr.symm⟩ ?_ ?_)
  · refine Gh.trans (Gh.thaw 7 (.il .i64 []) rfl trivial rfl) (Gh.tm ?_)
    repeat (first | exact Holds.nil _ _ | refine Holds.cons (Wk.refl _ _) ?_)
  rintro ⟨i, out⟩ ⟨hi, hi2, ho⟩ Q' hb hx hr
  simp only [] at hi hi2 ho
  cbv
  split
  · rename_i hlt
    rw [hk.c2_lss, decide_eq_true_eq] at hlt
    cbv
    refine hk.loopI (loop_rule (α := Int) (fun k => [(0, .ls (.il .i64 l) .any), (1, .int .i64 most), (2, .int .i64 least), (7, .ls (.il .i64 out) (.tok 0 0)), (8, .int .i64 i), (9, .int .i64 k)])
      (fun k => [.tok 0]) (fun k => i ≤ k ∧ k ≤ lnI l ∧ out ++ flat (evsAt l most least i k) = r) (fun k => (lnI l - k).toNat) i ⟨by omega, by omega, ho⟩ ?_ ?_)
    · exact Gh.tm (by repeat (first | exact Holds.nil _ _ | refine Holds.cons (Wk.refl _ _) ?_))
    intro k ⟨hk1, hk2, ho⟩ Q'' hb' hx' hr'
    have hkl' : k ≤ (l.length : Int) := hlen k hk2
    have hadd := hk.add64 k 1 (by omega) (by omega)
    have hsub := hk.sub64 k i (by omega) (by omega)
    have hcalm : calm l most k = (decide (k < lnI l) && (decide (gtI l k ≤ most) && decide (gtI l k ≥ IntKind.wrap .i64 (0 - most)))) := by rw [calm, hk.gtI_eq, hne]
    have end_ : calm l most k = false → out ++ (if k - i ≥ least then [i, k] else []) ++ flat (evsAt l most least (k + 1) (k + 1)) = r := fun hc => by
      by_cases h : k - i ≥ least
      · rw [evsAt_hit hkl' hc h] at ho
        simpa [h, flat] using ho
      · rw [evsAt_miss hkl' hc h] at ho
        simpa [h] using ho
    cbv
    split
    · rename_i hkl
      rw [hk.c2_lss, decide_eq_true_eq] at hkl
      rw [decide_eq_true hkl, Bool.true_and] at hcalm
      have hix := hk.idx (i := k) (by omega) hkl
      cbv
      refine ⟨hix, ?_⟩
      cbv
      split
      · rename_i h4
        rw [hk.c2_leq, decide_eq_true_eq] at h4
        rw [decide_eq_true h4, Bool.true_and] at hcalm
        cbv
        refine ⟨hix, ?_⟩
        cbv
        split
        · rename_i h5
          rw [hk.c2_geq, decide_eq_true_eq, hk.u1_neg] at h5
          rw [decide_eq_true h5] at hcalm
          cbv
          refine hb' (k + 1) _ ⟨by omega, by omega, by rw [← evsAt_calm hkl' hcalm]; exact ho⟩ (by omega) (Gh.tm ?_)
          refine Holds.cons (Wk.refl _ _) <| Holds.cons (Wk.refl _ _) <| Holds.cons (Wk.refl _ _) <| Holds.cons (Wk.refl _ _) <| Holds.cons (Wk.refl _ _) <| Holds.cons (Wk.of_eq ?_) <| Holds.nil _ _
          rw [← hadd]; rfl
        · rename_i h5
          rw [hk.c2_geq, decide_eq_false_iff_not, hk.u1_neg] at h5
          rw [decide_eq_false h5] at hcalm
          cbv
          have e := end_ hcalm
          refine hx' _ _ ?_
          cbv
          split
          · rename_i h6
            rw [hk.c2_geq, decide_eq_true_eq, hsub] at h6
            rw [if_pos h6] at e
            cbv
            refine ⟨room out [i] ([k] ++ flat (evsAt l most least (k + 1) (k + 1))) (by simpa using e), ?_⟩
            cbv
            refine ⟨room (apI out [i]) [k] (flat (evsAt l most least (k + 1) (k + 1))) (by rw [hap]; simpa using e), ?_⟩
            cbv
            refine hb (i2 .add .i64 k 1, apI (apI out [i]) [k]) _ ⟨by simp only [hadd]; omega, by simp only [hadd]; omega, by simp only [hadd, hap]; simpa using e⟩ (by simp only [hadd]; omega) (Gh.retok 0 2 rfl (Nat.le_refl _) ?_ rfl rfl)
            · exact HoldsT.cons (Wk.refl _ _) rfl <| HoldsT.cons (Wk.refl _ _) rfl <| HoldsT.cons (Wk.refl _ _) rfl <| HoldsT.tok rfl <| HoldsT.cons (Wk.refl _ _) rfl <| HoldsT.nil _ _ _ _
          · rename_i h6
            rw [hk.c2_geq, decide_eq_false_iff_not, hsub] at h6
            rw [if_neg h6, List.append_nil] at e
            cbv
            refine hb (k + 1, out) _ ⟨by simp only []; omega, by simp only []; omega, e⟩ (by simp only []; omega) (Gh.tm (Holds.cons (Wk.refl _ _) <| Holds.cons (Wk.refl _ _) <| Holds.cons (Wk.refl _ _) <| Holds.cons (Wk.refl _ _) <| Holds.cons (Wk.of_eq (by rw [← hadd]; rfl)) <| Holds.nil _ _))
      · rename_i h4
        rw [hk.c2_leq, decide_eq_false_iff_not] at h4
        rw [decide_eq_false h4, Bool.false_and] at hcalm
        cbv
        have e := end_ hcalm
        refine hx' _ _ ?_
        cbv
        split
        · rename_i h6
          rw [hk.c2_geq, decide_eq_true_eq, hsub] at h6
          rw [if_pos h6] at e
          cbv
          refine ⟨room out [i] ([k] ++ flat (evsAt l most least (k + 1) (k + 1))) (by simpa using e), ?_⟩
          cbv
          refine ⟨room (apI out [i]) [k] (flat (evsAt l most least (k + 1) (k + 1))) (by rw [hap]; simpa using e), ?_⟩
          cbv
          refine hb (i2 .add .i64 k 1, apI (apI out [i]) [k]) _ ⟨by simp only [hadd]; omega, by simp only [hadd]; omega, by simp only [hadd, hap]; simpa using e⟩ (by simp only [hadd]; omega) (Gh.retok 0 2 rfl (Nat.le_refl _) ?_ rfl rfl)
          · exact HoldsT.cons (Wk.refl _ _) rfl <| HoldsT.cons (Wk.refl _ _) rfl <| HoldsT.cons (Wk.refl _ _) rfl <| HoldsT.tok rfl <| HoldsT.cons (Wk.refl _ _) rfl <| HoldsT.nil _ _ _ _
        · rename_i h6
          rw [hk.c2_geq, decide_eq_false_iff_not, hsub] at h6
          rw [if_neg h6, List.append_nil] at e
          cbv
          refine hb (k + 1, out) _ ⟨by simp only []; omega, by simp only []; omega, e⟩ (by simp only []; omega) (Gh.tm (Holds.cons (Wk.refl _ _) <| Holds.cons (Wk.refl _ _) <| Holds.cons (Wk.refl _ _) <| Holds.cons (Wk.refl _ _) <| Holds.cons (Wk.of_eq (by rw [← hadd]; rfl)) <| Holds.nil _ _))
    · rename_i hkl
      rw [hk.c2_lss, decide_eq_false_iff_not] at hkl
      rw [decide_eq_false hkl, Bool.false_and] at hcalm
      cbv
      have e := end_ hcalm
      refine hx' _ _ ?_
      cbv
      split
      · rename_i h6
        rw [hk.c2_geq, decide_eq_true_eq, hsub] at h6
        rw [if_pos h6] at e
        cbv
        refine ⟨room out [i] ([k] ++ flat (evsAt l most least (k + 1) (k + 1))) (by simpa using e), ?_⟩
        cbv
        refine ⟨room (apI out [i]) [k] (flat (evsAt l most least (k + 1) (k + 1))) (by rw [hap]; simpa using e), ?_⟩
        cbv
        refine hb (i2 .add .i64 k 1, apI (apI out [i]) [k]) _ ⟨by simp only [hadd]; omega, by simp only [hadd]; omega, by simp only [hadd, hap]; simpa using e⟩ (by simp only [hadd]; omega) (Gh.retok 0 2 rfl (Nat.le_refl _) ?_ rfl rfl)
        · exact HoldsT.cons (Wk.refl _ _) rfl <| HoldsT.cons (Wk.refl _ _) rfl <| HoldsT.cons (Wk.refl _ _) rfl <| HoldsT.tok rfl <| HoldsT.cons (Wk.refl _ _) rfl <| HoldsT.nil _ _ _ _
      · rename_i h6
        rw [hk.c2_geq, decide_eq_false_iff_not, hsub] at h6
        rw [if_neg h6, List.append_nil] at e
        cbv
        refine hb (k + 1, out) _ ⟨by simp only []; omega, by simp only []; omega, e⟩ (by simp only []; omega) (Gh.tm (Holds.cons (Wk.refl _ _) <| Holds.cons (Wk.refl _ _) <| Holds.cons (Wk.refl _ _) <| Holds.cons (Wk.refl _ _) <| Holds.cons (Wk.of_eq (by rw [← hadd]; rfl)) <| Holds.nil _ _))
  · rename_i hge
    rw [hk.c2_lss, decide_eq_false_iff_not] at hge
    refine hx _ _ ?_
    cbv
    refine hk.fin0 rfl rfl ?_
    rw [evsAt_none' i hge hi2] at ho
    rw [← ho]
    simpa [flat] using Wk.any _ _ _
end Go.Proofs.Ytnkaagbepppodaa
