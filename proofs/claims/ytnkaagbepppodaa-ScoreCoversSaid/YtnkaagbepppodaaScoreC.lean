/- Scores: which are good; where a place is found. -/
import Derived.Test.YtnkaagbepppodaaScoreB
set_option linter.unusedSimpArgs false
set_option linter.unusedVariables false
set_option maxHeartbeats 4000000
open Go Go.AL
namespace Go.Proofs.Ytnkaagbepppodaa
def goodP (l : List Cue) (i : Nat) : Bool := rightB (cat l i) && (decide (i = 0) || decide ((cat l i).1 > (cat l (i - 1)).1))
def goodB (l : List Cue) : Bool := ((List.range l.length).all (goodP l)) && decide (l.length ≤ 100)
theorem few_facts {l : List Cue} (h : fewB l = true) : l.length ≤ 130 ∧ ∀ j, (cat l j).2.length ≤ 100 := by
  simp only [fewB, Bool.and_eq_true, decide_eq_true_eq, List.all_eq_true] at h
  refine ⟨h.2, fun j => ?_⟩
  by_cases hj : j < l.length
  · have := h.1 l[j] (List.getElem_mem hj)
    simpa [cat, List.getD, hj] using this
  · simp [cat, List.getD, List.getElem?_eq_none (show l.length ≤ j by omega)]
theorem good_spec (l : List Cue) (h : Heap) (hl : l.length ≤ 130) (hN : ∀ j, (cat l j).2.length ≤ 100) : Does PP 19 [cuesA l] h (Is (.bool (goodB l)) h) := by
  rw [cuesA]
  obtain ⟨L, hL⟩ : ∃ L, L = l.map cueA := ⟨_, rfl⟩
  rw [← hL]
  obtain ⟨r, hr⟩ : ∃ r, r = goodB l := ⟨_, rfl⟩
  rw [← hr]
  refine pure0 (doesF P_ok Try.f19 (by kernel_rfl) (by kernel_rfl) ?_) rfl rfl h
  intro i2 c2 u1 cv mx mn ad sbt bn bq ba lnI gtI apI sbI stI rpI lnG gtG apG sbG stG rpG fi fb fs fl fg fc sln sgt sap ssb sc b2s s2b nd call calld callv callvd loop rfun fin hk
  have hLn : lnG L = (l.length : Int) := by rw [hk.lnG_eq, hL, List.length_map]
  have hgn := hk.lnG_nn L
  have hgb : lnG L ≤ 9223372036854775807 := by omega
  have hat : ∀ i : Int, 0 ≤ i → i < lnG L → fi (fc (gtG L i) 0) = (cat l i.toNat).1 ∧ fs (fc (gtG L i) 1) = (cat l i.toNat).2 := fun i h0 h1 => by
    rw [hk.gtG_eq, hk.fi_eq, hk.fs_eq, hk.fc_eq, hL, map_get l _ (by omega)]
    exact ⟨rfl, rfl⟩
  have hlen : lnG L ≤ 130 := by omega
  obtain ⟨R, hR⟩ : ∃ R : Int → Bool, ∀ i, R i = rightB (cat l i.toNat) := ⟨_, fun _ => rfl⟩
  have hright : ∀ i : Int, 0 ≤ i → i < lnG L → ∀ h, Does PP 40 [.agg [.int .i64 (fi (fc (gtG L i) 0)), .str (fs (fc (gtG L i) 1))]] h (Is (.bool (R i)) h) := fun i h0 h1 h => by
    rw [(hat i h0 h1).1, (hat i h0 h1).2, hR]
    exact right_spec _ _ h (by have := hN i.toNat; omega)
  have hP : ∀ i : Int, 0 ≤ i → i < lnG L → (goodP l i.toNat = true ↔ R i = true ∧ (i ≤ 0 ∨ fi (fc (gtG L i) 0) > fi (fc (gtG L (i - 1)) 0))) := fun i h0 h1 => by
    rw [(hat i h0 h1).1, hR]
    simp only [goodP, Bool.and_eq_true, Bool.or_eq_true, decide_eq_true_eq]
    by_cases e : i = 0
    · subst e; simp
    · rw [(hat (i - 1) (by omega) (by omega)).1, show (i - 1).toNat = i.toNat - 1 by omega, show (i.toNat = 0) ↔ i ≤ 0 by omega]
  have out : ∀ i : Int, 0 ≤ i → i < lnG L → ¬ (R i = true ∧ (i ≤ 0 ∨ fi (fc (gtG L i) 0) > fi (fc (gtG L (i - 1)) 0))) → r = false := fun i h0 h1 h2 => by
    rw [← hP i h0 h1] at h2
    have : ((List.range l.length).all (goodP l)) = false := by
      rw [List.all_eq_false]
      exact ⟨i.toNat, by simp; omega, h2⟩
    rw [hr, goodB, this, Bool.false_and]
  have all_ : ∀ i : Int, ¬ i < lnG L → (∀ j : Nat, j < i.toNat → goodP l j = true) → AVal.bool (c2 .leq (lnG L) 100) = .bool r := fun i h1 h2 => by
    have : ((List.range l.length).all (goodP l)) = true := by
      rw [List.all_eq_true]
      intro x hx
      simp at hx
      exact h2 x (by omega)
    rw [hr, goodB, this, Bool.true_and, hk.c2_leq, hLn]
    simp only [show ((l.length : Int) ≤ 100) ↔ l.length ≤ 100 by omega]
  have next : ∀ i : Int, 0 ≤ i → i < lnG L → (∀ j : Nat, j < i.toNat → goodP l j = true) → (R i = true ∧ (i ≤ 0 ∨ fi (fc (gtG L i) 0) > fi (fc (gtG L (i - 1)) 0))) → ∀ j : Nat, j < (i + 1).toNat → goodP l j = true := fun i h0 h1 h3 h2 j hj => by
    by_cases e : j = i.toNat
    · subst e; exact (hP i h0 h1).2 h2
    · exact h3 j (by omega)
  cbv
  refine hk.loopI (loop_rule (α := Int) (fun x => [(0, .ls (.gl (.rc [.int .i64, .str]) L) .any), (5, .int .i64 (lnG L)), (6, .int .i64 x)]) (fun x => [])
    (fun x => 0 ≤ x ∧ x ≤ lnG L ∧ ∀ j : Nat, j < x.toNat → goodP l j = true) (fun x => (lnG L - x).toNat) 0 ⟨by omega, hgn, fun j hj => by simp at hj⟩ ?_ ?_)
  · exact Gh.tm (by repeat (first | exact Holds.nil _ _ | refine Holds.cons (Wk.refl _ _) ?_))
  intro i ⟨hi, hi2, hall⟩ Q' hb hx hrr
  cbv
  split
  · rename_i hlt
    rw [hk.c2_lss, decide_eq_true_eq] at hlt
    have hadd := hk.add64 i 1 (by omega) (by omega)
    have hsub := hk.sub64 i 1 (by omega) (by omega)
    obtain ⟨Ri, hRi⟩ : ∃ x, x = R i := ⟨_, rfl⟩
    have hr1 := hright i hi hlt
    have out := out i hi hlt
    have next := next i hi hlt hall
    rw [← hsub, ← hRi] at out next
    rw [← hRi] at hr1
    cbv
    refine ⟨hk.ndI ⟨hi, hlt⟩, ?_⟩
    cbv
    refine hk.calld1 (hr1 _) ?_
    cbv
    repeat' (first
      | (rename_i hh; exact absurd hh (by rw [hk.bn_eq]; decide))
      | (refine ⟨hk.ndI ⟨hi, hlt⟩, ?_⟩; cbv)
      | (refine ⟨hk.ndI (show 0 ≤ i2 .sub .i64 i 1 ∧ i2 .sub .i64 i 1 < lnG L from by
            simp only [hk.c2_gtr, decide_eq_true_eq] at *
            rw [hsub]; omega), ?_⟩; cbv)
      | (split <;> cbv)
      | (refine hrr _ ?_
         cbv
         exact hk.fin0 rfl rfl (Wk.of_eq (by
            rw [out (by
              clear hb hx hrr next out hright hP hat
              simp only [hk.c2_gtr, hk.c2_leq, hk.bn_eq, decide_eq_true_eq, decide_eq_false_iff_not, Bool.not_eq_true', Bool.not_eq_false'] at *
              rintro ⟨q1, q2⟩
              first
              | omega
              | (rename_i q3; rw [q1] at q3; cases q3))])))
      | (refine hb (i + 1) _ ⟨by omega, by omega, next (by
              clear hb hx hrr next out hright hP hat
              simp only [hk.c2_gtr, hk.c2_leq, hk.bn_eq, decide_eq_true_eq, decide_eq_false_iff_not, Bool.not_eq_true', Bool.not_eq_false'] at *
              exact ⟨by assumption, by omega⟩)⟩ (by omega) (Gh.tm ?_)
         repeat (first | exact Holds.nil _ _ | refine Holds.cons (Wk.refl _ _) ?_ | refine Holds.cons (Wk.of_eq (by rw [← hadd]; rfl)) ?_)))
    all_goals trace_state
  · rename_i hlt
    rw [hk.c2_lss, decide_eq_false_iff_not] at hlt
    have hall := all_ i hlt hall
    cbv
    refine hx _ _ ?_
    cbv
    exact hk.fin0 rfl rfl (Wk.of_eq hall)
end Go.Proofs.Ytnkaagbepppodaa
