/- Scores: which are few, which are good; the document's cues are the same. -/
import Derived.Test.YtnkaagbepppodaaScoreA
set_option linter.unusedSimpArgs false
set_option linter.unusedVariables false
set_option maxHeartbeats 4000000
open Go Go.AL
namespace Go.Proofs.Ytnkaagbepppodaa
def fewB (l : List Cue) : Bool := (l.all fun c => decide (c.2.length ≤ 100)) && decide (l.length ≤ 130)
theorem all_of_upto {l : List Cue} {p : Cue → Bool} {i : Int} (h1 : (l.length : Int) ≤ i) (h : ∀ j : Nat, j < i.toNat → p (cat l j) = true) : l.all p = true := by
  rw [List.all_eq_true]
  intro x hx
  obtain ⟨k, hk, rfl⟩ := List.mem_iff_getElem.1 hx
  simpa [cat, List.getD, hk] using h k (by omega)
theorem not_all_at {l : List Cue} {p : Cue → Bool} {i : Nat} (h1 : i < l.length) (h : p (cat l i) = false) : l.all p = false := by
  rw [List.all_eq_false]
  exact ⟨l[i], List.getElem_mem h1, by simp [cat, List.getD, h1] at h; simp [h]⟩
theorem few_spec (l : List Cue) (h : Heap) (hl : l.length ≤ 9223372036854775807) : Does PP 18 [cuesA l] h (Is (.bool (fewB l)) h) := by
  rw [cuesA]
  obtain ⟨L, hL⟩ : ∃ L, L = l.map cueA := ⟨_, rfl⟩
  rw [← hL]
  obtain ⟨r, hr⟩ : ∃ r, r = fewB l := ⟨_, rfl⟩
  rw [← hr]
  refine pure0 (doesF P_ok Try.f18 (by kernel_rfl) (by kernel_rfl) ?_) rfl rfl h
  intro i2 c2 u1 cv mx mn ad sbt bn bq ba lnI gtI apI sbI stI rpI lnG gtG apG sbG stG rpG fi fb fs fl fg fc sln sgt sap ssb sc b2s s2b nd call calld callv callvd loop rfun fin hk
  have hLn : lnG L = (l.length : Int) := by rw [hk.lnG_eq, hL, List.length_map]
  have hgn := hk.lnG_nn L
  have hgb : lnG L ≤ 9223372036854775807 := by omega
  have hat : ∀ i : Int, 0 ≤ i → i < lnG L → fi (fc (gtG L i) 0) = (cat l i.toNat).1 ∧ fs (fc (gtG L i) 1) = (cat l i.toNat).2 := fun i h0 h1 => by
    rw [hk.gtG_eq, hk.fi_eq, hk.fs_eq, hk.fc_eq, hL, map_get l _ (by omega)]
    exact ⟨rfl, rfl⟩
  have out : ∀ i : Int, 0 ≤ i → i < lnG L → c2 .gtr (sln (fs (fc (gtG L i) 1))) 100 = true → r = false := fun i h0 h1 h2 => by
    rw [hk.c2_gtr, decide_eq_true_eq, (hat i h0 h1).2, hk.sln_eq] at h2
    rw [hr, fewB, not_all_at (i := i.toNat) (by omega) (by simp only [decide_eq_false_iff_not]; omega), Bool.false_and]
  have all_ : ∀ i : Int, ¬ i < lnG L → (∀ j : Nat, j < i.toNat → decide ((cat l j).2.length ≤ 100) = true) → AVal.bool (c2 .leq (lnG L) 130) = .bool r := fun i h1 h2 => by
    rw [hr, fewB, all_of_upto (i := i) (by omega) h2, Bool.true_and, hk.c2_leq, hLn]
    simp only [show ((l.length : Int) ≤ 130) ↔ l.length ≤ 130 by omega]
  have next : ∀ i : Int, 0 ≤ i → i < lnG L → c2 .gtr (sln (fs (fc (gtG L i) 1))) 100 = false → (∀ j : Nat, j < i.toNat → decide ((cat l j).2.length ≤ 100) = true) → ∀ j : Nat, j < (i + 1).toNat → decide ((cat l j).2.length ≤ 100) = true := fun i h0 h1 h2 h3 j hj => by
    rw [hk.c2_gtr, decide_eq_false_iff_not, (hat i h0 h1).2, hk.sln_eq] at h2
    by_cases e : j = i.toNat
    · subst e; rw [decide_eq_true_eq]; omega
    · exact h3 j (by omega)
  cbv
  refine hk.loopI (loop_rule (α := Int) (fun x => [(0, .ls (.gl (.rc [.int .i64, .str]) L) .any), (5, .ls (.gl (.rc [.int .i64, .str]) L) .any), (6, .int .i64 (lnG L)), (7, .int .i64 x)]) (fun x => [])
    (fun x => 0 ≤ x ∧ x ≤ lnG L ∧ ∀ j : Nat, j < x.toNat → decide ((cat l j).2.length ≤ 100) = true) (fun x => (lnG L - x).toNat) 0 ⟨by omega, hgn, fun j hj => by simp at hj⟩ ?_ ?_)
  · exact Gh.tm (by repeat (first | exact Holds.nil _ _ | refine Holds.cons (Wk.refl _ _) ?_))
  intro i ⟨hi, hi2, hall⟩ Q' hb hx hrr
  cbv
  split
  · rename_i hlt
    rw [hk.c2_lss, decide_eq_true_eq] at hlt
    have hadd := hk.add64 i 1 (by omega) (by omega)
    cbv
    refine ⟨hk.ndI ⟨hi, hlt⟩, ?_⟩
    cbv
    split
    · rename_i h1
      cbv
      refine hrr _ ?_
      cbv
      exact hk.fin0 rfl rfl (Wk.of_eq (by rw [out i hi hlt h1]))
    · rename_i h1
      cbv
      refine hb (i + 1) _ ⟨by omega, by omega, next i hi hlt h1 hall⟩ (by omega) (Gh.low 0 (Nat.le_refl _) ?_ rfl rfl rfl)
      repeat (first | exact Holds.nil _ _ | refine Holds.cons (Wk.refl _ _) ?_ | refine Holds.cons (Wk.of_eq (by rw [← hadd]; rfl)) ?_)
  · rename_i hlt
    rw [hk.c2_lss, decide_eq_false_iff_not] at hlt
    have hall := all_ i hlt hall
    cbv
    refine hx _ _ ?_
    cbv
    exact hk.fin0 rfl rfl (Wk.of_eq hall)
theorem ref_spec (l : List Cue) (h : Heap) (hl : l.length ≤ 130) : Does PP 20 [cuesA l] h (Is (cuesA l) h) := by
  rw [cuesA]
  obtain ⟨L, hL⟩ : ∃ L, L = l.map cueA := ⟨_, rfl⟩
  rw [← hL]
  refine pure0 (doesF P_ok Try.f20 (by kernel_rfl) (by kernel_rfl) ?_) rfl rfl h
  intro i2 c2 u1 cv mx mn ad sbt bn bq ba lnI gtI apI sbI stI rpI lnG gtG apG sbG stG rpG fi fb fs fl fg fc sln sgt sap ssb sc b2s s2b nd call calld callv callvd loop rfun fin hk
  have hLn : lnG L = (l.length : Int) := by rw [hk.lnG_eq, hL, List.length_map]
  have hgn := hk.lnG_nn L
  have hgb : lnG L ≤ 9223372036854775807 := by omega
  have hat : ∀ i : Int, 0 ≤ i → i < lnG L → fi (fc (gtG L i) 0) = (cat l i.toNat).1 ∧ fs (fc (gtG L i) 1) = (cat l i.toNat).2 := fun i h0 h1 => by
    rw [hk.gtG_eq, hk.fi_eq, hk.fs_eq, hk.fc_eq, hL, map_get l _ (by omega)]
    exact ⟨rfl, rfl⟩
  have hlen : lnG L ≤ 130 := by omega
  have take : ∀ (i : Int) (out : List AVal), 0 ≤ i → i < lnG L → out ++ L.drop i.toNat = L → apG out [.agg [.int .i64 (fi (fc (gtG L i) 0)), .str (fs (fc (gtG L i) 1))]] ++ L.drop (i + 1).toNat = L := fun i out h0 h1 e => by
    have hlt : i.toNat < L.length := by rw [hL, List.length_map]; omega
    rw [List.drop_eq_getElem_cons hlt] at e
    have hg : L[i.toNat] = .agg [.int .i64 (fi (fc (gtG L i) 0)), .str (fs (fc (gtG L i) 1))] := by
      rw [(hat i h0 h1).1, (hat i h0 h1).2]
      have := map_get l i.toNat (by omega)
      rw [← hL] at this
      simp only [List.getD, List.getElem?_eq_getElem hlt, Option.getD_some] at this
      rw [this]; rfl
    rw [hk.apG_eq, ← hg, show (i + 1).toNat = i.toNat + 1 by omega]
    rw [List.append_assoc, List.singleton_append]
    exact e
  have room : ∀ (i : Int) (out : List AVal), 0 ≤ i → i < lnG L → out ++ L.drop i.toNat = L → ∀ x : AVal, nd (.room (ad (lnG out) (lnG [x])) 24) := fun i out h0 h1 e x => hk.ndI (by
    have := congrArg List.length e
    have hLl : L.length = l.length := by rw [hL, List.length_map]
    simp at this
    rw [hk.ad_eq, hk.lnG_eq, hk.lnG_eq]
    simp
    exact ⟨by omega, by omega, by omega⟩)
  have last : ∀ (i : Int) (out : List AVal), ¬ i < lnG L → out ++ L.drop i.toNat = L → out = L := fun i out h1 e => by
    have hLl : L.length = l.length := by rw [hL, List.length_map]
    rw [List.drop_eq_nil_of_le (by omega), List.append_nil] at e
    exact e
  cbv
  refine hk.loopI (loop_rule (α := Int × List AVal) (fun x => [(2, .ls .nl .nil), (3, .ls (.gl (.rc [.int .i64, .str]) x.2) (.tok 0 0)), (6, .ls (.gl (.rc [.int .i64, .str]) L) .any), (7, .int .i64 (lnG L)), (8, .int .i64 x.1)]) (fun x => [.tok 0])
    (fun x => 0 ≤ x.1 ∧ x.1 ≤ lnG L ∧ x.2 ++ L.drop x.1.toNat = L) (fun x => (lnG L - x.1).toNat) (0, []) ⟨by omega, hgn, rfl⟩ ?_ ?_)
  · refine Gh.trans (Gh.thaw 3 (.gl (.rc [.int .i64, .str]) []) rfl (fun x hx => by simp at hx) rfl) (Gh.tm ?_)
    repeat (first | exact Holds.nil _ _ | refine Holds.cons (Wk.refl _ _) ?_)
  rintro ⟨i, out⟩ ⟨hi, hi2, ho⟩ Q' hb hx hrr
  simp only [] at hi hi2 ho
  have hadd := hk.add64 i 1 (by omega) (by omega)
  cbv
  split
  · rename_i hlt
    rw [hk.c2_lss, decide_eq_true_eq] at hlt
    cbv
    refine ⟨hk.ndI ⟨hi, hlt⟩, ?_⟩
    cbv
    refine ⟨room i out hi hlt ho _, ?_⟩
    cbv
    refine hb (i + 1, apG out [.agg [.int .i64 (fi (fc (gtG L i) 0)), .str (fs (fc (gtG L i) 1))]]) _ ⟨by simp only []; omega, by simp only []; omega, take i out hi hlt ho⟩ (by simp only []; omega) (Gh.retok 0 1 rfl (Nat.le_refl _) ?_ rfl rfl)
    repeat (first | exact HoldsT.nil _ _ _ _ | refine HoldsT.cons (Wk.refl _ _) rfl ?_ | refine HoldsT.cons (Wk.of_eq (by rw [← hadd]; rfl)) rfl ?_ | refine HoldsT.tok rfl ?_)
  · rename_i hlt
    rw [hk.c2_lss, decide_eq_false_iff_not] at hlt
    have ho := last i out hlt ho
    cbv
    refine hx _ _ ?_
    cbv
    rw [ho]
    exact hk.fin0 rfl rfl (Wk.any _ _ _)
end Go.Proofs.Ytnkaagbepppodaa
