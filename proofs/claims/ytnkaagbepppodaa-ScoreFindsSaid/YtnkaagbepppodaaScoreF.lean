/- Scores: the last cue at any place or ahead of it is found, or it is told that there is none. -/
import Derived.Test.YtnkaagbepppodaaScoreE
set_option linter.unusedSimpArgs false
set_option linter.unusedVariables false
set_option maxHeartbeats 4000000
open Go Go.AL
namespace Go.Proofs.Ytnkaagbepppodaa
theorem finds_law (l : List Cue) (n : Int) (hl0 : l.length ≤ 9223372036854775807) : Does PP 5 [cuesA l, .int .i64 n] [] (Is (.bool true) []) := by
  have hfew := fun h => few_spec l h hl0
  have hgood := good_spec l
  have href := ref_spec l
  have hfind := find_spec l n
  have hfacts := fun h => few_facts (l := l) h
  have hlast := fun h => find_last (l := l) (n := n) h
  rw [cuesA] at hfew hgood href hfind ⊢
  obtain ⟨L, hL⟩ : ∃ L, L = l.map cueA := ⟨_, rfl⟩
  rw [← hL] at hfew hgood href hfind ⊢
  obtain ⟨fw, hfw⟩ : ∃ fw, fw = fewB l := ⟨_, rfl⟩
  obtain ⟨gd, hgd⟩ : ∃ gd, gd = goodB l := ⟨_, rfl⟩
  obtain ⟨⟨⟨r1, r2⟩, r3⟩, hr⟩ : ∃ r, r = found l n := ⟨_, rfl⟩
  rw [← hfw] at hfew hfacts
  rw [← hgd] at hgood hfind hlast
  rw [← hr] at hfind hlast
  simp only [cueA] at hfind
  refine doesF P_ok Try.f5 (by kernel_rfl) (by kernel_rfl) ?_
  intro i2 c2 u1 cv mx mn ad sbt bn bq ba lnI gtI apI sbI stI rpI lnG gtG apG sbG stG rpG fi fb fs fl fg fc sln sgt sap ssb sc b2s s2b nd call calld callv callvd loop rfun fin hk
  have hLn : lnG L = (l.length : Int) := by rw [hk.lnG_eq, hL, List.length_map]
  have hgn := hk.lnG_nn L
  have hlb : l.length ≤ 130 → lnG L ≤ 130 := fun h => by omega
  have hat : ∀ i : Int, 0 ≤ i → i < lnG L → fi (fc (gtG L i) 0) = (cat l i.toNat).1 ∧ fs (fc (gtG L i) 1) = (cat l i.toNat).2 := fun i h0 h1 => by
    rw [hk.gtG_eq, hk.fi_eq, hk.fs_eq, hk.fc_eq, hL, map_get l _ (by omega)]
    exact ⟨rfl, rfl⟩
  have hsame : ∀ a b, ba (c2 .eql a a) (ba (sc .eql b b) true) = true := fun a b => by
    rw [hk.ba_eq, hk.ba_eq, hk.c2_eql, hk.sc_eq]
    simp [rSc]
  have hr3 : r3 = 0 ∨ r3 = 14 := by
    have := congrArg Prod.snd hr
    simp only [found] at this
    split at this
    · exact .inl this
    · split at this
      · exact .inr this
      · exact .inl this
  have yes : ∀ i : Int, 0 ≤ i → i < lnG L → c2 .leq (fi (fc (gtG L i) 0)) n = true → ((fi (fc (gtG L i) 0), fs (fc (gtG L i) 1)), true) = lastLe l n (i + 1).toNat := fun i h0 h1 h2 => by
    rw [hk.c2_leq, decide_eq_true_eq, (hat i h0 h1).1] at h2
    rw [(hat i h0 h1).1, (hat i h0 h1).2, show (i + 1).toNat = i.toNat + 1 by omega, lastLe, if_pos h2]
  have no : ∀ i : Int, 0 ≤ i → i < lnG L → c2 .leq (fi (fc (gtG L i) 0)) n = false → lastLe l n i.toNat = lastLe l n (i + 1).toNat := fun i h0 h1 h2 => by
    rw [hk.c2_leq, decide_eq_false_iff_not, (hat i h0 h1).1] at h2
    rw [show (i + 1).toNat = i.toNat + 1 by omega, lastLe, if_neg h2]
  have end_ : ∀ i : Int, i ≤ lnG L → ¬ i < lnG L → lastLe l n l.length = (((r1, r2), r3).1, decide (r3 = 0)) → lastLe l n i.toNat = (((r1, r2), r3).1, decide (r3 = 0)) := fun i h0 h1 h2 => by
    rw [← h2]; congr 1; omega
  cbv
  refine hk.call1 (awakeS_spec _) ?_
  cbv
  split <;> cbv
  · rename_i h1
    exact absurd h1 (by rw [hk.bn_eq]; decide)
  refine hk.call1 (hfew _) ?_
  cbv
  split <;> cbv
  · refine hk.call1 (awakeS_spec _) ?_
    cbv
    exact hk.fin0 rfl rfl (Wk.refl _ _)
  rename_i h1
  rw [hk.bn_eq, Bool.not_eq_false'] at h1
  obtain ⟨hl, hN⟩ := hfacts h1
  have hlb := hlb hl
  refine hk.call1 (href _ hl) ?_
  cbv
  refine hk.call1 (hgood _ hl hN) ?_
  cbv
  split <;> cbv
  · refine hk.call1 (awakeS_spec _) ?_
    cbv
    exact hk.fin0 rfl rfl (Wk.refl _ _)
  rename_i h2
  rw [hk.bn_eq, Bool.not_eq_false'] at h2
  refine hk.call1 (hfind _ hl (hgd ▸ h2)) ?_
  cbv
  have hlast := hlast (hgd ▸ h2)
  rw [h2] at *
  refine hk.loopI (loop_rule (α := Int × Int × List UInt8 × Bool) (fun x => [(1, .int .i64 n), (4, .bool false), (5, .ptr 0 0), (6, .int .i64 r3), (7, .ptr 1 0), (8, .bool x.2.2.2), (32, .ls (.gl (.rc [.int .i64, .str]) L) .any), (33, .int .i64 (lnG L)), (34, .int .i64 x.1)])
    (fun x => [.box [.int .i64 r1, .str r2], .box [.int .i64 x.2.1, .str x.2.2.1]])
    (fun x => 0 ≤ x.1 ∧ x.1 ≤ lnG L ∧ ((x.2.1, x.2.2.1), x.2.2.2) = lastLe l n x.1.toNat) (fun x => (lnG L - x.1).toNat) (0, 0, [], false) ⟨by omega, hgn, rfl⟩ ?_ ?_)
  · exact Gh.tm (by repeat (first | exact Holds.nil _ _ | refine Holds.cons (Wk.refl _ _) ?_))
  rintro ⟨i, wa, ws, th⟩ ⟨hi, hi2, hJ⟩ Q' hb hx hrr
  simp only [] at hi hi2 hJ
  have hadd := hk.add64 i 1 (by omega) (by omega)
  have yes := yes i hi
  have no := no i hi
  cbv
  split
  · rename_i hlt
    rw [hk.c2_lss, decide_eq_true_eq] at hlt
    cbv
    refine ⟨hk.ndI ⟨hi, hlt⟩, ?_⟩
    cbv
    split
    · rename_i h3
      cbv
      refine hb (i + 1, fi (fc (gtG L i) 0), fs (fc (gtG L i) 1), true) _ ⟨by simp only []; omega, by simp only []; omega, yes hlt h3⟩ (by simp only []; omega) (Gh.low 2 (by decide) ?_ rfl rfl rfl)
      repeat (first | exact Holds.nil _ _ | refine Holds.cons (Wk.refl _ _) ?_ | refine Holds.cons (Wk.of_eq (by rw [← hadd]; rfl)) ?_)
    · rename_i h3
      cbv
      refine hb (i + 1, wa, ws, th) _ ⟨by simp only []; omega, by simp only []; omega, hJ.trans (no hlt h3)⟩ (by simp only []; omega) (Gh.low 2 (by decide) ?_ rfl rfl rfl)
      repeat (first | exact Holds.nil _ _ | refine Holds.cons (Wk.refl _ _) ?_ | refine Holds.cons (Wk.of_eq (by rw [← hadd]; rfl)) ?_)
  · rename_i hlt
    rw [hk.c2_lss, decide_eq_false_iff_not] at hlt
    have hJ := hJ.trans (end_ i hi2 hlt hlast)
    injection hJ with e1 e2
    injection e1 with e1 e3
    subst e1; subst e3
    have hbq : bq (c2 .eql r3 0) th = true := by rw [hk.bq_eq, hk.c2_eql, e2]; simp
    have h14 : th = false → c2 .eql r3 14 = true := fun h => by
      rw [e2, decide_eq_false_iff_not] at h
      rw [hk.c2_eql, decide_eq_true_eq]
      exact hr3.resolve_left h
    cbv
    refine hx _ _ ?_
    cbv
    rw [hsame]
    cbv
    rw [hbq]
    cbv
    cases th
    · cbv
      rw [h14 rfl]
      exact hk.fin0 rfl rfl (Wk.refl _ _)
    · cbv
      exact hk.fin0 rfl rfl (Wk.refl _ _)
end Go.Proofs.Ytnkaagbepppodaa
