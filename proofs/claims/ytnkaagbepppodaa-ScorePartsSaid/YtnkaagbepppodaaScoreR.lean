/- Scores: the laws' functions that are told each part. -/
import Derived.Test.YtnkaagbepppodaaScoreP
set_option linter.unusedSimpArgs false
set_option linter.unusedVariables false
set_option maxHeartbeats 4000000
open Go Go.AL
namespace Go.Proofs.Ytnkaagbepppodaa
theorem p28 (l : List Cue) (n m : Int) (hl : l.length ≤ 130) (L : List AVal) (hL : L = l.map cueA) (j : Nat) (hj : j < l.length) :
    Does PP 28 [.str (partAt l n j).1, .agg [.int .i64 (partAt l n j).2.1, .int .i64 (partAt l n j).2.2], .ptr 2 0, .ptr 0 0, .ptr 4 0, .ptr 1 0, .ptr 3 0] (h28 L n m ((j : Int), true)) (Is (.bool (decide ((j : Int) + 1 < m))) (h28 L n m ((j : Int) + 1, true))) := by
  obtain ⟨⟨q1, q2, q3⟩, hq⟩ : ∃ y, y = partAt l n j := ⟨_, rfl⟩
  obtain ⟨i, hi⟩ : ∃ i : Int, i = (j : Int) := ⟨_, rfl⟩
  rw [← hq, ← hi]
  obtain ⟨i1, hi1⟩ : ∃ i1 : Int, i1 = i + 1 := ⟨_, rfl⟩
  obtain ⟨rb, hrb⟩ : ∃ rb, rb = decide (i1 < m) := ⟨_, rfl⟩
  rw [← hi1, ← hrb]
  simp only [h28]
  refine doesF P_ok Try.f28 (by kernel_rfl) (by kernel_rfl) ?_
  intro i2 c2 u1 cv mx mn ad sbt bn bq ba lnI gtI apI sbI stI rpI lnG gtG apG sbG stG rpG fi fb fs fl fg fc sln sgt sap ssb sc b2s s2b nd call calld callv callvd loop rfun fin hk
  have hLn : lnG L = (l.length : Int) := by rw [hk.lnG_eq, hL, List.length_map]
  have hgn := hk.lnG_nn L
  have hat : ∀ i : Int, 0 ≤ i → i < lnG L → fi (fc (gtG L i) 0) = (cat l i.toNat).1 ∧ fs (fc (gtG L i) 1) = (cat l i.toNat).2 := fun i h0 h1 => by
    rw [hk.gtG_eq, hk.fi_eq, hk.fs_eq, hk.fc_eq, hL, map_get l _ (by omega)]
    exact ⟨rfl, rfl⟩
  have hlt : i < lnG L := by omega
  have hi0 : 0 ≤ i := by omega
  have hadd := hk.add64 i 1 (by omega) (by omega)
  have h1 : c2 .geq i (lnG L) = false := by rw [hk.c2_geq, decide_eq_false_iff_not]; omega
  have hat1 := hat i hi0 hlt
  have hji : i.toNat = j := by omega
  rw [partAt] at hq
  injection hq with e1 hq
  injection hq with e2 e3
  rw [hji] at hat1
  have e2' : mn n (fi (fc (gtG L i) 0)) = q2 := by rw [hat1.1, hk.mn_eq, e2]; split <;> omega
  have e3a : c2 .lss i1 (lnG L) = true → mn n (fi (fc (gtG L i1) 0)) = q3 := fun h => by
    rw [hk.c2_lss, decide_eq_true_eq] at h
    have := (hat i1 (by omega) h).1
    rw [show i1.toNat = j + 1 by omega] at this
    rw [this, hk.mn_eq, e3, if_pos (show j + 1 < l.length by omega)]
    by_cases h9 : (cat l (j + 1)).1 < n
    · rw [if_pos h9]; omega
    · rw [if_neg h9]; omega
  have e3b : c2 .lss i1 (lnG L) = false → n = q3 := fun h => by
    rw [hk.c2_lss, decide_eq_false_iff_not] at h
    rw [e3, if_neg (by omega)]
  have hsame : ba (c2 .eql q2 q2) (ba (c2 .eql q3 q3) true) = true := by rw [hk.ba_eq, hk.ba_eq, hk.c2_eql, hk.c2_eql]; simp
  have hsc : sc .eql q1 q1 = true := by rw [hk.sc_eq]; simp [rSc]
  have hlss := hk.c2_lss i1 m
  rw [← hrb] at hlss
  rw [← hi1] at hadd
  have hs2 : fs (fc (gtG L i) 1) = q1 := by rw [hat1.2, e1]
  have hix : c2 .lss i1 (lnG L) = true → nd (.idx i1 (lnG L)) := fun h => hk.ndI (by
    rw [hk.c2_lss, decide_eq_true_eq] at h
    exact ⟨by omega, h⟩)
  rw [← hadd] at e3a e3b hlss hix ⊢
  cbv
  rw [h1]
  cbv
  split
  · rename_i h2
    have e3 := e3a h2
    have hix := hix h2
    cbv
    refine ⟨hix, hk.ndI ⟨hi0, hlt⟩, ?_⟩
    rw [hs2, hsc]
    cbv
    refine ⟨hk.ndI ⟨hi0, hlt⟩, ?_⟩
    first
    | rw [e2', e3]
    | rw [e3, e2']
    rw [hsame]
    cbv
    rw [hlss]
    exact hk.finI (fin_low (Wk.refl _ _) rfl rfl ⟨rfl, rfl⟩)
  · rename_i h2
    have e3 := e3b h2
    cbv
    refine ⟨hk.ndI ⟨hi0, hlt⟩, ?_⟩
    rw [hs2, hsc]
    cbv
    refine ⟨hk.ndI ⟨hi0, hlt⟩, ?_⟩
    first
    | rw [e2', e3]
    | rw [e3, e2']
    rw [hsame]
    cbv
    rw [hlss]
    exact hk.finI (fin_low (Wk.refl _ _) rfl rfl ⟨rfl, rfl⟩)
theorem p29 (a b c : Int) (s : List UInt8) (hbc : b ≤ c) : Does PP 29 [.str s, .agg [.int .i64 b, .int .i64 c], .ptr 1 0, .ptr 0 0] (h29 (b, true)) (Is (.bool true) (h29 (c, true))) := by
  simp only [h29]
  refine doesF P_ok Try.f29 (by kernel_rfl) (by kernel_rfl) ?_
  intro i2 c2 u1 cv mx mn ad sbt bn bq ba lnI gtI apI sbI stI rpI lnG gtG apG sbG stG rpG fi fb fs fl fg fc sln sgt sap ssb sc b2s s2b nd call calld callv callvd loop rfun fin hk
  have h1 : c2 .eql b b = true := by rw [hk.c2_eql]; simp
  have h2 : c2 .geq c b = true := by rw [hk.c2_geq, decide_eq_true_eq]; omega
  cbv
  rw [h1]
  cbv
  rw [h2]
  exact hk.finI (fin_low (Wk.refl _ _) rfl rfl ⟨rfl, rfl⟩)
end Go.Proofs.Ytnkaagbepppodaa
