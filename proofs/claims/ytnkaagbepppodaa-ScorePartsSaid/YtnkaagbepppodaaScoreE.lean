/- Scores: the last cue at a place or ahead of it. -/
import Derived.Test.YtnkaagbepppodaaScoreD
set_option linter.unusedSimpArgs false
set_option linter.unusedVariables false
set_option maxHeartbeats 4000000
open Go Go.AL
namespace Go.Proofs.Ytnkaagbepppodaa
/-- The cue that is found, the error. -/
def found (l : List Cue) (n : Int) : Cue × Int := if thereB l n then (cat l (posN l n), 0) else if posN l n = 0 then ((0, []), 14) else (cat l (posN l n - 1), 0)
theorem find_spec (l : List Cue) (n : Int) (h : Heap) (hl : l.length ≤ 130) (hg : goodB l = true) : Does PP 21 [cuesA l, .int .i64 n] h (Is (.tup [cueA (found l n).1, .int .i64 (found l n).2]) h) := by
  have hbs := bs_spec l n
  rw [cuesA] at hbs ⊢
  obtain ⟨L, hL⟩ : ∃ L, L = l.map cueA := ⟨_, rfl⟩
  rw [← hL] at hbs ⊢
  obtain ⟨q, hq⟩ : ∃ q : Int, q = posN l n := ⟨_, rfl⟩
  obtain ⟨t, ht⟩ : ∃ t, t = thereB l n := ⟨_, rfl⟩
  rw [← hq, ← ht] at hbs
  obtain ⟨⟨⟨r1, r2⟩, r3⟩, hr⟩ : ∃ r, r = found l n := ⟨_, rfl⟩
  rw [← hr]
  simp only [cueA]
  refine pure0 (doesF P_ok Try.f21 (by kernel_rfl) (by kernel_rfl) ?_) rfl rfl h
  intro i2 c2 u1 cv mx mn ad sbt bn bq ba lnI gtI apI sbI stI rpI lnG gtG apG sbG stG rpG fi fb fs fl fg fc sln sgt sap ssb sc b2s s2b nd call calld callv callvd loop rfun fin hk
  have hLn : lnG L = (l.length : Int) := by rw [hk.lnG_eq, hL, List.length_map]
  have hgn := hk.lnG_nn L
  have hat : ∀ i : Int, 0 ≤ i → i < lnG L → fi (fc (gtG L i) 0) = (cat l i.toNat).1 ∧ fs (fc (gtG L i) 1) = (cat l i.toNat).2 := fun i h0 h1 => by
    rw [hk.gtG_eq, hk.fi_eq, hk.fs_eq, hk.fc_eq, hL, map_get l _ (by omega)]
    exact ⟨rfl, rfl⟩
  have hple : posN l n ≤ l.length := List.findIdx_le_length
  have hlen : lnG L ≤ 130 := by omega
  have hq0 : 0 ≤ q := by omega
  have hsub := hk.sub64 q 1 (by omega) (by omega)
  have hthere : t = true → q < lnG L ∧ ((fi (fc (gtG L q) 0), fs (fc (gtG L q) 1)), (0 : Int)) = ((r1, r2), r3) := fun h => by
    have h1 : posN l n < l.length := by
      rw [ht, thereB, Bool.and_eq_true, decide_eq_true_eq] at h
      exact h.1
    refine ⟨by omega, ?_⟩
    rw [hr, found, ← ht, h, if_pos rfl, (hat q hq0 (by omega)).1, (hat q hq0 (by omega)).2, show q.toNat = posN l n by omega]
  have hnone : t = false → c2 .eql q 0 = true → (((0 : Int), ([] : List UInt8)), (14 : Int)) = ((r1, r2), r3) := fun h h1 => by
    rw [hk.c2_eql, decide_eq_true_eq] at h1
    rw [hr, found, ← ht, h, if_neg (by simp), if_pos (by omega)]
  have hlast : t = false → c2 .eql q 0 = false → 0 ≤ q - 1 ∧ q - 1 < lnG L ∧ ((fi (fc (gtG L (q - 1)) 0), fs (fc (gtG L (q - 1)) 1)), (0 : Int)) = ((r1, r2), r3) := fun h h1 => by
    rw [hk.c2_eql, decide_eq_false_iff_not] at h1
    refine ⟨by omega, by omega, ?_⟩
    rw [hr, found, ← ht, h, if_neg (by simp), if_neg (by omega), (hat (q - 1) (by omega) (by omega)).1, (hat (q - 1) (by omega) (by omega)).2, show (q - 1).toNat = posN l n - 1 by omega]
  rw [← hsub] at hlast
  cbv
  refine hk.call1 (hbs _ hl hg) ?_
  cbv
  split <;> cbv
  · rename_i h1
    obtain ⟨h2, h3⟩ := hthere rfl
    injection h3 with h3 h4
    injection h3 with h3 h5
    refine ⟨hk.ndI ⟨hq0, h2⟩, ?_⟩
    cbv
    rw [h3, h5, ← h4]
    exact hk.fin0 rfl rfl (Wk.refl _ _)
  · split <;> cbv
    · rename_i h1
      have h3 := hnone rfl h1
      injection h3 with h3 h4
      injection h3 with h3 h5
      rw [← h3, ← h5, ← h4]
      exact hk.fin0 rfl rfl (Wk.refl _ _)
    · rename_i h1
      obtain ⟨h0, h2, h3⟩ := hlast rfl h1
      injection h3 with h3 h4
      injection h3 with h3 h5
      refine ⟨hk.ndI ⟨h0, h2⟩, ?_⟩
      cbv
      rw [h3, h5, ← h4]
      exact hk.fin0 rfl rfl (Wk.refl _ _)
theorem awakeS_spec (h : Heap) : Does PP 17 [] h (Is (.bool true) h) := by
  refine pure0 (doesF P_ok Try.f17 (by kernel_rfl) (by kernel_rfl) ?_) rfl rfl h
  have hf := find_spec [(0, [105, 110, 116, 114, 111]), (500, [118, 101, 114, 115, 101])] 499
  rw [show found [(0, [105, 110, 116, 114, 111]), (500, [118, 101, 114, 115, 101])] 499 = ((0, [105, 110, 116, 114, 111]), 0) by kernel_rfl] at hf
  simp only [cuesA, cueA, List.map] at hf
  intro i2 c2 u1 cv mx mn ad sbt bn bq ba lnI gtI apI sbI stI rpI lnG gtG apG sbG stG rpG fi fb fs fl fg fc sln sgt sap ssb sc b2s s2b nd call calld callv callvd loop rfun fin hk
  have h00 : c2 .eql 0 0 = true := by rw [hk.c2_eql]; rfl
  have hsc : sc .eql [105, 110, 116, 114, 111] [105, 110, 116, 114, 111] = true := by rw [hk.sc_eq]; decide
  cbv
  refine hk.call1 ((hf _ (by decide) (by kernel_rfl)).wk (.cons (.any _ _ _) (.cons (.refl _ _) .nil))) ?_
  cbv
  rw [h00]
  cbv
  rw [hsc]
  exact hk.fin0 rfl rfl (Wk.refl _ _)
def lastLe (l : List Cue) (n : Int) : Nat → Cue × Bool
  | 0 => ((0, []), false)
  | k + 1 => if (cat l k).1 ≤ n then (cat l k, true) else lastLe l n k
theorem lastLe_eq {l : List Cue} {n : Int} {p : Nat} (h1 : ∀ j, p ≤ j → j < l.length → n < (cat l j).1) (h2 : 0 < p → (cat l (p - 1)).1 ≤ n) : ∀ k, p ≤ k → k ≤ l.length → lastLe l n k = if p = 0 then ((0, []), false) else (cat l (p - 1), true)
  | 0, hp, hk => by
    have : p = 0 := by omega
    subst this; rfl
  | k + 1, hp, hk => by
    by_cases e : p = k + 1
    · subst e
      rw [lastLe, if_pos (by simpa using h2 (by omega)), if_neg (by omega)]; rfl
    · rw [lastLe, if_neg (by have := h1 k (by omega) (by omega); omega), lastLe_eq h1 h2 k (by omega) (by omega)]
theorem find_last {l : List Cue} {n : Int} (hg : goodB l = true) : lastLe l n l.length = ((found l n).1, decide ((found l n).2 = 0)) := by
  have hlt : ∀ j, j < posN l n → (cat l j).1 < n := fun j hj => by
    have hjl : j < l.length := Nat.lt_of_lt_of_le hj List.findIdx_le_length
    have := List.not_of_lt_findIdx hj
    simp only [decide_eq_false_iff_not] at this
    simp only [cat, List.getD, List.getElem?_eq_getElem hjl, Option.getD_some]
    omega
  have hge : ∀ j, posN l n ≤ j → j < l.length → n ≤ (cat l j).1 := fun j h1 h2 => by
    have h3 : posN l n < l.length := by omega
    have h4 : n ≤ (cat l (posN l n)).1 := by
      have := List.findIdx_getElem (w := h3)
      simp only [decide_eq_true_eq] at this
      simp only [cat, List.getD, List.getElem?_eq_getElem h3, Option.getD_some]
      exact this
    have := good_mono hg (j := posN l n) (j - posN l n) (by omega)
    rw [show posN l n + (j - posN l n) = j by omega] at this
    omega
  have hple : posN l n ≤ l.length := List.findIdx_le_length
  by_cases ht : thereB l n = true
  · have ht' := ht
    rw [thereB, Bool.and_eq_true, decide_eq_true_eq, decide_eq_true_eq] at ht'
    rw [lastLe_eq (p := posN l n + 1) (fun j h1 h2 => by
      have h3 := good_mono hg (j := posN l n + 1) (j - (posN l n + 1)) (by omega)
      rw [show posN l n + 1 + (j - (posN l n + 1)) = j by omega] at h3
      have h4 := good_step hg (j := posN l n) (by omega)
      omega) (fun _ => by simp; omega) l.length (by omega) (Nat.le_refl _), if_neg (by omega)]
    simp [found, ht]
  · rw [lastLe_eq (p := posN l n) (fun j h1 h2 => by
      have h3 := hge j h1 h2
      by_cases e : (cat l j).1 = n
      · exfalso
        apply ht
        have h5 : j = posN l n := by
          by_cases e2 : j = posN l n
          · exact e2
          · have h6 := hge (posN l n) (Nat.le_refl _) (by omega)
            have h7 := good_mono hg (j := posN l n + 1) (j - (posN l n + 1)) (by omega)
            rw [show posN l n + 1 + (j - (posN l n + 1)) = j by omega] at h7
            have h8 := good_step hg (j := posN l n) (by omega)
            omega
        rw [thereB, Bool.and_eq_true, decide_eq_true_eq, decide_eq_true_eq]
        exact ⟨by omega, by rw [← h5]; exact e⟩
      · omega) (fun h => by have := hlt (posN l n - 1) (by omega); omega) l.length hple (Nat.le_refl _)]
    by_cases e : posN l n = 0
    · simp [found, ht, e]
    · simp [found, ht, e]
end Go.Proofs.Ytnkaagbepppodaa
