/- Scores: where a place is found. -/
import Derived.Test.YtnkaagbepppodaaScoreC
set_option linter.unusedSimpArgs false
set_option linter.unusedVariables false
set_option maxHeartbeats 4000000
open Go Go.AL
namespace Go.Proofs.Ytnkaagbepppodaa
theorem good_step {l : List Cue} (h : goodB l = true) {j : Nat} (hj : j + 1 < l.length) : (cat l j).1 < (cat l (j + 1)).1 := by
  simp only [goodB, Bool.and_eq_true, List.all_eq_true, List.mem_range] at h
  have := h.1 (j + 1) hj
  simp only [goodP, Bool.and_eq_true, Bool.or_eq_true, decide_eq_true_eq, Nat.add_sub_cancel] at this
  omega
theorem good_mono {l : List Cue} (h : goodB l = true) {j : Nat} : ∀ k, j + k < l.length → (cat l j).1 ≤ (cat l (j + k)).1
  | 0, _ => Int.le_refl _
  | k + 1, hk => by
    have := good_mono h (j := j) k (by omega)
    have h2 := good_step h (j := j + k) (show j + k + 1 < l.length by omega)
    rw [Nat.add_assoc] at h2
    omega
theorem good_right {l : List Cue} (h : goodB l = true) {j : Nat} (hj : j < l.length) : 0 ≤ (cat l j).1 ∧ (cat l j).1 ≤ 1048576 := by
  simp only [goodB, Bool.and_eq_true, List.all_eq_true, List.mem_range] at h
  have := h.1 j hj
  simp only [goodP, rightB, Bool.and_eq_true, decide_eq_true_eq] at this
  omega
def posN (l : List Cue) (n : Int) : Nat := l.findIdx fun c => decide (n ≤ c.1)
theorem posN_eq {l : List Cue} {n : Int} {i : Nat} (h0 : i ≤ l.length) (h1 : ∀ j, j < i → (cat l j).1 < n) (h2 : i < l.length → n ≤ (cat l i).1) : i = posN l n := by
  unfold posN
  by_cases hi : i < l.length
  · symm
    rw [List.findIdx_eq hi]
    refine ⟨by have := h2 hi; simpa [cat, List.getD, hi] using this, fun j hj => ?_⟩
    have := h1 j hj
    simp only [cat, List.getD, List.getElem?_eq_getElem (show j < l.length by omega), Option.getD_some] at this
    simp; omega
  · have : i = l.length := by omega
    subst this
    symm
    rw [List.findIdx_eq_length]
    intro x hx
    obtain ⟨k, hk, rfl⟩ := List.mem_iff_getElem.1 hx
    have := h1 k hk
    simp only [cat, List.getD, List.getElem?_eq_getElem hk, Option.getD_some] at this
    simp; omega
def thereB (l : List Cue) (n : Int) : Bool := decide (posN l n < l.length) && decide ((cat l (posN l n)).1 = n)
theorem wrapu64 {n : Int} (h1 : 0 ≤ n) (h2 : n < 18446744073709551616) : IntKind.wrap .u64 n = n := by
  simp only [IntKind.wrap, IntKind.bits, IntKind.signed]
  simp; omega
theorem bs_spec (l : List Cue) (n : Int) (h : Heap) (hl : l.length ≤ 130) (hg : goodB l = true) : Does PP 41 [cuesA l, .int .i64 n, .clo (.func 42) [] []] h (Is (.tup [.int .i64 (posN l n), .bool (thereB l n)]) h) := by
  rw [cuesA]
  obtain ⟨L, hL⟩ : ∃ L, L = l.map cueA := ⟨_, rfl⟩
  rw [← hL]
  obtain ⟨r, hr⟩ : ∃ r : Int, r = posN l n := ⟨_, rfl⟩
  obtain ⟨t, ht⟩ : ∃ t, t = thereB l n := ⟨_, rfl⟩
  rw [← hr, ← ht]
  refine pure0 (doesF P_ok Try.f41 (by kernel_rfl) (by kernel_rfl) ?_) rfl rfl h
  intro i2 c2 u1 cv mx mn ad sbt bn bq ba lnI gtI apI sbI stI rpI lnG gtG apG sbG stG rpG fi fb fs fl fg fc sln sgt sap ssb sc b2s s2b nd call calld callv callvd loop rfun fin hk
  have hLn : lnG L = (l.length : Int) := by rw [hk.lnG_eq, hL, List.length_map]
  have hgn := hk.lnG_nn L
  have hgb : lnG L ≤ 9223372036854775807 := by omega
  have hat : ∀ i : Int, 0 ≤ i → i < lnG L → fi (fc (gtG L i) 0) = (cat l i.toNat).1 ∧ fs (fc (gtG L i) 1) = (cat l i.toNat).2 := fun i h0 h1 => by
    rw [hk.gtG_eq, hk.fi_eq, hk.fs_eq, hk.fc_eq, hL, map_get l _ (by omega)]
    exact ⟨rfl, rfl⟩
  have hlen : lnG L ≤ 130 := by omega
  have hcmp := cueCmp_spec
  have hend0 : ∀ j : Nat, (lnG L).toNat ≤ j → j < l.length → False := fun j h1 h2 => by omega
  have hmid : ∀ i j : Int, 0 ≤ i → i < j → j ≤ lnG L → i ≤ cv .i64 (i2 .shr .u64 (cv .u64 (i2 .add .i64 i j)) 1) ∧ cv .i64 (i2 .shr .u64 (cv .u64 (i2 .add .i64 i j)) 1) < j := fun i j h0 h1 h2 => by
    rw [hk.add64 i j (by omega) (by omega), hk.cv_eq, hk.cv_eq, wrapu64 (by omega) (by omega), hk.i2_eq]
    have e : rI2 .shr .u64 (i + j) 1 = (i + j) / 2 := by
      show (i + j).fdiv (2 ^ (min (1 : Int).toNat 64)) = _
      rw [Int.fdiv_eq_ediv_of_nonneg _ (by decide)]; rfl
    rw [e, wrap64 (by omega) (by omega)]
    omega
  have up : ∀ (i m : Int), 0 ≤ i → 0 ≤ m → m < lnG L → c2 .lss (cmpI (cat l m.toNat).1 n) 0 = true → (∀ j : Nat, j < (m + 1).toNat → (cat l j).1 < n) := fun i m h0 h1 h2 h3 j hj => by
    rw [hk.c2_lss, decide_eq_true_eq, cmpI] at h3
    have h4 : (cat l m.toNat).1 < n := by split at h3 <;> (try split at h3) <;> omega
    have := good_mono hg (j := j) (m.toNat - j) (by omega)
    rw [show j + (m.toNat - j) = m.toNat by omega] at this
    omega
  have down : ∀ (m : Int), 0 ≤ m → m < lnG L → c2 .lss (cmpI (cat l m.toNat).1 n) 0 = false → (∀ j : Nat, m.toNat ≤ j → j < l.length → n ≤ (cat l j).1) := fun m h1 h2 h3 j hj hjl => by
    rw [hk.c2_lss, decide_eq_false_iff_not, cmpI] at h3
    have h4 : n ≤ (cat l m.toNat).1 := by split at h3 <;> omega
    have := good_mono hg (j := m.toNat) (j - m.toNat) (by omega)
    rw [show m.toNat + (j - m.toNat) = j by omega] at this
    omega
  have hcmp2 : ∀ m : Int, 0 ≤ m → m < lnG L → ∀ h, Does PP 42 [.agg [.int .i64 (fi (fc (gtG L m) 0)), .str (fs (fc (gtG L m) 1))], .int .i64 n] h (Is (.int .i64 (cmpI (cat l m.toNat).1 n)) h) := fun m h0 h1 h => by
    rw [(hat m h0 h1).1]
    exact cueCmp_spec _ _ _ _
  have fin1 : ∀ i : Int, 0 ≤ i → i ≤ lnG L → (∀ j : Nat, j < i.toNat → (cat l j).1 < n) → (∀ j : Nat, i.toNat ≤ j → j < l.length → n ≤ (cat l j).1) → i = r := fun i h0 h1 h2 h3 => by
    have := posN_eq (l := l) (n := n) (i := i.toNat) (by omega) h2 (fun h => h3 _ (Nat.le_refl _) h)
    rw [hr, ← this]; omega
  have fin2 : i2 .add .i64 0 0 = 0 → ∀ i : Int, i = r → c2 .lss i (lnG L) = true → c2 .eql (cmpI (cat l i.toNat).1 n) 0 = t := fun _ i h0 h1 => by
    subst h0
    rw [hk.c2_lss, decide_eq_true_eq] at h1
    rw [ht, thereB, hk.c2_eql, hr, decide_eq_true (show posN l n < l.length by omega), Bool.true_and, cmpI]
    rw [show ((posN l n : Nat) : Int).toNat = posN l n by omega]
    split
    · rw [decide_eq_false (by omega), decide_eq_false (by omega)]
    · split
      · rw [decide_eq_false (by omega), decide_eq_false (by omega)]
      · rw [decide_eq_true (by omega), decide_eq_true (by omega)]
  have fin3 : ∀ i : Int, i = r → c2 .lss i (lnG L) = false → t = false := fun i h0 h1 => by
    subst h0
    rw [hk.c2_lss, decide_eq_false_iff_not] at h1
    rw [ht, thereB, decide_eq_false (by omega), Bool.false_and]
  cbv
  refine hk.loopI (loop_rule (α := Int × Int) (fun x => [(0, .ls (.gl (.rc [.int .i64, .str]) L) .any), (1, .int .i64 n), (2, .clo (.func 42) [] []), (7, .bool false), (8, .int .i64 (lnG L)), (9, .int .i64 x.1), (10, .int .i64 x.2)]) (fun x => [])
    (fun x => 0 ≤ x.1 ∧ x.1 ≤ x.2 ∧ x.2 ≤ lnG L ∧ (∀ j : Nat, j < x.1.toNat → (cat l j).1 < n) ∧ (∀ j : Nat, x.2.toNat ≤ j → j < l.length → n ≤ (cat l j).1)) (fun x => (x.2 - x.1).toNat) (0, lnG L) ⟨by omega, hgn, by simp only []; omega, fun j hj => by simp at hj, fun j h1 h2 => (hend0 j h1 h2).elim⟩ ?_ ?_)
  · exact Gh.tm (by repeat (first | exact Holds.nil _ _ | refine Holds.cons (Wk.refl _ _) ?_))
  rintro ⟨i, j⟩ ⟨hi, hij, hj, hlo, hhi⟩ Q' hb hx hrr
  simp only [] at hi hij hj hlo hhi
  cbv
  split
  · rename_i hlt
    rw [hk.c2_lss, decide_eq_true_eq] at hlt
    obtain ⟨hm1, hm2⟩ := hmid i j hi hlt hj
    obtain ⟨m, hm⟩ : ∃ m, m = cv .i64 (i2 .shr .u64 (cv .u64 (i2 .add .i64 i j)) 1) := ⟨_, rfl⟩
    rw [← hm] at hm1 hm2
    have hadd := hk.add64 m 1 (by omega) (by omega)
    have hc := hcmp2 m (by omega) (by omega)
    have up := up i m hi (by omega) (by omega)
    have down := down m (by omega) (by omega)
    obtain ⟨q, hq⟩ : ∃ q, q = cmpI (cat l m.toNat).1 n := ⟨_, rfl⟩
    rw [← hq] at hc up down
    cbv
    rw [← hm]
    refine ⟨hk.ndI (show (0 : Int) ≤ 1 by decide), hk.ndI ⟨by omega, by omega⟩, ?_⟩
    refine hk.call1 (hc _) ?_
    cbv
    split
    · rename_i h1
      cbv
      refine hb (m + 1, j) _ ⟨by simp only []; omega, by simp only []; omega, hj, up h1, hhi⟩ (by simp only []; omega) (Gh.tm ?_)
      repeat (first | exact Holds.nil _ _ | refine Holds.cons (Wk.refl _ _) ?_ | refine Holds.cons (Wk.of_eq (by rw [← hadd]; rfl)) ?_)
    · rename_i h1
      cbv
      refine hb (i, m) _ ⟨hi, hm1, by simp only []; omega, hlo, down h1⟩ (by simp only []; omega) (Gh.tm ?_)
      repeat (first | exact Holds.nil _ _ | refine Holds.cons (Wk.refl _ _) ?_ | refine Holds.cons (Wk.of_eq (by rw [← hadd]; rfl)) ?_)
  · rename_i hlt
    rw [hk.c2_lss, decide_eq_false_iff_not] at hlt
    have e : i = j := by omega
    subst e
    have hir := fin1 i hi hj hlo hhi
    have fin2 := fin2 (hk.add64 0 0 (by decide) (by decide)) i hir
    have fin3 := fin3 i hir
    have hc := hcmp2 i hi
    obtain ⟨q, hq⟩ : ∃ q, q = cmpI (cat l i.toNat).1 n := ⟨_, rfl⟩
    rw [← hq] at fin2 hc
    cbv
    refine hx _ _ ?_
    cbv
    split
    · rename_i h1
      have h1' := h1
      rw [hk.c2_lss, decide_eq_true_eq] at h1'
      cbv
      refine ⟨hk.ndI ⟨hi, h1'⟩, ?_⟩
      refine hk.call1 (hc h1' _) ?_
      cbv
      rw [fin2 h1, hir]
      exact hk.fin0 rfl rfl (Wk.refl _ _)
    · rename_i h1
      cbv
      rw [hir, fin3 h1]
      exact hk.fin0 rfl rfl (Wk.refl _ _)
end Go.Proofs.Ytnkaagbepppodaa
