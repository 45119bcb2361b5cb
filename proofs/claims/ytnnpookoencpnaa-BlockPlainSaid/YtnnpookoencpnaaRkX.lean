/-
  Contracts of functions of the program, proved over the abstract machine of the Al texts.
-/
import Derived.Test.YtnnpookoencpnaaTryTab
import Derived.Test.YtnnpookoencpnaaAl4
import Derived.Test.YtnnpookoencpnaaBase
set_option maxHeartbeats 1000000
set_option linter.unusedSimpArgs false
set_option linter.unusedVariables false
open Go Go.AL
namespace Go.Proofs.Ytnnpookoencpnaa
/-! ### Lists -/
/-- 0 to n - 1. -/
def rangeI (n : Nat) : List Int := (List.range n).map fun i : Nat => (i : Int)
theorem rangeI_len (n : Nat) : (rangeI n).length = n := by simp [rangeI]
theorem rangeI_get (n i : Nat) (h : i < n) : (rangeI n).getD i 0 = i := by simp [rangeI, List.getD, h]
theorem mem_rangeI {n : Nat} {x : Int} : x ∈ rangeI n ↔ 0 ≤ x ∧ x < n := by
  simp only [rangeI, List.mem_map, List.mem_range]
  constructor
  · rintro ⟨a, h, rfl⟩; omega
  · rintro ⟨h1, h2⟩; exact ⟨x.toNat, by omega, by omega⟩
theorem mem_getD {l : List Int} {x : Int} : x ∈ l ↔ ∃ i, i < l.length ∧ l.getD i 0 = x := by
  rw [List.mem_iff_getElem]
  constructor
  · rintro ⟨i, h, rfl⟩; exact ⟨i, h, by simp [List.getD, h]⟩
  · rintro ⟨i, h, rfl⟩; exact ⟨i, h, by simp [List.getD, h]⟩
theorem list_ext {l m : List Int} (h1 : l.length = m.length) (h2 : ∀ i, i < l.length → l.getD i 0 = m.getD i 0) : l = m := by
  refine List.ext_getElem h1 fun i hi hi' => ?_
  have := h2 i hi
  simpa [List.getD, hi, hi'] using this
/-! ### Contracts of the smallest -/
theorem has_spec (l : List Int) (n : Int) (h : Heap) (hl : l.length ≤ 9223372036854775807) : Does PP 64 [LI l, I n] h (Is (.bool (decide (n ∈ l))) h) := by
  obtain ⟨b, hb0⟩ : ∃ b, b = decide (n ∈ l) := ⟨_, rfl⟩
  rw [← hb0]
  refine doesF P_ok Try.f64 (by kernel_rfl) (by kernel_rfl) ?_
  intro i2 c2 u1 cv mx mn ad sbt bn bq ba lnI gtI apI sbI stI rpI lnG gtG apG sbG stG rpG fi fb fs fl fg fc sln sgt sap ssb sc b2s s2b nd call calld callv callvd loop rfun fin hk
  have hn := hk.lnI_nn l
  have hl := hk.lnI_le l 9223372036854775807 (by omega)
  cbv
  refine hk.loopI (loop_rule (α := Int) (fun i => [(0, .ls (.il .i64 l) .any), (1, .int .i64 n), (4, .bool false), (7, .int .i64 (lnI l)), (8, .int .i64 i)]) (fun i => h)
    (fun i => 0 ≤ i ∧ i ≤ lnI l ∧ ∀ j, j < i.toNat → l.getD j 0 ≠ n) (fun i => (lnI l - i).toNat) 0 ⟨by omega, by omega, upto_zero⟩ ?_ ?_)
  · exact Gh.tm (by repeat (first | exact Holds.nil _ _ | refine Holds.cons (Wk.refl _ _) ?_))
  intro i ⟨hi, hi2, hi3⟩ Q' hb hx hr
  cbv
  split
  · rename_i hlt
    rw [hk.c2_lss, decide_eq_true_eq] at hlt
    refine ⟨hk.idx hi hlt, ?_⟩
    have hil := hk.lt_lnI l i hi hlt
    have hg := hk.gtI_eq l i
    cbv
    split
    · rename_i he
      rw [hk.c2_eql, decide_eq_true_eq, hg] at he
      refine hr _ ?_
      cbv
      exact hk.fin1 (congrArg _ (by rw [hb0, eq_comm, decide_eq_true_eq]; exact mem_getD.2 ⟨i.toNat, hil, he⟩))
    · rename_i he
      rw [hk.c2_eql, decide_eq_false_iff_not, hg] at he
      refine hb (i + 1) _ ⟨by omega, by omega, upto_step hi hi3 he⟩ (by omega) ?_
      refine Gh.tm ?_
      repeat' (first | exact Holds.nil _ _ | refine Holds.cons (Wk.refl _ _) ?_ | refine Holds.cons (Wk.of_eq ?_) ?_)
      all_goals first
        | (rw [← hk.add64 i 1 (by omega) (by omega)]; rfl)
        | rfl
        | skip
  · rename_i hge
    rw [hk.c2_lss, decide_eq_false_iff_not] at hge
    have hlen := hk.lnI_toNat l
    refine hx _ _ ?_
    cbv
    exact hk.fin1 (congrArg _ (by
      rw [hb0, eq_comm, decide_eq_false_iff_not]
      intro hm
      obtain ⟨j, hj, he⟩ := mem_getD.1 hm
      exact hi3 j (by omega) he))
theorem same_spec (a b : List Int) (h : Heap) (ha : a.length ≤ 9223372036854775807) (hb : b.length ≤ 9223372036854775807) : Does PP 16 [LI a, LI b] h (Is (.bool (decide (a = b))) h) := by
  obtain ⟨r, hr0⟩ : ∃ r, r = decide (a = b) := ⟨_, rfl⟩
  rw [← hr0]
  refine doesF P_ok Try.f16 (by kernel_rfl) (by kernel_rfl) ?_
  intro i2 c2 u1 cv mx mn ad sbt bn bq ba lnI gtI apI sbI stI rpI lnG gtG apG sbG stG rpG fi fb fs fl fg fc sln sgt sap ssb sc b2s s2b nd call calld callv callvd loop rfun fin hk
  have hn := hk.lnI_nn a
  have hl := hk.lnI_le a 9223372036854775807 (by omega)
  have hlen : lnI a = lnI b ↔ a.length = b.length := by rw [hk.lnI_eq, hk.lnI_eq]; omega
  cbv
  split
  · rename_i h1
    rw [hk.c2_neq, decide_eq_true_eq, ne_eq, hlen] at h1
    cbv
    exact hk.fin1 (congrArg _ (by rw [hr0, eq_comm, decide_eq_false_iff_not]; exact fun e => h1 (congrArg List.length e)))
  · rename_i h1
    rw [hk.c2_neq, decide_eq_false_iff_not, ne_eq, Classical.not_not] at h1
    have h2 := hlen.1 h1
    cbv
    refine hk.loopI (loop_rule (α := Int) (fun i => [(0, .ls (.il .i64 a) .any), (1, .ls (.il .i64 b) .any), (4, .bool false), (12, .int .i64 (lnI a)), (13, .int .i64 i)]) (fun i => h)
      (fun i => 0 ≤ i ∧ i ≤ lnI a ∧ ∀ j, j < i.toNat → a.getD j 0 = b.getD j 0) (fun i => (lnI a - i).toNat) 0 ⟨by omega, by omega, upto_zero⟩ ?_ ?_)
    · exact Gh.tm (by repeat (first | exact Holds.nil _ _ | refine Holds.cons (Wk.refl _ _) ?_))
    intro i ⟨hi, hi2, hi3⟩ Q' hb hx hr
    cbv
    split
    · rename_i hlt
      rw [hk.c2_lss, decide_eq_true_eq] at hlt
      refine ⟨hk.idx hi hlt, hk.idx hi (show i < lnI b by omega), ?_⟩
      have hil := hk.lt_lnI a i hi hlt
      have hga := hk.gtI_eq a i
      have hgb := hk.gtI_eq b i
      cbv
      split
      · rename_i he
        rw [hk.c2_neq, decide_eq_true_eq, hga, hgb] at he
        refine hr _ ?_
        cbv
        exact hk.fin1 (congrArg _ (by rw [hr0, eq_comm, decide_eq_false_iff_not]; intro e; exact he (by rw [e])))
      · rename_i he
        rw [hk.c2_neq, decide_eq_false_iff_not, hga, hgb, ne_eq, Classical.not_not] at he
        refine hb (i + 1) _ ⟨by omega, by omega, upto_step hi hi3 he⟩ (by omega) ?_
        refine Gh.tm ?_
        repeat' (first | exact Holds.nil _ _ | refine Holds.cons (Wk.refl _ _) ?_ | refine Holds.cons (Wk.of_eq ?_) ?_)
        all_goals first
          | (rw [← hk.add64 i 1 (by omega) (by omega)]; rfl)
          | rfl
          | skip
    · rename_i hge
      rw [hk.c2_lss, decide_eq_false_iff_not] at hge
      have hlen := hk.lnI_toNat a
      refine hx _ _ ?_
      cbv
      exact hk.fin1 (congrArg _ (by
        rw [hr0, eq_comm, decide_eq_true_eq]
        exact list_ext h2 fun j hj => hi3 j (by omega)))
theorem count_spec (n : Int) (h : Heap) : Does PP 65 [I n] h (Is (.bool (decide (1 ≤ n) && decide (n ≤ 8))) h) := by
  obtain ⟨r, hr0⟩ : ∃ r, r = (decide (1 ≤ n) && decide (n ≤ 8)) := ⟨_, rfl⟩
  rw [← hr0]
  refine doesF P_ok Try.f65 (by kernel_rfl) (by kernel_rfl) ?_
  intro i2 c2 u1 cv mx mn ad sbt bn bq ba lnI gtI apI sbI stI rpI lnG gtG apG sbG stG rpG fi fb fs fl fg fc sln sgt sap ssb sc b2s s2b nd call calld callv callvd loop rfun fin hk
  cbv
  split
  · rename_i h1
    rw [hk.c2_geq, decide_eq_true_eq] at h1
    cbv
    exact hk.fin1 (congrArg _ (by rw [hr0, hk.c2_leq]; simp [h1]))
  · rename_i h1
    rw [hk.c2_geq, decide_eq_false_iff_not] at h1
    cbv
    exact hk.fin1 (congrArg _ (by rw [hr0]; simp; omega))
end Go.Proofs.Ytnnpookoencpnaa
set_option maxHeartbeats 1000000
set_option linter.unusedSimpArgs false
set_option linter.unusedVariables false
open Go Go.AL
namespace Go.Proofs.Ytnnpookoencpnaa
/-- An order. -/
def Order (l : List Int) : Prop := 1 ≤ l.length ∧ l.length ≤ 8 ∧ ∀ i : Nat, i < l.length → (i : Int) ∈ l
open Classical in
noncomputable def orderB (l : List Int) : Bool := decide (Order l)
theorem orderB_iff (l : List Int) : orderB l = true ↔ Order l := by simp [orderB]
theorem refGood_spec (l : List Int) (h : Heap) (hl : l.length ≤ 9223372036854775807) : Does PP 25 [LI l] h (Is (.bool (orderB l)) h) := by
  obtain ⟨b, hb0⟩ : ∃ b, b = orderB l := ⟨_, rfl⟩
  have hbt : b = true ↔ Order l := by rw [hb0]; exact orderB_iff l
  rw [← hb0]
  have hhas := fun n => has_spec l n h hl
  refine doesF P_ok Try.f25 (by kernel_rfl) (by kernel_rfl) ?_
  intro i2 c2 u1 cv mx mn ad sbt bn bq ba lnI gtI apI sbI stI rpI lnG gtG apG sbG stG rpG fi fb fs fl fg fc sln sgt sap ssb sc b2s s2b nd call calld callv callvd loop rfun fin hk
  have hn := hk.lnI_nn l
  have hlt2 := hk.lnI_le l 9223372036854775807 (by omega)
  have hlen := hk.lnI_eq l
  have hb1 : b = (decide (1 ≤ lnI l) && decide (lnI l ≤ 8)) ∨ ¬ ∀ i : Nat, i < l.length → (i : Int) ∈ l := by
    by_cases h : ∀ i : Nat, i < l.length → (i : Int) ∈ l
    · left
      rw [Bool.eq_iff_iff, hbt]
      simp only [Order, Bool.and_eq_true, decide_eq_true_eq, hlen]
      constructor
      · rintro ⟨h1, h2, _⟩; exact ⟨by omega, by omega⟩
      · rintro ⟨h1, h2⟩; exact ⟨by omega, by omega, h⟩
    · exact .inr h
  have hnot : ∀ i : Int, 0 ≤ i → i < lnI l → ¬ i ∈ l → b = false := fun i h0 h1 h2 => by
    rw [Bool.eq_false_iff, ne_eq, hbt]
    intro ho
    have := ho.2.2 i.toNat (by omega)
    rw [show ((i.toNat : Nat) : Int) = i by omega] at this
    exact h2 this
  have hall : (∀ j, j < l.length → (j : Int) ∈ l) → b = (decide (1 ≤ lnI l) && decide (lnI l ≤ 8)) := fun h => hb1.resolve_right fun h' => h' h
  have hall : (∀ j, j < (lnI l).toNat → (j : Int) ∈ l) → b = (decide (1 ≤ lnI l) && decide (lnI l ≤ 8)) := fun h => hall fun j hj => h j (by rw [hk.lnI_toNat]; exact hj)
  obtain ⟨mem, hmem⟩ : ∃ mem : Int → Prop, ∀ n, mem n ↔ n ∈ l := ⟨_, fun n => Iff.rfl⟩
  have hall : (∀ j, j < (lnI l).toNat → ∀ i : Int, i.toNat = j → 0 ≤ i → mem i) → b = (decide (1 ≤ lnI l) && decide (lnI l ≤ 8)) := fun h => hall fun j hj => (hmem _).1 (h j hj j (by omega) (by omega))
  have hnot : ∀ i : Int, 0 ≤ i → i < lnI l → ¬ mem i → b = false := fun i h0 h1 h2 => hnot i h0 h1 (by rwa [hmem] at h2)
  obtain ⟨hasb, hhasb⟩ : ∃ hasb : Int → Bool, ∀ n, hasb n = decide (n ∈ l) := ⟨_, fun n => rfl⟩
  have hhas : ∀ n, Does PP 64 [LI l, I n] h (Is (.bool (hasb n)) h) := fun n => by rw [hhasb]; exact hhas n
  have hhm : ∀ n, hasb n = true ↔ mem n := fun n => by rw [hhasb, hmem, decide_eq_true_eq]
  clear hhasb hmem hb1 hb0 hbt
  cbv
  refine hk.loopI (loop_rule (α := Int) (fun i => [(0, .ls (.il .i64 l) .any), (2, .bool false), (3, .int .i64 i)]) (fun i => h)
    (fun i => 0 ≤ i ∧ i ≤ lnI l ∧ ∀ j, j < i.toNat → ∀ i : Int, i.toNat = j → 0 ≤ i → mem i) (fun i => (lnI l - i).toNat) 0 ⟨by omega, by omega, upto_zero⟩ ?_ ?_)
  · exact Gh.tm (by repeat (first | exact Holds.nil _ _ | refine Holds.cons (Wk.refl _ _) ?_))
  intro i ⟨hi, hi2, hi3⟩ Q' hb hx hr
  cbv
  split
  · rename_i hlt
    rw [hk.c2_lss, decide_eq_true_eq] at hlt
    cbv
    refine hk.call1 (hhas i) ?_
    cbv
    have hbf : bn false = true := by rw [hk.bn_eq]; rfl
    have hbt : bn true = false := by rw [hk.bn_eq]; rfl
    obtain ⟨t, ht⟩ : ∃ t, t = hasb i := ⟨_, rfl⟩
    have hhm := hhm i
    rw [← ht] at hhm ⊢
    cases t
    · rw [hbf]
      cbv
      refine hr _ ?_
      cbv
      exact hk.fin1 (congrArg _ (hnot i hi hlt (by rw [← hhm]; decide)).symm)
    · rw [hbt]
      cbv
      refine hb (i + 1) _ ⟨by omega, by omega, upto_step hi hi3 (fun i' h1 h2 => by rw [show i' = i by omega]; exact hhm.1 rfl)⟩ (by omega) ?_
      refine Gh.tm ?_
      repeat' (first | exact Holds.nil _ _ | refine Holds.cons (Wk.refl _ _) ?_ | refine Holds.cons (Wk.of_eq ?_) ?_)
      all_goals first
        | (rw [← hk.add64 i 1 (by omega) (by omega)]; rfl)
        | rfl
        | skip
  · rename_i hge
    rw [hk.c2_lss, decide_eq_false_iff_not] at hge
    have hi4 : i = lnI l := by omega
    subst hi4
    have hb2 := hall hi3
    refine hx _ _ ?_
    cbv
    split
    · rename_i h1
      rw [hk.c2_geq, decide_eq_true_eq] at h1
      cbv
      exact hk.fin1 (congrArg _ (by rw [hb2, hk.c2_leq]; simp; omega))
    · rename_i h1
      rw [hk.c2_geq, decide_eq_false_iff_not] at h1
      cbv
      exact hk.fin1 (congrArg _ (by rw [hb2]; simp; omega))
end Go.Proofs.Ytnnpookoencpnaa
set_option maxHeartbeats 4000000
set_option maxRecDepth 20000
set_option linter.unusedSimpArgs false
set_option linter.unusedVariables false
open Go Go.AL
namespace Go.Proofs.Ytnnpookoencpnaa
/-! ### Sorting by insertion: the plain part -/
structure OJ (l L : List Int) (i : Int) : Prop where
  len : L.length = l.length
  perm : L.Perm l
  i1 : 1 ≤ i
  srt : ∀ a b, a < b → b < i.toNat → L.getD a 0 ≤ L.getD b 0
structure IJ (l L : List Int) (i j : Int) : Prop where
  len : L.length = l.length
  perm : L.Perm l
  j0 : 0 ≤ j
  ji : j ≤ i
  il : i.toNat < l.length
  srt : ∀ a b, a < b → b ≤ i.toNat → a ≠ j.toNat → b ≠ j.toNat → L.getD a 0 ≤ L.getD b 0
  low : ∀ b, j.toNat < b → b ≤ i.toNat → L.getD j.toNat 0 ≤ L.getD b 0
theorem OJ.start (l : List Int) : OJ l l 1 := ⟨rfl, .refl _, Int.le_refl _, fun a b h1 h2 => by simp at h2; omega⟩
theorem OJ.inner {l L : List Int} {i : Int} (h : OJ l L i) (hi : i.toNat < l.length) : IJ l L i i :=
  ⟨h.len, h.perm, by have := h.i1; omega, Int.le_refl _, hi, fun a b h1 h2 h3 h4 => h.srt a b h1 (by omega), fun b h1 h2 => by omega⟩
def swp (L : List Int) (j : Int) : List Int := (L.set j.toNat (L.getD (j - 1).toNat 0)).set (j - 1).toNat (L.getD j.toNat 0)
theorem swp_get {L : List Int} {j : Int} (hj : 0 < j) (hl : j.toNat < L.length) (a : Nat) : (swp L j).getD a 0 = if a = j.toNat then L.getD (j - 1).toNat 0 else if a = (j - 1).toNat then L.getD j.toNat 0 else L.getD a 0 := by
  unfold swp
  simp only [List.getD, List.getElem?_set, List.length_set]
  by_cases h1 : a = j.toNat
  · subst h1
    rw [if_neg (by omega), if_pos rfl, if_pos hl, if_pos rfl]
    rfl
  · by_cases h2 : a = (j - 1).toNat
    · subst h2
      rw [if_pos rfl, if_pos (by omega), if_neg h1, if_pos rfl]
      rfl
    · rw [if_neg (Ne.symm h2), if_neg (Ne.symm h1), if_neg h1, if_neg h2]
theorem swp_perm {L : List Int} {j : Int} (hj : 0 < j) (hl : j.toNat < L.length) : (swp L j).Perm L := by
  have h2 : (j - 1).toNat < L.length := by omega
  have := List.set_set_perm (i := j.toNat) (j := (j - 1).toNat) hl h2
  unfold swp
  have h3 : j.toNat - 1 < L.length := by omega
  simpa [List.getD, hl, h2, h3] using this
theorem IJ.step {l L : List Int} {i j : Int} (h : IJ l L i j) (hj : 0 < j) (hlt : L.getD j.toNat 0 < L.getD (j - 1).toNat 0) : IJ l (swp L j) i (j - 1) := by
  have hl : j.toNat < L.length := by have := h.il; have := h.ji; have := h.len; omega
  have g := swp_get hj hl
  refine ⟨by have := h.len; simp [swp, this], (swp_perm hj hl).trans h.perm, by omega, by have := h.ji; omega, h.il, fun a b h1 h2 h3 h4 => ?_, fun b h1 h2 => ?_⟩
  · rw [g, g]
    by_cases ha : a = j.toNat
    · subst ha
      rw [if_pos rfl, if_neg (by omega), if_neg h4]
      exact h.srt _ b (by omega) h2 (by omega) (by omega)
    · rw [if_neg ha, if_neg h3]
      by_cases hb : b = j.toNat
      · subst hb
        rw [if_pos rfl]
        exact h.srt a _ (by omega) (by have := h.ji; omega) ha (by omega)
      · rw [if_neg hb, if_neg h4]
        exact h.srt a b h1 h2 ha hb
  · rw [g, g, if_neg (by omega), if_pos rfl]
    by_cases hb : b = j.toNat
    · rw [if_pos hb]; omega
    · rw [if_neg hb, if_neg (by omega)]
      exact h.low b (by omega) h2
theorem IJ.stop {l L : List Int} {i j : Int} (h : IJ l L i j) (he : j ≤ 0 ∨ ¬ L.getD j.toNat 0 < L.getD (j - 1).toNat 0) : OJ l L (i + 1) := by
  have := h.j0
  have := h.ji
  refine ⟨h.len, h.perm, by omega, fun a b h1 h2 => ?_⟩
  by_cases ha : a = j.toNat
  · subst ha; exact h.low b h1 (by omega)
  · by_cases hb : b = j.toNat
    · subst hb
      rcases he with he | he
      · omega
      · by_cases h3 : a = (j - 1).toNat
        · subst h3; omega
        · have := h.srt a (j - 1).toNat (by omega) (by omega) ha (by omega)
          omega
    · exact h.srt a b h1 (by omega) ha hb
/-- Sorted, and the same numbers. -/
structure SortOf (l L : List Int) : Prop where
  perm : L.Perm l
  srt : ∀ a b, a < b → b < l.length → L.getD a 0 ≤ L.getD b 0
theorem OJ.done {l L : List Int} {i : Int} (h : OJ l L i) (hi : l.length ≤ i.toNat) : SortOf l L := ⟨h.perm, fun a b h1 h2 => h.srt a b h1 (by omega)⟩
/-! ### The code -/
theorem nan135_spec (n : Int) (h : Heap) : Does PP 135 [I n] h (Is (.bool false) h) := by
  refine doesF P_ok Try.f135 (by kernel_rfl) (by kernel_rfl) ?_
  intro i2 c2 u1 cv mx mn ad sbt bn bq ba lnI gtI apI sbI stI rpI lnG gtG apG sbG stG rpG fi fb fs fl fg fc sln sgt sap ssb sc b2s s2b nd call calld callv callvd loop rfun fin hk
  cbv
  exact hk.fin1 (congrArg _ (by rw [hk.c2_neq]; simp))
theorem less_spec (a b : Int) (h : Heap) : Does PP 109 [I a, I b] h (Is (.bool (decide (a < b))) h) := by
  obtain ⟨r, hr0⟩ : ∃ r, r = decide (a < b) := ⟨_, rfl⟩
  rw [← hr0]
  refine doesF P_ok Try.f109 (by kernel_rfl) (by kernel_rfl) ?_
  intro i2 c2 u1 cv mx mn ad sbt bn bq ba lnI gtI apI sbI stI rpI lnG gtG apG sbG stG rpG fi fb fs fl fg fc sln sgt sap ssb sc b2s s2b nd call calld callv callvd loop rfun fin hk
  have hbf : bn false = true := by rw [hk.bn_eq]; rfl
  cbv
  refine hk.call1 (nan135_spec a h) ?_
  cbv
  exact hk.fin1 (congrArg _ (by rw [hr0, hk.c2_lss]))
theorem insert_spec (l : List Int) (g : Nat) (n : Int) (hn : n = l.length) (hn12 : n ≤ 12) : Does PP 147 [.sl 0 g 0 n, I 0, I n] [.rw g (.il .i64 l)] (fun r h => ∃ L, SortOf l L ∧ r = .tup [] ∧ h = [.rw g (.il .i64 L)]) := by
  refine doesF P_ok Try.f147 (by kernel_rfl) (by kernel_rfl) ?_
  intro i2 c2 u1 cv mx mn ad sbt bn bq ba lnI gtI apI sbI stI rpI lnG gtG apG sbG stG rpG fi fb fs fl fg fc sln sgt sap ssb sc b2s s2b nd call calld callv callvd loop rfun fin hk
  have hln : ∀ i : Int, 0 ≤ i → i < n → i.toNat < l.length := fun i h1 h2 => by omega
  have hln2 : ∀ i : Int, ¬ i < n → l.length ≤ i.toNat := fun i h1 => by omega
  have hn0 : 0 ≤ n := by omega
  clear hn
  have hbq : Nat.beq g g = true := Nat.beq_refl g
  cbv at hbq
  have h01 : i2 .add .i64 0 1 = 1 := hk.add64 0 1 (by omega) (by omega)
  cbv
  rw [h01]
  refine hk.loopI (loop_rule (α := List Int × Int) (fun x => [(0, .sl 0 g 0 n), (1, .int .i64 0), (2, .int .i64 n), (6, .int .i64 x.2)]) (fun x => [.rw g (.il .i64 x.1)])
    (fun x => OJ l x.1 x.2) (fun x => (n - x.2).toNat) (l, 1) (OJ.start l) ?_ ?_)
  · exact Gh.tm (by repeat (first | exact Holds.nil _ _ | refine Holds.cons (Wk.refl _ _) ?_))
  intro ⟨L, i⟩ hJ Q' hb hx hr
  simp only at hJ
  have hi1 := hJ.i1
  cbv
  split
  · rename_i hlt
    rw [hk.c2_lss, decide_eq_true_eq] at hlt
    cbv
    refine hk.loopI (loop_rule (α := List Int × Int) (fun x => [(0, .sl 0 g 0 n), (1, .int .i64 0), (2, .int .i64 n), (6, .int .i64 i), (7, .int .i64 x.2)]) (fun x => [.rw g (.il .i64 x.1)])
      (fun x => IJ l x.1 i x.2) (fun x => x.2.toNat) (L, i) (hJ.inner (hln i (by omega) hlt)) ?_ ?_)
    · exact Gh.tm (by repeat (first | exact Holds.nil _ _ | refine Holds.cons (Wk.refl _ _) ?_))
    intro ⟨K, j⟩ hK Q2 hb2 hx2 hr2
    simp only at hK
    have hj0 := hK.j0
    have hji := hK.ji
    obtain ⟨jm, hjm⟩ : ∃ jm, jm = j - 1 := ⟨_, rfl⟩
    have hsub := hk.sub64 j 1 (by omega) (by omega)
    rw [← hjm] at hsub
    have hjl : j < n := by omega
    cbv
    split
    · rename_i hgt
      rw [hk.c2_gtr, decide_eq_true_eq] at hgt
      cbv
      repeat (rw [hbq]; cbv)
      have hadz : ∀ x, ad 0 x = x := fun x => by rw [hk.ad_eq]; omega
      have hj1 : nd (.idx j (sbt n 0)) := hk.idx hj0 (by rw [hk.sb_eq]; omega)
      have hj2 : nd (.idx jm (sbt n 0)) := hk.idx (by omega) (by rw [hk.sb_eq]; omega)
      refine ⟨hj1, ?_⟩
      cbv
      repeat (rw [hbq]; cbv)
      rw [hsub]
      refine ⟨hj2, ?_⟩
      cbv
      repeat (rw [hbq]; cbv)
      rw [hadz, hadz]
      have hgj := hk.gtI_eq K j
      have hgj1 := hk.gtI_eq K jm
      obtain ⟨t, ht⟩ : ∃ t, t = decide (gtI K j < gtI K jm) := ⟨_, rfl⟩
      refine hk.calld1 (r := .bool t) (fun _ => by rw [ht]; exact less_spec _ _ _) ?_
      rw [hgj, hgj1] at ht
      cases t
      · have ht := of_decide_eq_false ht.symm
        cbv
        refine hx2 _ _ ?_
        cbv
        refine hb (K, i + 1) _ (hK.stop (.inr (by rw [← hjm]; exact ht))) (by simp only; omega) ?_
        refine Gh.tm ?_
        repeat' (first | exact Holds.nil _ _ | refine Holds.cons (Wk.refl _ _) ?_ | refine Holds.cons (Wk.of_eq ?_) ?_)
        all_goals first
          | (rw [← hk.add64 i 1 (by omega) (by omega)]; rfl)
          | rfl
          | skip
      · have ht := of_decide_eq_true ht.symm
        have hsw : stI (stI K j (gtI K jm)) jm (gtI K j) = swp K j := by
          rw [hk.stI_eq, hk.stI_eq, hgj, hgj1, hjm]
          rfl
        cbv
        repeat (rw [hbq]; cbv)
        rw [hsub, hadz, hadz, hsw]
        refine ⟨hj2, hj1, hj1, hj2, hb2 (swp K j, jm) _ (by simp only; rw [hjm]; exact hK.step hgt (by rw [← hjm]; exact ht)) (by simp only; omega) ?_⟩
        refine Gh.tm ?_
        repeat' (first | exact Holds.nil _ _ | refine Holds.cons (Wk.refl _ _) ?_ | refine Holds.cons (Wk.of_eq ?_) ?_)
    · rename_i hgt
      rw [hk.c2_gtr, decide_eq_false_iff_not] at hgt
      cbv
      refine hx2 _ _ ?_
      cbv
      refine hb (K, i + 1) _ (hK.stop (.inl (by omega))) (by simp only; omega) ?_
      refine Gh.tm ?_
      repeat' (first | exact Holds.nil _ _ | refine Holds.cons (Wk.refl _ _) ?_ | refine Holds.cons (Wk.of_eq ?_) ?_)
      all_goals first
        | (rw [← hk.add64 i 1 (by omega) (by omega)]; rfl)
        | rfl
        | skip
  · rename_i hge
    rw [hk.c2_lss, decide_eq_false_iff_not] at hge
    refine hx _ _ ?_
    cbv
    exact hk.finI (fin_same ⟨L, hJ.done (hln2 i hge), rfl, rfl⟩)
/-- How many bits a small number has. -/
def lenf (n : Nat) : Int := if n = 0 then 0 else if n = 1 then 1 else if n < 4 then 2 else if n < 8 then 3 else 4
theorem len_run : ∀ n : Nat, n < 13 → (ex PP T M (fun _ => true) 60).F 113 [.int .u64 n] [] = some (.int .i64 (lenf n), [])
  | 0, _ => by kernel_rfl
  | 1, _ => by kernel_rfl
  | 2, _ => by kernel_rfl
  | 3, _ => by kernel_rfl
  | 4, _ => by kernel_rfl
  | 5, _ => by kernel_rfl
  | 6, _ => by kernel_rfl
  | 7, _ => by kernel_rfl
  | 8, _ => by kernel_rfl
  | 9, _ => by kernel_rfl
  | 10, _ => by kernel_rfl
  | 11, _ => by kernel_rfl
  | 12, _ => by kernel_rfl
  | n + 13, h => by omega
theorem len_spec (n : Int) (h0 : 0 ≤ n) (h1 : n ≤ 12) (h : Heap) : Does PP 113 [.int .u64 n] h (Is (I (lenf n.toNat)) h) := by
  have := pure0 (ex_does P_ok 60 (len_run n.toNat (by omega))) rfl rfl h
  rwa [show ((n.toNat : Nat) : Int) = n by omega] at this
theorem pdq_spec (l : List Int) (g : Nat) (n m : Int) (hn : n = l.length) (hn12 : n ≤ 12) : Does PP 134 [.sl 0 g 0 n, I 0, I n, I m] [.rw g (.il .i64 l)] (fun r h => ∃ L, SortOf l L ∧ r = .tup [] ∧ h = [.rw g (.il .i64 L)]) := by
  have hins := insert_spec l g n hn hn12
  refine doesF P_ok Try.f134 (by kernel_rfl) (by kernel_rfl) ?_
  intro i2 c2 u1 cv mx mn ad sbt bn bq ba lnI gtI apI sbI stI rpI lnG gtG apG sbG stG rpG fi fb fs fl fg fc sln sgt sap ssb sc b2s s2b nd call calld callv callvd loop rfun fin hk
  have hn0 : 0 ≤ n := by omega
  clear hn
  have hsub := hk.sub64 n 0 (by omega) (by omega)
  have hle : c2 .leq (i2 .sub .i64 n 0) 12 = true := by rw [hsub, hk.c2_leq, decide_eq_true_eq]; omega
  cbv
  refine hk.loopI (loop_rule (α := Unit) (fun _ => [(0, .sl 0 g 0 n), (1, .int .i64 0), (2, .int .i64 n), (3, .int .i64 m), (8, .bool true), (9, .bool true)]) (fun _ => [.rw g (.il .i64 l)]) (fun _ => True) (fun _ => 0) () trivial ?_ ?_)
  · exact Gh.tm (by repeat (first | exact Holds.nil _ _ | refine Holds.cons (Wk.refl _ _) ?_))
  intro _ _ Q' hb hx hr
  cbv
  rw [hle]
  cbv
  refine hk.callI hins fun r h ⟨L, h1, h2, h3⟩ => ?_
  subst h2
  subst h3
  cbv
  refine hr _ ?_
  cbv
  exact hk.finI (fin_same ⟨L, h1, rfl, rfl⟩)
theorem wrap_u64 (n : Int) (h0 : 0 ≤ n) (h1 : n < 18446744073709551616) : IntKind.wrap .u64 n = n := by
  have : IntKind.wrap .u64 n = n % 18446744073709551616 := rfl
  rw [this]; omega
theorem sort_spec (l : List Int) (g : Nat) (n : Int) (hn : n = l.length) (hn12 : n ≤ 12) : Does PP 107 [.sl 0 g 0 n] [.rw g (.il .i64 l)] (fun r h => ∃ L, SortOf l L ∧ r = .tup [] ∧ h = [.rw g (.il .i64 L)]) := by
  have hpdq := fun m => pdq_spec l g n m hn hn12
  refine doesF P_ok Try.f107 (by kernel_rfl) (by kernel_rfl) ?_
  intro i2 c2 u1 cv mx mn ad sbt bn bq ba lnI gtI apI sbI stI rpI lnG gtG apG sbG stG rpG fi fb fs fl fg fc sln sgt sap ssb sc b2s s2b nd call calld callv callvd loop rfun fin hk
  have hn0 : 0 ≤ n := by omega
  clear hn
  have hbq : Nat.beq g g = true := Nat.beq_refl g
  cbv at hbq
  cbv
  repeat (rw [hbq]; cbv)
  have hs0 : sbt n 0 = n := by rw [hk.sb_eq]; omega
  have hcv : cv .u64 n = n := by rw [hk.cv_eq]; exact wrap_u64 n hn0 (by omega)
  rw [hs0, hcv]
  obtain ⟨m, hm⟩ : ∃ m, m = lenf n.toNat := ⟨_, rfl⟩
  have hlen := len_spec n hn0 hn12 [.rw g (.il .i64 l)]
  rw [← hm] at hlen
  refine hk.call1 hlen ?_
  cbv
  refine hk.callI (hpdq m) fun r h ⟨L, h1, h2, h3⟩ => ?_
  subst h2
  subst h3
  cbv
  exact hk.finI (fin_same ⟨L, h1, rfl, rfl⟩)
end Go.Proofs.Ytnnpookoencpnaa
set_option maxHeartbeats 4000000
set_option maxRecDepth 20000
set_option linter.unusedSimpArgs false
set_option linter.unusedVariables false
open Go Go.AL
namespace Go.Proofs.Ytnnpookoencpnaa
theorem values_spec (l : List Int) (lp : LoopA) (Hf : Nat → Heap) (n : Nat) (hn : n = l.length) (hl8 : l.length ≤ 8) (h0 : Hf 0 = [.box [LI l], .box [.ls .nl .nil], .loop lp])
    (hy : ∀ k : Nat, k < n → DoesV PP (.yld 2) [I (l.getD k 0)] (Hf k) (Is (.bool true) (Hf (k + 1)))) :
    Does PP 108 [.yld 2, .ptr 0 0] [.box [LI l], .box [.ls .nl .nil], .loop lp] (Is (.tup []) (Hf n)) := by
  refine doesF P_ok Try.f108 (by kernel_rfl) (by kernel_rfl) ?_
  intro i2 c2 u1 cv mx mn ad sbt bn bq ba lnI gtI apI sbI stI rpI lnG gtG apG sbG stG rpG fi fb fs fl fg fc sln sgt sap ssb sc b2s s2b nd call calld callv callvd loop rfun fin hk
  have hlen := hk.lnI_toNat l
  have hnn := hk.lnI_nn l
  have h8 : lnI l ≤ 8 := hk.lnI_le l 8 (by omega)
  cbv
  refine hk.loopI (loop_rule (α := Nat × Int) (fun x => [(0, .yld 2), (5, .ls (.il .i64 l) .any), (6, .int .i64 (lnI l)), (7, .int .i64 x.2)]) (fun x => Hf x.1)
    (fun x => 0 ≤ x.2 ∧ x.2.toNat = x.1 ∧ x.1 ≤ n) (fun x => n - x.1) (0, 0) ⟨by omega, rfl, by simp⟩ ?_ ?_)
  · rw [h0]
    exact Gh.tm (by repeat (first | exact Holds.nil _ _ | refine Holds.cons (Wk.refl _ _) ?_))
  intro ⟨k, i⟩ ⟨hi, hik, hkn⟩ Q' hb hx hr
  simp only at hi hik hkn
  cbv
  split
  · rename_i hlt
    rw [hk.c2_lss, decide_eq_true_eq] at hlt
    refine ⟨hk.idx hi hlt, ?_⟩
    cbv
    have hgi := hk.gtI_eq l i
    rw [hik] at hgi
    have hkl : k < n := by omega
    rw [hgi]
    refine hk.callvI (hy k hkl) fun r h' ⟨e1, e2⟩ => ?_
    subst e1
    subst e2
    have hbt : bn true = false := by rw [hk.bn_eq]; rfl
    cbv
    rw [hbt]
    cbv
    refine hb (k + 1, i + 1) _ ⟨by simp only; omega, by simp only; omega, by simp only; omega⟩ (by simp only; omega) ?_
    refine Gh.tm ?_
    repeat' (first | exact Holds.nil _ _ | refine Holds.cons (Wk.refl _ _) ?_ | refine Holds.cons (Wk.of_eq ?_) ?_)
    all_goals first
      | (rw [← hk.add64 i 1 (by omega) (by omega)]; rfl)
      | rfl
      | skip
  · rename_i hge
    rw [hk.c2_lss, decide_eq_false_iff_not] at hge
    have hkn2 : k = n := by omega
    subst hkn2
    refine hx _ _ ?_
    cbv
    exact hk.fin1 rfl
/-- The heap ahead of round k. -/
def hfA (l : List Int) (lp : LoopA) : Nat → Heap
  | 0 => [.box [LI l], .box [.ls .nl .nil], .loop lp]
  | k + 1 => [.box [LI l], .box [.sl 4 (k + 1) 0 ((k + 1 : Nat) : Int)], .loop lp, .tok 0, .rw (k + 1) (.il .i64 (l.take (k + 1)))]
theorem appendSeq_spec (l : List Int) (n : Nat) (z : Int) (hn : l.length = n + 1) (hz : z = ((n + 1 : Nat) : Int)) (hl8 : l.length ≤ 8) : Does PP 133 [.ls .nl .nil, .clo (.func 108) [] [.ptr 0 0]] [.box [LI l]]
    (Is (.sl 4 (n + 1) 0 z) [.box [LI l], .box [.sl 4 (n + 1) 0 z], .dead 0, .tok 0, .rw (n + 1) (.il .i64 l)]) := by
  refine doesFr (fun _ => true) P_ok Try.f133 (by kernel_rfl) (by kernel_rfl) ?_
  intro i2 c2 u1 cv mx mn ad sbt bn bq ba lnI gtI apI sbI stI rpI lnG gtG apG sbG stG rpG fi fb fs fl fg fc sln sgt sap ssb sc b2s s2b nd call calld callv callvd loop rfun fin hk
  have hlt : l.take (n + 1) = l := by rw [← hn]; exact List.take_length
  cbv
  refine hk.rfunI ⟨108, [], [.ptr 0 0], [(2, .ptr 1 0), (4, .ls .nl .nil)], rfl, ?_, ?_⟩
  · exact fun t e c hg he hv => (Holds.get (by repeat (first | exact Holds.nil _ _ | refine Holds.cons (Wk.refl _ _) ?_)) t) e c hg he hv
  · refine (values_spec l _ (hfA l _) (n + 1) hn.symm hl8 rfl (fun k hk' => ?_)).mono fun r h ⟨e1, e2⟩ => ?_
    · clear hk
      have hkl : k < l.length := by omega
      have htk : l.take (k + 1) = l.take k ++ [l.getD k 0] := by
        rw [List.take_add_one]
        simp [List.getD, hkl]
      cases k with
      | zero =>
        simp only [hfA]
        obtain ⟨x, hx⟩ : ∃ x, x = l.getD 0 0 := ⟨_, rfl⟩
        rw [List.take_zero, List.nil_append, ← hx] at htk
        rw [Nat.zero_add] at htk ⊢
        rw [htk, ← hx]
        refine doesYr P_ok (fun _ => true) 2 _ rfl rfl (by kernel_rfl) ?_
        intro i2 c2 u1 cv mx mn ad sbt bn bq ba lnI gtI apI sbI stI rpI lnG gtG apG sbG stG rpG fi fb fs fl fg fc sln sgt sap ssb sc b2s s2b nd call calld callv callvd loop rfun fin hk
        have ha1 : apI [] [x] = [x] := by rw [hk.apI_eq]; rfl
        have hl1 : lnI [x] = 1 := hk.lnI_eq _
        have hr1 : nd (.room (ad 0 1) 8) := hk.ndI (by rw [hk.ad_eq]; simp [rNd])
        cbv
        rw [ha1, hl1]
        exact ⟨hr1, rfl⟩
      | succ k =>
        simp only [hfA]
        obtain ⟨x, hx⟩ : ∃ x, x = l.getD (k + 1) 0 := ⟨_, rfl⟩
        obtain ⟨K, hK⟩ : ∃ K, K = l.take (k + 1) := ⟨_, rfl⟩
        obtain ⟨i, hi⟩ : ∃ i : Int, i = ((k + 1 : Nat) : Int) := ⟨_, rfl⟩
        have hi2 : ((k + 1 + 1 : Nat) : Int) = i + 1 := by omega
        obtain ⟨i1, hi1⟩ : ∃ i1, i1 = i + 1 := ⟨_, rfl⟩
        have hKl : (K.length : Int) = i := by rw [hK, List.length_take]; omega
        have hi8 : 0 ≤ i ∧ i ≤ 8 := by omega
        rw [htk, hi2, ← hi1, ← hi, ← hK, ← hx]
        clear hi hi2
        obtain ⟨R, hR⟩ : ∃ R : LoopA → AVal → Heap → Prop, R = fun lp r h' => rFin 5 (Is (.bool true) [.box [LI l], .box [.sl 4 (k + 1 + 1) 0 i1], .loop lp, .tok 0, .rw (k + 1 + 1) (.il .i64 (K ++ [x]))]) r h' := ⟨_, rfl⟩
        refine DoesV.fin (R := R _) ?_ (fun r h' h => by rw [hR] at h; exact h)
        refine doesYr P_ok (fun _ => true) 2 _ rfl rfl (by kernel_rfl) ?_
        intro i2 c2 u1 cv mx mn ad sbt bn bq ba lnI gtI apI sbI stI rpI lnG gtG apG sbG stG rpG fi fb fs fl fg fc sln sgt sap ssb sc b2s s2b nd call calld callv callvd loop rfun fin hk
        have hbq : Nat.beq (k + 1) (k + 1) = true := Nat.beq_refl _
        cbv at hbq
        have hlK : lnI K = i := by rw [hk.lnI_eq]; exact hKl
        have hlx : lnI [x] = 1 := hk.lnI_eq _
        have hap : apI K [x] = K ++ [x] := hk.apI_eq _ _
        obtain ⟨K1, hK1⟩ : ∃ K1, K1 = K ++ [x] := ⟨_, rfl⟩
        have hlK1 : lnI K1 = i1 := by rw [hk.lnI_eq, hK1, List.length_append, hi1, ← hKl]; rfl
        have hnd : nd (.appn 0 i i (ad i 1) 8) := hk.ndI (by rw [hk.ad_eq]; exact ⟨rfl, rfl, by omega, by simp; omega, by omega⟩)
        rw [← hK1] at hap
        clear hKl
        cbv
        rw [hbq]
        cbv
        rw [hap, hlK, hlx, hlK1]
        refine ⟨hnd, ?_⟩
        rw [hR]
        exact fin_low (.refl _ _) rfl rfl ⟨rfl, by rw [hK1]; rfl⟩
    · have hfe : ∀ lp, hfA l lp (n + 1) = [.box [LI l], .box [.sl 4 (n + 1) 0 z], .loop lp, .tok 0, .rw (n + 1) (.il .i64 l)] := fun lp => by rw [hz]; simp [hfA, hlt]
      rw [hfe] at e2
      subst e2
      unfold rAfter
      cbv
      exact ⟨fun h => (nomatch h), hk.fin1 rfl⟩
end Go.Proofs.Ytnnpookoencpnaa
set_option maxHeartbeats 4000000
set_option maxRecDepth 20000
set_option linter.unusedSimpArgs false
set_option linter.unusedVariables false
open Go Go.AL
namespace Go.Proofs.Ytnnpookoencpnaa
theorem rz_sl (i g : Nat) (q : LX) (lo hi : Int) : rz i g q (.sl i g lo hi) = .ls (subR q lo hi) .any := by simp [rz]
theorem collect_spec (l : List Int) (n : Nat) (z : Int) (hn : l.length = n + 1) (hz : z = ((n + 1 : Nat) : Int)) (hl8 : l.length ≤ 8) : Does PP 106 [.clo (.func 108) [] [.ptr 0 0]] [.box [LI l]]
    (Is (.sl 4 (n + 1) 0 z) [.box [LI l], .box [.sl 4 (n + 1) 0 z], .dead 0, .tok 0, .rw (n + 1) (.il .i64 l)]) := by
  have hseq := appendSeq_spec l n z hn hz hl8
  refine doesF P_ok Try.f106 (by kernel_rfl) (by kernel_rfl) ?_
  intro i2 c2 u1 cv mx mn ad sbt bn bq ba lnI gtI apI sbI stI rpI lnG gtG apG sbG stG rpG fi fb fs fl fg fc sln sgt sap ssb sc b2s s2b nd call calld callv callvd loop rfun fin hk
  clear hn hz
  cbv
  refine hk.callI hseq fun r h ⟨e1, e2⟩ => ?_
  subst e1
  subst e2
  cbv
  exact hk.fin1 rfl
theorem sorted_spec (l : List Int) (h1 : 1 ≤ l.length) (hl8 : l.length ≤ 8) : Does PP 67 [.clo (.func 108) [] [.ptr 0 0]] [.box [LI l]] (fun r h => ∃ L, SortOf l L ∧ r = LI L ∧ h = [.box [LI l]]) := by
  obtain ⟨n, hn⟩ : ∃ n, l.length = n + 1 := ⟨l.length - 1, by omega⟩
  obtain ⟨z, hz⟩ : ∃ z : Int, z = ((n + 1 : Nat) : Int) := ⟨_, rfl⟩
  have hcol := collect_spec l n z hn hz hl8
  have hsort : Does PP 107 [.sl 4 (n + 1) 0 z] [.box [LI l], .box [.sl 4 (n + 1) 0 z], .dead 0, .tok 0, .rw (n + 1) (.il .i64 l)] (fun r h => ∃ L, SortOf l L ∧ r = .tup [] ∧ h = [.box [LI l], .box [.sl 4 (n + 1) 0 z], .dead 0, .tok 0, .rw (n + 1) (.il .i64 L)]) := by
    refine ((sort_spec l (n + 1) z (by omega) (by omega)).ren [4] [.box [LI l], .box [.sl 4 (n + 1) 0 z], .dead 0, .tok 0, .rw (n + 1) (.il .i64 l)] rfl (by decide) (fun x hx => by rw [List.mem_singleton.1 hx]; show 4 < 5; decide) (by repeat (first | exact trivial | refine ⟨rfl, ?_⟩)) rfl rfl (fun r h ⟨L, h1, h2, h3⟩ => by subst h3; rfl)).mono ?_
    rintro r h ⟨r2, h2, ⟨L, k1, k2, k3⟩, k4, k5⟩
    subst k2
    subst k3
    exact ⟨L, k1, k4, k5⟩
  have hsub : ∀ L, SortOf l L → rSub L 0 z = L := fun L hS => by
    have := hS.perm.length_eq
    unfold rSub
    simp only [Int.toNat_zero, List.drop_zero]
    rw [show (z - 0).toNat = L.length by omega, List.take_length]
  refine doesF P_ok Try.f67 (by kernel_rfl) (by kernel_rfl) ?_
  intro i2 c2 u1 cv mx mn ad sbt bn bq ba lnI gtI apI sbI stI rpI lnG gtG apG sbG stG rpG fi fb fs fl fg fc sln sgt sap ssb sc b2s s2b nd call calld callv callvd loop rfun fin hk
  clear hn hz
  cbv
  refine hk.callI hcol fun r h ⟨e1, e2⟩ => ?_
  subst e1
  subst e2
  cbv
  refine hk.callI hsort fun r h ⟨L, hS, e1, e2⟩ => ?_
  subst e1
  subst e2
  cbv
  refine hk.finI (fin_rz 4 (n + 1) (.il .i64 L) rfl rfl ?_)
  have e : rz 4 (n + 1) (.il .i64 L) (.sl 4 (n + 1) 0 z) = LI L := by
    rw [rz_sl]
    show AVal.ls (.il .i64 (rSub L 0 z)) .any = _
    rw [hsub L hS]
  show rFin _ _ (rz 4 (n + 1) (.il .i64 L) (.sl 4 (n + 1) 0 z)) _
  rw [e]
  exact fin_low (.refl _ _) rfl rfl ⟨L, hS, rfl, rfl⟩
/-- A run's result that is numbers. -/
def isL (m : List Int) : Option (AVal × Heap) → Bool
  | some (.ls (.il .i64 l) _, _) => intsB l m
  | _ => false
theorem isL_ok {m : List Int} {x : Option (AVal × Heap)} (h : isL m x = true) : ∃ c h', x = some (.ls (.il .i64 m) c, h') := by
  unfold isL at h
  split at h
  · rename_i l c h'
    rw [intsB_eq h]
    exact ⟨c, h', rfl⟩
  · cases h
/-- 0 to n - 1, for few. -/
theorem first_run : ∀ n : Nat, 1 ≤ n → n ≤ 8 → isL (rangeI n) ((ex PP T M (fun _ => false) 60).F 69 [I n] []) = true
  | 1, _, _ => by kernel_rfl
  | 2, _, _ => by kernel_rfl
  | 3, _, _ => by kernel_rfl
  | 4, _, _ => by kernel_rfl
  | 5, _, _ => by kernel_rfl
  | 6, _, _ => by kernel_rfl
  | 7, _, _ => by kernel_rfl
  | 8, _, _ => by kernel_rfl
  | n + 9, _, h => by omega
theorem first_spec (n : Nat) (h1 : 1 ≤ n) (h8 : n ≤ 8) (z : Int) (hz : z = n) (h : Heap) : Does PP 69 [I z] h (Is (LI (rangeI n)) h) := by
  obtain ⟨c, h', he⟩ := isL_ok (first_run n h1 h8)
  refine pure0 ?_ rfl rfl h
  subst hz
  exact (ex_does P_ok 60 he).fin fun r h2 ⟨e1, e2⟩ => by
    subst e1
    subst e2
    exact fin_low (.any _ _ _) rfl rfl ⟨rfl, rfl⟩
theorem equal_spec (a b : List Int) (h : Heap) (ha : a.length ≤ 9223372036854775807) (hb : b.length ≤ 9223372036854775807) : Does PP 66 [LI a, LI b] h (Is (.bool (decide (a = b))) h) := by
  obtain ⟨r, hr0⟩ : ∃ r, r = decide (a = b) := ⟨_, rfl⟩
  rw [← hr0]
  refine doesF P_ok Try.f66 (by kernel_rfl) (by kernel_rfl) ?_
  intro i2 c2 u1 cv mx mn ad sbt bn bq ba lnI gtI apI sbI stI rpI lnG gtG apG sbG stG rpG fi fb fs fl fg fc sln sgt sap ssb sc b2s s2b nd call calld callv callvd loop rfun fin hk
  have hn := hk.lnI_nn a
  have hl := hk.lnI_le a 9223372036854775807 (by omega)
  have hlen : lnI a = lnI b ↔ a.length = b.length := by rw [hk.lnI_eq, hk.lnI_eq]; omega
  cbv
  split
  · rename_i h1
    rw [hk.c2_neq, decide_eq_true_eq, ne_eq, hlen] at h1
    cbv
    exact hk.fin1 (congrArg _ (by rw [hr0, eq_comm, decide_eq_false_iff_not]; exact fun e => h1 (congrArg List.length e)))
  · rename_i h1
    rw [hk.c2_neq, decide_eq_false_iff_not, ne_eq, Classical.not_not] at h1
    have h2 := hlen.1 h1
    cbv
    refine hk.loopI (loop_rule (α := Int) (fun i => [(0, .ls (.il .i64 a) .any), (1, .ls (.il .i64 b) .any), (4, .bool false), (12, .int .i64 (lnI a)), (13, .int .i64 i)]) (fun i => h)
      (fun i => 0 ≤ i ∧ i ≤ lnI a ∧ ∀ j, j < i.toNat → a.getD j 0 = b.getD j 0) (fun i => (lnI a - i).toNat) 0 ⟨by omega, by omega, upto_zero⟩ ?_ ?_)
    · exact Gh.tm (by repeat (first | exact Holds.nil _ _ | refine Holds.cons (Wk.refl _ _) ?_))
    intro i ⟨hi, hi2, hi3⟩ Q' hb hx hr
    cbv
    split
    · rename_i hlt
      rw [hk.c2_lss, decide_eq_true_eq] at hlt
      refine ⟨hk.idx hi hlt, hk.idx hi (show i < lnI b by omega), ?_⟩
      have hil := hk.lt_lnI a i hi hlt
      have hga := hk.gtI_eq a i
      have hgb := hk.gtI_eq b i
      cbv
      split
      · rename_i he
        rw [hk.c2_neq, decide_eq_true_eq, hga, hgb] at he
        refine hr _ ?_
        cbv
        exact hk.fin1 (congrArg _ (by rw [hr0, eq_comm, decide_eq_false_iff_not]; intro e; exact he (by rw [e])))
      · rename_i he
        rw [hk.c2_neq, decide_eq_false_iff_not, hga, hgb, ne_eq, Classical.not_not] at he
        refine hb (i + 1) _ ⟨by omega, by omega, upto_step hi hi3 he⟩ (by omega) ?_
        refine Gh.tm ?_
        repeat' (first | exact Holds.nil _ _ | refine Holds.cons (Wk.refl _ _) ?_ | refine Holds.cons (Wk.of_eq ?_) ?_)
        all_goals first
          | (rw [← hk.add64 i 1 (by omega) (by omega)]; rfl)
          | rfl
          | skip
    · rename_i hge
      rw [hk.c2_lss, decide_eq_false_iff_not] at hge
      have hlen := hk.lnI_toNat a
      refine hx _ _ ?_
      cbv
      exact hk.fin1 (congrArg _ (by
        rw [hr0, eq_comm, decide_eq_true_eq]
        exact list_ext h2 fun j hj => hi3 j (by omega)))
theorem vals_spec (l : List Int) : Does PP 68 [LI l] [] (Is (.clo (.func 108) [] [.ptr 0 0]) [.box [LI l]]) := by
  refine doesF P_ok Try.f68 (by kernel_rfl) (by kernel_rfl) ?_
  intro i2 c2 u1 cv mx mn ad sbt bn bq ba lnI gtI apI sbI stI rpI lnG gtG apG sbG stG rpG fi fb fs fl fg fc sln sgt sap ssb sc b2s s2b nd call calld callv callvd loop rfun fin hk
  cbv
  exact hk.fin1 rfl
theorem perm_of_subset : ∀ (a b : List Int), a.Nodup → (∀ x ∈ a, x ∈ b) → b.length ≤ a.length → a.Perm b
  | [], b, _, _, h => by
    have : b = [] := List.eq_nil_of_length_eq_zero (by simpa using h)
    subst this; exact .refl _
  | x :: a, b, hn, hs, h => by
    have hx := hs x (by simp)
    have hp := List.perm_cons_erase hx
    have hl := hp.length_eq
    rw [List.nodup_cons] at hn
    have := perm_of_subset a (b.erase x) hn.2 (fun y hy => (List.mem_erase_of_ne (fun e => hn.1 (by rw [← e]; exact hy))).2 (hs y (by simp [hy]))) (by simp at hl h; omega)
    exact (this.cons x).trans hp.symm
theorem rangeI_nodup (n : Nat) : (rangeI n).Nodup := by
  unfold rangeI List.Nodup
  rw [List.pairwise_map]
  exact (List.nodup_range (n := n)).imp fun h => by omega
theorem rangeI_sorted (n : Nat) : (rangeI n).Pairwise (· ≤ ·) := by
  unfold rangeI
  rw [List.pairwise_map]
  exact (List.pairwise_lt_range (n := n)).imp fun h => by omega
theorem order_perm {l : List Int} (h : ∀ i : Nat, i < l.length → (i : Int) ∈ l) : (rangeI l.length).Perm l :=
  perm_of_subset _ _ (rangeI_nodup _) (fun x hx => by
    obtain ⟨h0, h1⟩ := mem_rangeI.1 hx
    have := h x.toNat (by omega)
    rwa [show ((x.toNat : Nat) : Int) = x by omega] at this) (by rw [rangeI_len]; exact Nat.le_refl _)
theorem SortOf.pairwise {l L : List Int} (h : SortOf l L) : L.Pairwise (· ≤ ·) := by
  rw [List.pairwise_iff_getElem]
  intro i j hi hj hij
  have hl := h.perm.length_eq
  have := h.srt i j hij (by omega)
  simpa [List.getD, hi, hj] using this
/-- Whether numbers are an order, by sorting. -/
theorem order_sorted {l L : List Int} (h : SortOf l L) (h1 : 1 ≤ l.length) (h8 : l.length ≤ 8) : L = rangeI l.length ↔ Order l := by
  constructor
  · intro e
    refine ⟨h1, h8, fun i hi => h.perm.mem_iff.1 ?_⟩
    rw [e]
    exact mem_rangeI.2 ⟨by omega, by omega⟩
  · intro ho
    exact List.Perm.eq_of_pairwise (fun a b _ _ h1 h2 => Int.le_antisymm h1 h2) h.pairwise (rangeI_sorted _) (h.perm.trans (order_perm ho.2.2).symm)
theorem good_spec (l : List Int) (h : Heap) (hl : l.length ≤ 9223372036854775807) : Does PP 27 [LI l] h (Is (.bool (orderB l)) h) := by
  obtain ⟨b, hb0⟩ : ∃ b, b = orderB l := ⟨_, rfl⟩
  have hbt : b = true ↔ Order l := by rw [hb0]; exact orderB_iff l
  rw [← hb0]
  refine pure0 ?_ rfl rfl h
  refine doesF P_ok Try.f27 (by kernel_rfl) (by kernel_rfl) ?_
  intro i2 c2 u1 cv mx mn ad sbt bn bq ba lnI gtI apI sbI stI rpI lnG gtG apG sbG stG rpG fi fb fs fl fg fc sln sgt sap ssb sc b2s s2b nd call calld callv callvd loop rfun fin hk
  have hlen := hk.lnI_eq l
  obtain ⟨t, ht⟩ : ∃ t, t = (decide (1 ≤ lnI l) && decide (lnI l ≤ 8)) := ⟨_, rfl⟩
  have hcount := count_spec (lnI l) []
  rw [← ht] at hcount
  have ht2 : t = true ↔ 1 ≤ l.length ∧ l.length ≤ 8 := by rw [ht, hlen]; simp; omega
  have hfirst : t = true → ∀ h, Does PP 69 [I (lnI l)] h (Is (LI (rangeI l.length)) h) := fun h h' => first_spec _ (ht2.1 h).1 (ht2.1 h).2 _ hlen h'
  have hvals := vals_spec l
  have hsorted : t = true → _ := fun h => sorted_spec l (ht2.1 h).1 (ht2.1 h).2
  have hord : t = true → ∀ L, SortOf l L → (L = rangeI l.length ↔ b = true) := fun h L hS => by rw [hbt]; exact order_sorted hS (ht2.1 h).1 (ht2.1 h).2
  have heq : t = true → ∀ L, SortOf l L → ∀ h, Does PP 66 [LI L, LI (rangeI l.length)] h (Is (.bool b) h) := fun h L hS hp => by
    have h1 := equal_spec L (rangeI l.length) hp (by have := hS.perm.length_eq; omega) (by rw [rangeI_len]; omega)
    have h2 : decide (L = rangeI l.length) = b := by rw [Bool.eq_iff_iff, decide_eq_true_eq]; exact hord h L hS
    rwa [h2] at h1
  obtain ⟨m, hm⟩ : ∃ m, m = rangeI l.length := ⟨_, rfl⟩
  rw [← hm] at hfirst heq
  have hbf : t = false → b = false := fun h => by
    rw [Bool.eq_false_iff, ne_eq, hbt]
    intro ho
    rw [ht2.2 ⟨ho.1, ho.2.1⟩] at h
    cases h
  clear hbt ht ht2 hlen hord hb0
  cbv
  refine hk.call1 hcount ?_
  cases t
  · have hb := hbf rfl
    subst hb
    cbv
    exact hk.fin1 rfl
  · have hfirst := hfirst rfl
    have hsorted := hsorted rfl
    have heq := heq rfl
    cbv
    refine hk.callI hvals fun r h ⟨e1, e2⟩ => ?_
    subst e1
    subst e2
    cbv
    refine hk.callI hsorted fun r h ⟨L, hS, e1, e2⟩ => ?_
    subst e1
    subst e2
    have heq := heq L hS
    cbv
    refine hk.call1 (hfirst _) ?_
    cbv
    refine hk.call1 (heq _) ?_
    cbv
    exact hk.fin0 rfl rfl (.refl _ _)
end Go.Proofs.Ytnnpookoencpnaa
set_option maxHeartbeats 4000000
set_option maxRecDepth 20000
set_option linter.unusedSimpArgs false
set_option linter.unusedVariables false
open Go Go.AL
namespace Go.Proofs.Ytnnpookoencpnaa
/-- The places, of the first k. -/
def plc (l : List Int) : Nat → List Int
  | 0 => List.replicate l.length 0
  | k + 1 => (plc l k).set (l.getD k 0).toNat k
theorem plc_len (l : List Int) : ∀ k, (plc l k).length = l.length
  | 0 => by simp [plc]
  | k + 1 => by simp [plc, plc_len l k]
def places (l : List Int) : List Int := plc l l.length
theorem places_spec (l : List Int) (h : Heap) (h8 : l.length ≤ 8) (hB : ∀ i, i < l.length → 0 ≤ l.getD i 0 ∧ l.getD i 0 < l.length) : Does PP 26 [LI l] h (Is (LI (places l)) h) := by
  obtain ⟨r, hr0⟩ : ∃ r, r = places l := ⟨_, rfl⟩
  rw [← hr0]
  refine pure0 ?_ rfl rfl h
  refine doesF P_ok Try.f26 (by kernel_rfl) (by kernel_rfl) ?_
  intro i2 c2 u1 cv mx mn ad sbt bn bq ba lnI gtI apI sbI stI rpI lnG gtG apG sbG stG rpG fi fb fs fl fg fc sln sgt sap ssb sc b2s s2b nd call calld callv callvd loop rfun fin hk
  have hlen := hk.lnI_eq l
  have hnn := hk.lnI_nn l
  have h8' : lnI l ≤ 8 := hk.lnI_le l 8 (by omega)
  have hB : ∀ i : Int, 0 ≤ i → i < lnI l → 0 ≤ gtI l i ∧ gtI l i < lnI l := fun i h0 h1 => by
    rw [hk.gtI_eq, hlen]
    exact hB _ (by omega)
  have hst : ∀ i : Int, 0 ≤ i → stI (plc l i.toNat) (gtI l i) i = plc l (i + 1).toNat := fun i h0 => by
    rw [hk.stI_eq, hk.gtI_eq, show (i + 1).toNat = i.toNat + 1 by omega]
    simp only [plc]
    rw [show ((i.toNat : Nat) : Int) = i by omega]
  have hrp : rpI (lnI l) 0 = plc l 0 := by rw [hk.rpI_eq, hk.lnI_toNat]; rfl
  have hend : plc l (lnI l).toNat = r := by rw [hk.lnI_toNat, hr0]; rfl
  have hsub : rSub r 0 (lnI l) = r := by
    unfold rSub
    simp only [Int.toNat_zero, List.drop_zero]
    rw [hr0, show (lnI l - 0).toNat = (places l).length by rw [places, plc_len]; omega, List.take_length]
  have hnd : nd (.room (lnI l) 8) := hk.ndI ⟨hnn, by simp; omega, by omega⟩
  obtain ⟨F, hF⟩ : ∃ F : Nat → List Int, F = plc l := ⟨_, rfl⟩
  rw [← hF] at hst hrp hend
  clear hlen
  have hst : ∀ (k : Nat) (i : Int), 0 ≤ i → i.toNat = k → stI (F k) (gtI l i) i = F (k + 1) := fun k i h0 h1 => by
    have := hst i h0
    rw [h1, show (i + 1).toNat = k + 1 by omega] at this
    exact this
  have hend : ∀ k, (lnI l).toNat = k → F k = r := fun k h => by rw [← h]; exact hend
  have hadz : ∀ x, ad 0 x = x := fun x => by rw [hk.ad_eq]; omega
  have hix : ∀ i, 0 ≤ i → i < lnI l → nd (.idx i (sbt (lnI l) 0)) := fun i h0 h1 => hk.idx h0 (by rw [hk.sb_eq]; omega)
  cbv
  refine ⟨hnd, ?_⟩
  refine hk.loopI (loop_rule (α := Nat × Int) (fun x => [(0, .ls (.il .i64 l) .any), (3, .sl 0 0 0 (lnI l)), (9, .ls (.il .i64 l) .any), (10, .int .i64 (lnI l)), (11, .int .i64 x.2)]) (fun x => [.rw 0 (.il .i64 (F x.1))])
    (fun x => 0 ≤ x.2 ∧ x.2 ≤ lnI l ∧ x.2.toNat = x.1) (fun x => (lnI l - x.2).toNat) (0, 0) ⟨by omega, by omega, rfl⟩ ?_ ?_)
  · rw [hrp]
    exact Gh.tm (by repeat (first | exact Holds.nil _ _ | refine Holds.cons (Wk.refl _ _) ?_))
  intro ⟨k, i⟩ ⟨hi, hi2, hik⟩ Q' hb hx hr
  simp only at hi hi2 hik
  cbv
  split
  · rename_i hlt
    rw [hk.c2_lss, decide_eq_true_eq] at hlt
    obtain ⟨c0, c1⟩ := hB i hi hlt
    refine ⟨hk.idx hi hlt, ?_⟩
    have hs := hst k i hi hik
    obtain ⟨c, hc⟩ : ∃ c, c = gtI l i := ⟨_, rfl⟩
    rw [← hc] at c0 c1 hs
    have hixc := hix c c0 c1
    cbv
    rw [← hc, hadz, hs]
    refine ⟨hixc, hb (k + 1, i + 1) _ ⟨by simp only; omega, by simp only; omega, by simp only; omega⟩ (by simp only; omega) ?_⟩
    refine Gh.tm ?_
    repeat' (first | exact Holds.nil _ _ | refine Holds.cons (Wk.refl _ _) ?_ | refine Holds.cons (Wk.of_eq ?_) ?_)
    all_goals first
      | (rw [← hk.add64 i 1 (by omega) (by omega)]; rfl)
      | rfl
      | skip
  · rename_i hge
    rw [hk.c2_lss, decide_eq_false_iff_not] at hge
    have hi4 : i = lnI l := by omega
    subst hi4
    have he := hend k hik
    refine hx _ _ ?_
    cbv
    rw [he]
    refine hk.finI (fin_rz 0 0 (.il .i64 r) rfl rfl ?_)
    have e : rz 0 0 (.il .i64 r) (.sl 0 0 0 (lnI l)) = LI r := by
      rw [rz_sl]
      show AVal.ls (.il .i64 (rSub r 0 (lnI l))) .any = _
      rw [hsub]
    show rFin _ _ (rz 0 0 (.il .i64 r) (.sl 0 0 0 (lnI l))) _
    rw [e]
    exact fin_low (.refl _ _) rfl rfl ⟨rfl, rfl⟩
end Go.Proofs.Ytnnpookoencpnaa
