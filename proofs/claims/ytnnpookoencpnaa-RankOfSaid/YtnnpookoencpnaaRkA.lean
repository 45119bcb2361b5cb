/-
  Contracts of functions of the program, proved over the abstract machine of the Al texts.
-/
import Derived.Test.YtnnpookoencpnaaTryTab
import Derived.Test.YtnnpookoencpnaaAlExec
import Derived.Test.YtnnpookoencpnaaAlRen
set_option maxHeartbeats 1000000
set_option linter.unusedSimpArgs false
set_option linter.unusedVariables false
open Go Go.AL
namespace Go.Proofs.Ytnnpookoencpnaa
abbrev LI (l : List Int) : AVal := .ls (.il .i64 l) .any
abbrev I (n : Int) : AVal := .int .i64 n
/-! ### Lists -/
/-- 0 to n - 1. -/
def rangeI (n : Nat) : List Int := (List.range n).map fun i : Nat => (i : Int)
theorem rangeI_len (n : Nat) : (rangeI n).length = n := by simp [rangeI]
theorem rangeI_get (n i : Nat) (h : i < n) : (rangeI n).getD i 0 = i := by simp [rangeI, List.getD, h]
theorem mem_rangeI {n : Nat} {x : Int} : x ∈ rangeI n ↔ 0 ≤ x ∧ x < n := by
  simp only [rangeI, List.mem_map, List.mem_range]
  constructor
  · rintro ⟨a, h, rfl⟩; omega
  · rintro ⟨h1, h2⟩; exact ⟨x.toNat, by omega, by omega⟩
theorem mem_getD {l : List Int} {x : Int} : x ∈ l ↔ ∃ i, i < l.length ∧ l.getD i 0 = x := by
  rw [List.mem_iff_getElem]
  constructor
  · rintro ⟨i, h, rfl⟩; exact ⟨i, h, by simp [List.getD, h]⟩
  · rintro ⟨i, h, rfl⟩; exact ⟨i, h, by simp [List.getD, h]⟩
theorem list_ext {l m : List Int} (h1 : l.length = m.length) (h2 : ∀ i, i < l.length → l.getD i 0 = m.getD i 0) : l = m := by
  refine List.ext_getElem h1 fun i hi hi' => ?_
  have := h2 i hi
  simpa [List.getD, hi, hi'] using this
/-! ### Contracts of the smallest -/
theorem has_spec (l : List Int) (n : Int) (h : Heap) (hl : l.length ≤ 9223372036854775807) : Does PP 64 [LI l, I n] h (Is (.bool (decide (n ∈ l))) h) := by
  obtain ⟨b, hb0⟩ : ∃ b, b = decide (n ∈ l) := ⟨_, rfl⟩
  rw [← hb0]
  refine doesF P_ok Try.f64 (by kernel_rfl) (by kernel_rfl) ?_
  intro i2 c2 u1 cv mx mn ad sbt bn bq ba lnI gtI apI sbI stI rpI lnG gtG apG sbG stG rpG fi fb fs fl fg fc sln sgt sap ssb sc b2s s2b nd call calld callv callvd loop rfun fin hk
  have hn := hk.lnI_nn l
  have hl := hk.lnI_le l 9223372036854775807 (by omega)
  cbv
  refine hk.loopI (loop_rule (α := Int) (fun i => [(0, .ls (.il .i64 l) .any), (1, .int .i64 n), (4, .bool false), (7, .int .i64 (lnI l)), (8, .int .i64 i)]) (fun i => h)
    (fun i => 0 ≤ i ∧ i ≤ lnI l ∧ ∀ j, j < i.toNat → l.getD j 0 ≠ n) (fun i => (lnI l - i).toNat) 0 ⟨by omega, by omega, upto_zero⟩ ?_ ?_)
  · exact Gh.tm (by repeat (first | exact Holds.nil _ _ | refine Holds.cons (Wk.refl _ _) ?_))
  intro i ⟨hi, hi2, hi3⟩ Q' hb hx hr
  cbv
  split
  · rename_i hlt
    rw [hk.c2_lss, decide_eq_true_eq] at hlt
    refine ⟨hk.idx hi hlt, ?_⟩
    have hil := hk.lt_lnI l i hi hlt
    have hg := hk.gtI_eq l i
    cbv
    split
    · rename_i he
      rw [hk.c2_eql, decide_eq_true_eq, hg] at he
      refine hr _ ?_
      cbv
      exact hk.fin1 (congrArg _ (by rw [hb0, eq_comm, decide_eq_true_eq]; exact mem_getD.2 ⟨i.toNat, hil, he⟩))
    · rename_i he
      rw [hk.c2_eql, decide_eq_false_iff_not, hg] at he
      refine hb (i + 1) _ ⟨by omega, by omega, upto_step hi hi3 he⟩ (by omega) ?_
      refine Gh.tm ?_
      repeat' (first | exact Holds.nil _ _ | refine Holds.cons (Wk.refl _ _) ?_ | refine Holds.cons (Wk.of_eq ?_) ?_)
      all_goals first
        | (rw [← hk.add64 i 1 (by omega) (by omega)]; rfl)
        | rfl
        | skip
  · rename_i hge
    rw [hk.c2_lss, decide_eq_false_iff_not] at hge
    have hlen := hk.lnI_toNat l
    refine hx _ _ ?_
    cbv
    exact hk.fin1 (congrArg _ (by
      rw [hb0, eq_comm, decide_eq_false_iff_not]
      intro hm
      obtain ⟨j, hj, he⟩ := mem_getD.1 hm
      exact hi3 j (by omega) he))
theorem same_spec (a b : List Int) (h : Heap) (ha : a.length ≤ 9223372036854775807) (hb : b.length ≤ 9223372036854775807) : Does PP 16 [LI a, LI b] h (Is (.bool (decide (a = b))) h) := by
  obtain ⟨r, hr0⟩ : ∃ r, r = decide (a = b) := ⟨_, rfl⟩
  rw [← hr0]
  refine doesF P_ok Try.f16 (by kernel_rfl) (by kernel_rfl) ?_
  intro i2 c2 u1 cv mx mn ad sbt bn bq ba lnI gtI apI sbI stI rpI lnG gtG apG sbG stG rpG fi fb fs fl fg fc sln sgt sap ssb sc b2s s2b nd call calld callv callvd loop rfun fin hk
  have hn := hk.lnI_nn a
  have hl := hk.lnI_le a 9223372036854775807 (by omega)
  have hlen : lnI a = lnI b ↔ a.length = b.length := by rw [hk.lnI_eq, hk.lnI_eq]; omega
  cbv
  split
  · rename_i h1
    rw [hk.c2_neq, decide_eq_true_eq, ne_eq, hlen] at h1
    cbv
    exact hk.fin1 (congrArg _ (by rw [hr0, eq_comm, decide_eq_false_iff_not]; exact fun e => h1 (congrArg List.length e)))
  · rename_i h1
    rw [hk.c2_neq, decide_eq_false_iff_not, ne_eq, Classical.not_not] at h1
    have h2 := hlen.1 h1
    cbv
    refine hk.loopI (loop_rule (α := Int) (fun i => [(0, .ls (.il .i64 a) .any), (1, .ls (.il .i64 b) .any), (4, .bool false), (12, .int .i64 (lnI a)), (13, .int .i64 i)]) (fun i => h)
      (fun i => 0 ≤ i ∧ i ≤ lnI a ∧ ∀ j, j < i.toNat → a.getD j 0 = b.getD j 0) (fun i => (lnI a - i).toNat) 0 ⟨by omega, by omega, upto_zero⟩ ?_ ?_)
    · exact Gh.tm (by repeat (first | exact Holds.nil _ _ | refine Holds.cons (Wk.refl _ _) ?_))
    intro i ⟨hi, hi2, hi3⟩ Q' hb hx hr
    cbv
    split
    · rename_i hlt
      rw [hk.c2_lss, decide_eq_true_eq] at hlt
      refine ⟨hk.idx hi hlt, hk.idx hi (show i < lnI b by omega), ?_⟩
      have hil := hk.lt_lnI a i hi hlt
      have hga := hk.gtI_eq a i
      have hgb := hk.gtI_eq b i
      cbv
      split
      · rename_i he
        rw [hk.c2_neq, decide_eq_true_eq, hga, hgb] at he
        refine hr _ ?_
        cbv
        exact hk.fin1 (congrArg _ (by rw [hr0, eq_comm, decide_eq_false_iff_not]; intro e; exact he (by rw [e])))
      · rename_i he
        rw [hk.c2_neq, decide_eq_false_iff_not, hga, hgb, ne_eq, Classical.not_not] at he
        refine hb (i + 1) _ ⟨by omega, by omega, upto_step hi hi3 he⟩ (by omega) ?_
        refine Gh.tm ?_
        repeat' (first | exact Holds.nil _ _ | refine Holds.cons (Wk.refl _ _) ?_ | refine Holds.cons (Wk.of_eq ?_) ?_)
        all_goals first
          | (rw [← hk.add64 i 1 (by omega) (by omega)]; rfl)
          | rfl
          | skip
    · rename_i hge
      rw [hk.c2_lss, decide_eq_false_iff_not] at hge
      have hlen := hk.lnI_toNat a
      refine hx _ _ ?_
      cbv
      exact hk.fin1 (congrArg _ (by
        rw [hr0, eq_comm, decide_eq_true_eq]
        exact list_ext h2 fun j hj => hi3 j (by omega)))
theorem count_spec (n : Int) (h : Heap) : Does PP 65 [I n] h (Is (.bool (decide (1 ≤ n) && decide (n ≤ 8))) h) := by
  obtain ⟨r, hr0⟩ : ∃ r, r = (decide (1 ≤ n) && decide (n ≤ 8)) := ⟨_, rfl⟩
  rw [← hr0]
  refine doesF P_ok Try.f65 (by kernel_rfl) (by kernel_rfl) ?_
  intro i2 c2 u1 cv mx mn ad sbt bn bq ba lnI gtI apI sbI stI rpI lnG gtG apG sbG stG rpG fi fb fs fl fg fc sln sgt sap ssb sc b2s s2b nd call calld callv callvd loop rfun fin hk
  cbv
  split
  · rename_i h1
    rw [hk.c2_geq, decide_eq_true_eq] at h1
    cbv
    exact hk.fin1 (congrArg _ (by rw [hr0, hk.c2_leq]; simp [h1]))
  · rename_i h1
    rw [hk.c2_geq, decide_eq_false_iff_not] at h1
    cbv
    exact hk.fin1 (congrArg _ (by rw [hr0]; simp; omega))
end Go.Proofs.Ytnnpookoencpnaa
