/-
  Contracts of functions of the program, proved over the abstract machine of the Al texts.
-/
import Derived.Test.YtnnpookoencpnaaRkA
set_option maxHeartbeats 1000000
set_option linter.unusedSimpArgs false
set_option linter.unusedVariables false
open Go Go.AL
namespace Go.Proofs.Ytnnpookoencpnaa
/-- An order. -/
def Order (l : List Int) : Prop := 1 ≤ l.length ∧ l.length ≤ 8 ∧ ∀ i : Nat, i < l.length → (i : Int) ∈ l
open Classical in
noncomputable def orderB (l : List Int) : Bool := decide (Order l)
theorem orderB_iff (l : List Int) : orderB l = true ↔ Order l := by simp [orderB]
theorem refGood_spec (l : List Int) (h : Heap) (hl : l.length ≤ 9223372036854775807) : Does PP 25 [LI l] h (Is (.bool (orderB l)) h) := by
  obtain ⟨b, hb0⟩ : ∃ b, b = orderB l := ⟨_, rfl⟩
  have hbt : b = true ↔ Order l := by rw [hb0]; exact orderB_iff l
  rw [← hb0]
  have hhas := fun n => has_spec l n h hl
  refine doesF P_ok Try.f25 (by kernel_rfl) (by kernel_rfl) ?_
  intro i2 c2 u1 cv mx mn ad sbt bn bq ba lnI gtI apI sbI stI rpI lnG gtG apG sbG stG rpG fi fb fs fl fg fc sln sgt sap ssb sc b2s s2b nd call calld callv callvd loop rfun fin hk
  have hn := hk.lnI_nn l
  have hlt2 := hk.lnI_le l 9223372036854775807 (by omega)
  have hlen := hk.lnI_eq l
  have hb1 : b = (decide (1 ≤ lnI l) && decide (lnI l ≤ 8)) ∨ ¬ ∀ i : Nat, i < l.length → (i : Int) ∈ l := by
    by_cases h : ∀ i : Nat, i < l.length → (i : Int) ∈ l
    · left
      rw [Bool.eq_iff_iff, hbt]
      simp only [Order, Bool.and_eq_true, decide_eq_true_eq, hlen]
      constructor
      · rintro ⟨h1, h2, _⟩; exact ⟨by omega, by omega⟩
      · rintro ⟨h1, h2⟩; exact ⟨by omega, by omega, h⟩
    · exact .inr h
  have hnot : ∀ i : Int, 0 ≤ i → i < lnI l → ¬ i ∈ l → b = false := fun i h0 h1 h2 => by
    rw [Bool.eq_false_iff, ne_eq, hbt]
    intro ho
    have := ho.2.2 i.toNat (by omega)
    rw [show ((i.toNat : Nat) : Int) = i by omega] at this
    exact h2 this
  have hall : (∀ j, j < l.length → (j : Int) ∈ l) → b = (decide (1 ≤ lnI l) && decide (lnI l ≤ 8)) := fun h => hb1.resolve_right fun h' => h' h
  have hall : (∀ j, j < (lnI l).toNat → (j : Int) ∈ l) → b = (decide (1 ≤ lnI l) && decide (lnI l ≤ 8)) := fun h => hall fun j hj => h j (by rw [hk.lnI_toNat]; exact hj)
  obtain ⟨mem, hmem⟩ : ∃ mem : Int → Prop, ∀ n, mem n ↔ n ∈ l := ⟨_, fun n => Iff.rfl⟩
  have hall : (∀ j, j < (lnI l).toNat → ∀ i : Int, i.toNat = j → 0 ≤ i → mem i) → b = (decide (1 ≤ lnI l) && decide (lnI l ≤ 8)) := fun h => hall fun j hj => (hmem _).1 (h j hj j (by omega) (by omega))
  have hnot : ∀ i : Int, 0 ≤ i → i < lnI l → ¬ mem i → b = false := fun i h0 h1 h2 => hnot i h0 h1 (by rwa [hmem] at h2)
  obtain ⟨hasb, hhasb⟩ : ∃ hasb : Int → Bool, ∀ n, hasb n = decide (n ∈ l) := ⟨_, fun n => rfl⟩
  have hhas : ∀ n, Does PP 64 [LI l, I n] h (Is (.bool (hasb n)) h) := fun n => by rw [hhasb]; exact hhas n
  have hhm : ∀ n, hasb n = true ↔ mem n := fun n => by rw [hhasb, hmem, decide_eq_true_eq]
  clear hhasb hmem hb1 hb0 hbt
  cbv
  refine hk.loopI (loop_rule (α := Int) (fun i => [(0, .ls (.il .i64 l) .any), (2, .bool false), (3, .int .i64 i)]) (fun i => h)
    (fun i => 0 ≤ i ∧ i ≤ lnI l ∧ ∀ j, j < i.toNat → ∀ i : Int, i.toNat = j → 0 ≤ i → mem i) (fun i => (lnI l - i).toNat) 0 ⟨by omega, by omega, upto_zero⟩ ?_ ?_)
  · exact Gh.tm (by repeat (first | exact Holds.nil _ _ | refine Holds.cons (Wk.refl _ _) ?_))
  intro i ⟨hi, hi2, hi3⟩ Q' hb hx hr
  cbv
  split
  · rename_i hlt
    rw [hk.c2_lss, decide_eq_true_eq] at hlt
    cbv
    refine hk.call1 (hhas i) ?_
    cbv
    have hbf : bn false = true := by rw [hk.bn_eq]; rfl
    have hbt : bn true = false := by rw [hk.bn_eq]; rfl
    obtain ⟨t, ht⟩ : ∃ t, t = hasb i := ⟨_, rfl⟩
    have hhm := hhm i
    rw [← ht] at hhm ⊢
    cases t
    · rw [hbf]
      cbv
      refine hr _ ?_
      cbv
      exact hk.fin1 (congrArg _ (hnot i hi hlt (by rw [← hhm]; decide)).symm)
    · rw [hbt]
      cbv
      refine hb (i + 1) _ ⟨by omega, by omega, upto_step hi hi3 (fun i' h1 h2 => by rw [show i' = i by omega]; exact hhm.1 rfl)⟩ (by omega) ?_
      refine Gh.tm ?_
      repeat' (first | exact Holds.nil _ _ | refine Holds.cons (Wk.refl _ _) ?_ | refine Holds.cons (Wk.of_eq ?_) ?_)
      all_goals first
        | (rw [← hk.add64 i 1 (by omega) (by omega)]; rfl)
        | rfl
        | skip
  · rename_i hge
    rw [hk.c2_lss, decide_eq_false_iff_not] at hge
    have hi4 : i = lnI l := by omega
    subst hi4
    have hb2 := hall hi3
    refine hx _ _ ?_
    cbv
    split
    · rename_i h1
      rw [hk.c2_geq, decide_eq_true_eq] at h1
      cbv
      exact hk.fin1 (congrArg _ (by rw [hb2, hk.c2_leq]; simp; omega))
    · rename_i h1
      rw [hk.c2_geq, decide_eq_false_iff_not] at h1
      cbv
      exact hk.fin1 (congrArg _ (by rw [hb2]; simp; omega))
end Go.Proofs.Ytnnpookoencpnaa
