/-
  Contracts of functions of the program, proved over the abstract machine of the Al texts.
-/
import Derived.Test.YtnnpookoencpnaaRkH
import Derived.Test.YtnnpookoencpnaaAlStep
set_option maxHeartbeats 4000000
set_option maxRecDepth 20000
set_option linter.unusedSimpArgs false
set_option linter.unusedVariables false
open Go Go.AL
namespace Go.Proofs.Ytnnpookoencpnaa
/-- A list is an order that goes with masters. -/
def GoesP (l ms : List Int) : Prop := Order l ∧ l.length = ms.length ∧ ∀ i, i < l.length → ms.getD (l.getD i 0).toNat 0 = -1 ∨ ms.getD (l.getD i 0).toNat 0 ∈ l.take i
open Classical in
noncomputable def goesB (l ms : List Int) : Bool := decide (GoesP l ms)
theorem goesB_iff (l ms : List Int) : goesB l ms = true ↔ GoesP l ms := by simp [goesB]
theorem Order.place {l : List Int} (h : Order l) (c : Int) (h0 : 0 ≤ c) (h1 : c < l.length) : ∃ i, i < l.length ∧ l.getD i 0 = c ∧ (places l).getD c.toNat 0 = i := by
  obtain ⟨i, hi, he⟩ := mem_getD.1 (h.2.2 c.toNat (by omega))
  rw [show ((c.toNat : Nat) : Int) = c by omega] at he
  refine ⟨i, hi, he, ?_⟩
  have := plc_get h l.length (Nat.le_refl _) i hi
  rwa [he] at this
theorem mem_take {l : List Int} {x : Int} {n : Nat} (hn : n ≤ l.length) : x ∈ l.take n ↔ ∃ i, i < n ∧ l.getD i 0 = x := by
  rw [mem_getD]
  constructor
  · rintro ⟨i, h1, h2⟩
    rw [List.length_take] at h1
    refine ⟨i, by omega, ?_⟩
    rw [List.getD_eq_getElem?_getD, List.getElem?_take, if_pos (by omega)] at h2
    rw [List.getD_eq_getElem?_getD]; exact h2
  · rintro ⟨i, h1, h2⟩
    refine ⟨i, by rw [List.length_take]; omega, ?_⟩
    rw [List.getD_eq_getElem?_getD, List.getElem?_take, if_pos (by omega)]
    rw [List.getD_eq_getElem?_getD] at h2; exact h2
theorem goes_alt (l ms : List Int) : GoesP l ms ↔ Order l ∧ l.length = ms.length ∧ Right ms ∧ ∀ c, c < ms.length → 0 ≤ ms.getD c 0 → (places l).getD (ms.getD c 0).toNat 0 < (places l).getD c 0 := by
  constructor
  · rintro ⟨ho, hl, hg⟩
    have key : ∀ c, c < ms.length → ∃ i, i < l.length ∧ l.getD i 0 = c ∧ (places l).getD c 0 = i := fun c hc => by
      obtain ⟨i, h1, h2, h3⟩ := ho.place c (by omega) (by omega)
      exact ⟨i, h1, h2, by simpa using h3⟩
    refine ⟨ho, hl, ⟨by have := ho.1; omega, by have := ho.2.1; omega, fun m hm => ?_⟩, fun c hc h0 => ?_⟩
    · obtain ⟨c, hc, rfl⟩ := mem_getD.1 hm
      obtain ⟨i, h1, h2, _⟩ := key c hc
      have := hg i h1
      rw [h2, Int.toNat_natCast] at this
      rcases this with h | h
      · omega
      · obtain ⟨j, hj, he⟩ := (mem_take (by omega)).1 h
        have := ho.bounds j (by omega)
        omega
    · obtain ⟨i, h1, h2, h3⟩ := key c hc
      have := hg i h1
      rw [h2, Int.toNat_natCast] at this
      rcases this with h | h
      · omega
      · obtain ⟨j, hj, he⟩ := (mem_take (by omega)).1 h
        have := plc_get ho l.length (Nat.le_refl _) j (by omega)
        rw [he] at this
        rw [h3, show (places l).getD _ 0 = _ from this]
        omega
  · rintro ⟨ho, hl, hr, hg⟩
    refine ⟨ho, hl, fun i hi => ?_⟩
    have hb := ho.bounds i hi
    have hm : ms.getD (l.getD i 0).toNat 0 ∈ ms := mem_getD.2 ⟨_, by omega, rfl⟩
    have hm2 := hr.2.2 _ hm
    by_cases h : ms.getD (l.getD i 0).toNat 0 = -1
    · exact .inl h
    · right
      have h1 := hg (l.getD i 0).toNat (by omega) (by omega)
      have h2 := plc_get ho l.length (Nat.le_refl _) i hi
      rw [show (places l).getD (l.getD i 0).toNat 0 = i from h2] at h1
      obtain ⟨j, k1, k2, k3⟩ := ho.place (ms.getD (l.getD i 0).toNat 0) (by omega) (by omega)
      rw [k3] at h1
      exact (mem_take (by omega)).2 ⟨j, by omega, k2⟩
theorem goes_spec (l ms : List Int) (h : Heap) (hl : l.length ≤ 9223372036854775807) (hm : ms.length ≤ 9223372036854775807) : Does PP 32 [LI l, LI ms] h (Is (.bool (goesB l ms)) h) := by
  have hgood := good_spec l h hl
  obtain ⟨r, hr0⟩ : ∃ r, r = goesB l ms := ⟨_, rfl⟩
  have hrt : r = true ↔ GoesP l ms := by rw [hr0]; exact goesB_iff _ _
  rw [← hr0]
  rw [goes_alt] at hrt
  obtain ⟨b, hb⟩ : ∃ b, b = orderB l := ⟨_, rfl⟩
  have hbt : b = true ↔ Order l := by rw [hb]; exact orderB_iff l
  rw [← hb] at hgood
  have hright := right_spec ms h hm
  obtain ⟨b2, hb2⟩ : ∃ b, b = rightB ms := ⟨_, rfl⟩
  have hb2t : b2 = true ↔ Right ms := by rw [hb2]; exact rightB_iff ms
  rw [← hb2] at hright
  have hpl : b = true → Does PP 26 [LI l] h (Is (LI (places l)) h) := fun h1 => places_spec l h (hbt.1 h1).2.1 (hbt.1 h1).bounds
  have hplen := places_len l
  obtain ⟨p, hp⟩ : ∃ b, b = places l := ⟨_, rfl⟩
  rw [← hp] at hpl hplen hrt
  have hms : b2 = true → ∀ c, c < ms.length → -1 ≤ ms.getD c 0 ∧ ms.getD c 0 < ms.length := fun h1 c hc => (hb2t.1 h1).2.2 _ (mem_getD.2 ⟨c, hc, rfl⟩)
  rw [← hbt, ← hb2t] at hrt
  clear hp hb2 hb hbt hb2t hr0
  refine doesF P_ok Try.f32 (by kernel_rfl) (by kernel_rfl) ?_
  intro i2 c2 u1 cv mx mn ad sbt bn bq ba lnI gtI apI sbI stI rpI lnG gtG apG sbG stG rpG fi fb fs fl fg fc sln sgt sap ssb sc b2s s2b nd call calld callv callvd loop rfun fin hk
  have hnl := hk.lnI_eq l
  have hnm := hk.lnI_eq ms
  have hnp := hk.lnI_eq p
  have hrn : lnI l ≠ lnI ms → r = false := fun h => by rw [Bool.eq_false_iff, ne_eq, hrt]; rintro ⟨_, h2, _⟩; omega
  have hall : b = true → b2 = true → lnI l = lnI ms → (r = true ↔ ∀ j, j < (lnI ms).toNat → 0 ≤ ms.getD j 0 → p.getD (ms.getD j 0).toNat 0 < p.getD j 0) := fun h1 h2 h3 => by
    rw [hrt, show (lnI ms).toNat = ms.length by omega]
    exact ⟨fun h => h.2.2.2, fun h => ⟨h1, by omega, h2, h⟩⟩
  have hms : b2 = true → ∀ i : Int, 0 ≤ i → i < lnI ms → -1 ≤ gtI ms i ∧ gtI ms i < lnI ms := fun h1 i h2 h3 => by
    rw [hk.gtI_eq, hnm]
    exact hms h1 _ (by omega)
  have hpm : lnI l = lnI ms → lnI p = lnI ms := fun h => by omega
  have hnn := hk.lnI_nn ms
  have hmx := hk.lnI_le ms 9223372036854775807 (by omega)
  have hgp := hk.gtI_eq p
  have hgm := hk.gtI_eq ms
  have hf1 : b = false → r = false := fun h => by rw [Bool.eq_false_iff, ne_eq, hrt, h]; simp
  have hf2 : b2 = false → r = false := fun h => by rw [Bool.eq_false_iff, ne_eq, hrt, h]; simp
  clear hrt hnl hnm hnp
  cbv
  refine hk.callA hgood ?_
  cases b
  · have := hf1 rfl
    subst this
    cbv
    repeat' (first
      | assumption
      | (refine hk.brLss (fun _ => ?_) (fun _ => ?_) <;> (conv => cbv))
      | (refine hk.brLeq (fun _ => ?_) (fun _ => ?_) <;> (conv => cbv))
      | (refine hk.brGtr (fun _ => ?_) (fun _ => ?_) <;> (conv => cbv))
      | (refine hk.brGeq (fun _ => ?_) (fun _ => ?_) <;> (conv => cbv))
      | (refine hk.brEql (fun _ => ?_) (fun _ => ?_) <;> (conv => cbv))
      | (refine hk.brNeq (fun _ => ?_) (fun _ => ?_) <;> (conv => cbv))
      | (refine hk.brNotT ?_; (conv => cbv))
      | (refine hk.brNotF ?_; (conv => cbv))
      | (refine hk.idxI (by first | omega | assumption) (by first | omega | assumption) ?_; (conv => cbv))
      | (refine hk.nzI (by first | omega | assumption | decide) ?_; (conv => cbv))
      | (refine hk.ge0I (by first | omega | assumption) ?_; (conv => cbv))
      | (refine hk.needI (by simp only [rNd, hk.sb_eq, hk.ad_eq]; omega) ?_; (conv => cbv))
      | (refine hk.callA (by assumption) ?_; (conv => cbv))
      | (refine hk.calldA (by assumption) ?_; (conv => cbv))
      | (rw [hk.sb0]; (conv => cbv))
      | (rw [hk.ad0]; (conv => cbv))
      | exact hk.finB (by first | rfl | assumption)
      | exact hk.fin1 rfl)
  have hpl := hpl rfl
  cbv
  refine hk.brNotT ?_
  cbv
  refine hk.brNeq (fun h1 => ?_) (fun h1 => ?_)
  · have := hrn h1
    subst this
    cbv
    repeat' (first
      | assumption
      | (refine hk.brLss (fun _ => ?_) (fun _ => ?_) <;> (conv => cbv))
      | (refine hk.brLeq (fun _ => ?_) (fun _ => ?_) <;> (conv => cbv))
      | (refine hk.brGtr (fun _ => ?_) (fun _ => ?_) <;> (conv => cbv))
      | (refine hk.brGeq (fun _ => ?_) (fun _ => ?_) <;> (conv => cbv))
      | (refine hk.brEql (fun _ => ?_) (fun _ => ?_) <;> (conv => cbv))
      | (refine hk.brNeq (fun _ => ?_) (fun _ => ?_) <;> (conv => cbv))
      | (refine hk.brNotT ?_; (conv => cbv))
      | (refine hk.brNotF ?_; (conv => cbv))
      | (refine hk.idxI (by first | omega | assumption) (by first | omega | assumption) ?_; (conv => cbv))
      | (refine hk.nzI (by first | omega | assumption | decide) ?_; (conv => cbv))
      | (refine hk.ge0I (by first | omega | assumption) ?_; (conv => cbv))
      | (refine hk.needI (by simp only [rNd, hk.sb_eq, hk.ad_eq]; omega) ?_; (conv => cbv))
      | (refine hk.callA (by assumption) ?_; (conv => cbv))
      | (refine hk.calldA (by assumption) ?_; (conv => cbv))
      | (rw [hk.sb0]; (conv => cbv))
      | (rw [hk.ad0]; (conv => cbv))
      | exact hk.finB (by first | rfl | assumption)
      | exact hk.fin1 rfl)
  cbv
  refine hk.callA hright ?_
  cases b2
  · have := hf2 rfl
    subst this
    cbv
    repeat' (first
      | assumption
      | (refine hk.brLss (fun _ => ?_) (fun _ => ?_) <;> (conv => cbv))
      | (refine hk.brLeq (fun _ => ?_) (fun _ => ?_) <;> (conv => cbv))
      | (refine hk.brGtr (fun _ => ?_) (fun _ => ?_) <;> (conv => cbv))
      | (refine hk.brGeq (fun _ => ?_) (fun _ => ?_) <;> (conv => cbv))
      | (refine hk.brEql (fun _ => ?_) (fun _ => ?_) <;> (conv => cbv))
      | (refine hk.brNeq (fun _ => ?_) (fun _ => ?_) <;> (conv => cbv))
      | (refine hk.brNotT ?_; (conv => cbv))
      | (refine hk.brNotF ?_; (conv => cbv))
      | (refine hk.idxI (by first | omega | assumption) (by first | omega | assumption) ?_; (conv => cbv))
      | (refine hk.nzI (by first | omega | assumption | decide) ?_; (conv => cbv))
      | (refine hk.ge0I (by first | omega | assumption) ?_; (conv => cbv))
      | (refine hk.needI (by simp only [rNd, hk.sb_eq, hk.ad_eq]; omega) ?_; (conv => cbv))
      | (refine hk.callA (by assumption) ?_; (conv => cbv))
      | (refine hk.calldA (by assumption) ?_; (conv => cbv))
      | (rw [hk.sb0]; (conv => cbv))
      | (rw [hk.ad0]; (conv => cbv))
      | exact hk.finB (by first | rfl | assumption)
      | exact hk.fin1 rfl)
  have hall := hall rfl rfl h1
  have hms := hms rfl
  have hpm := hpm h1
  cbv
  repeat' (first
    | assumption
    | (refine hk.brLss (fun _ => ?_) (fun _ => ?_) <;> (conv => cbv))
    | (refine hk.brLeq (fun _ => ?_) (fun _ => ?_) <;> (conv => cbv))
    | (refine hk.brGtr (fun _ => ?_) (fun _ => ?_) <;> (conv => cbv))
    | (refine hk.brGeq (fun _ => ?_) (fun _ => ?_) <;> (conv => cbv))
    | (refine hk.brEql (fun _ => ?_) (fun _ => ?_) <;> (conv => cbv))
    | (refine hk.brNeq (fun _ => ?_) (fun _ => ?_) <;> (conv => cbv))
    | (refine hk.brNotT ?_; (conv => cbv))
    | (refine hk.brNotF ?_; (conv => cbv))
    | (refine hk.idxI (by first | omega | assumption) (by first | omega | assumption) ?_; (conv => cbv))
    | (refine hk.nzI (by first | omega | assumption | decide) ?_; (conv => cbv))
    | (refine hk.ge0I (by first | omega | assumption) ?_; (conv => cbv))
    | (refine hk.needI (by simp only [rNd, hk.sb_eq, hk.ad_eq]; omega) ?_; (conv => cbv))
    | (refine hk.callA (by assumption) ?_; (conv => cbv))
    | (refine hk.calldA (by assumption) ?_; (conv => cbv))
    | (rw [hk.sb0]; (conv => cbv))
    | (rw [hk.ad0]; (conv => cbv))
    | exact hk.finB (by first | rfl | assumption)
    | exact hk.fin1 rfl)
  refine hk.loopI (loop_rule (α := Int) (fun i => [(4, .bool false), (5, .ls (.il .i64 p) .any), (25, .ls (.il .i64 ms) .any), (26, .int .i64 (lnI ms)), (27, .int .i64 i)]) (fun i => h)
      (fun i => 0 ≤ i ∧ i ≤ lnI ms ∧ ∀ j, j < i.toNat → 0 ≤ ms.getD j 0 → p.getD (ms.getD j 0).toNat 0 < p.getD j 0) (fun i => (lnI ms - i).toNat) 0 ⟨by omega, by omega, upto_zero⟩ ?_ ?_)
  · exact Gh.tm (by repeat (first | exact Holds.nil _ _ | refine Holds.cons (Wk.refl _ _) ?_))
  intro i ⟨hi, hi2, hi3⟩ Q' hb hx hr
  cbv
  refine hk.brLss (fun h2 => ?_) (fun h2 => ?_)
  · have hmi := hms i hi h2
    have hg1 := hgp i
    have hg2 := hgp (gtI ms i)
    have hg3 := hgm i
    have hil := hk.lt_lnI ms i hi h2
    refine hk.idxI hi h2 ?_
    cbv
    repeat' (first
      | assumption
      | (refine hr _ ?_; (conv => cbv))
      | (refine hk.brLss (fun _ => ?_) (fun _ => ?_) <;> (conv => cbv))
      | (refine hk.brLeq (fun _ => ?_) (fun _ => ?_) <;> (conv => cbv))
      | (refine hk.brGtr (fun _ => ?_) (fun _ => ?_) <;> (conv => cbv))
      | (refine hk.brGeq (fun _ => ?_) (fun _ => ?_) <;> (conv => cbv))
      | (refine hk.brEql (fun _ => ?_) (fun _ => ?_) <;> (conv => cbv))
      | (refine hk.brNeq (fun _ => ?_) (fun _ => ?_) <;> (conv => cbv))
      | (refine hk.brNotT ?_; (conv => cbv))
      | (refine hk.brNotF ?_; (conv => cbv))
      | (refine hk.idxI (by first | omega | assumption) (by first | omega | assumption) ?_; (conv => cbv))
      | (refine hk.nzI (by first | omega | assumption | decide) ?_; (conv => cbv))
      | (refine hk.ge0I (by first | omega | assumption) ?_; (conv => cbv))
      | (refine hk.needI (by simp only [rNd, hk.sb_eq, hk.ad_eq]; omega) ?_; (conv => cbv))
      | (refine hk.callA (by assumption) ?_; (conv => cbv))
      | (refine hk.calldA (by assumption) ?_; (conv => cbv))
      | (rw [hk.sb0]; (conv => cbv))
      | (rw [hk.ad0]; (conv => cbv))
      | exact hk.finB (by first | rfl | assumption)
      | exact hk.fin1 rfl)
    · rename_i h3 h4
      have : r = false := by
        rw [Bool.eq_false_iff, ne_eq, hall]
        intro h
        have := h i.toNat (by omega)
        rw [hg1, hg2, hg3] at h4
        rw [hg3] at h3
        have := this h3
        omega
      subst this
      exact hk.finB rfl
    · rename_i h3 h4
      rw [hg1, hg2, hg3] at h4
      refine hb (i + 1) _ ⟨by omega, by omega, upto_step hi hi3 (fun _ => by omega)⟩ (by omega) ?_
      refine Gh.tm ?_
      repeat' (first | exact Holds.nil _ _ | refine Holds.cons (Wk.refl _ _) ?_ | refine Holds.cons (Wk.of_eq ?_) ?_)
      all_goals first
        | (rw [← hk.add64 i 1 (by omega) (by omega)]; rfl)
        | rfl
        | skip
    · rename_i h3
      rw [hg3] at h3
      refine hb (i + 1) _ ⟨by omega, by omega, upto_step hi hi3 (fun _ => by omega)⟩ (by omega) ?_
      refine Gh.tm ?_
      repeat' (first | exact Holds.nil _ _ | refine Holds.cons (Wk.refl _ _) ?_ | refine Holds.cons (Wk.of_eq ?_) ?_)
      all_goals first
        | (rw [← hk.add64 i 1 (by omega) (by omega)]; rfl)
        | rfl
        | skip
  · have : i = lnI ms := by omega
    subst this
    have : r = true := hall.2 hi3
    subst this
    cbv
    repeat' (first
      | assumption
      | (refine hx _ _ ?_; (conv => cbv))
      | (refine hk.brLss (fun _ => ?_) (fun _ => ?_) <;> (conv => cbv))
      | (refine hk.brLeq (fun _ => ?_) (fun _ => ?_) <;> (conv => cbv))
      | (refine hk.brGtr (fun _ => ?_) (fun _ => ?_) <;> (conv => cbv))
      | (refine hk.brGeq (fun _ => ?_) (fun _ => ?_) <;> (conv => cbv))
      | (refine hk.brEql (fun _ => ?_) (fun _ => ?_) <;> (conv => cbv))
      | (refine hk.brNeq (fun _ => ?_) (fun _ => ?_) <;> (conv => cbv))
      | (refine hk.brNotT ?_; (conv => cbv))
      | (refine hk.brNotF ?_; (conv => cbv))
      | (refine hk.idxI (by first | omega | assumption) (by first | omega | assumption) ?_; (conv => cbv))
      | (refine hk.nzI (by first | omega | assumption | decide) ?_; (conv => cbv))
      | (refine hk.ge0I (by first | omega | assumption) ?_; (conv => cbv))
      | (refine hk.needI (by simp only [rNd, hk.sb_eq, hk.ad_eq]; omega) ?_; (conv => cbv))
      | (refine hk.callA (by assumption) ?_; (conv => cbv))
      | (refine hk.calldA (by assumption) ?_; (conv => cbv))
      | (rw [hk.sb0]; (conv => cbv))
      | (rw [hk.ad0]; (conv => cbv))
      | exact hk.finB (by first | rfl | assumption)
      | exact hk.fin1 rfl)
end Go.Proofs.Ytnnpookoencpnaa
