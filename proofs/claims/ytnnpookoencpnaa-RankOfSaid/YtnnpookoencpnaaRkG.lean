/-
  Contracts of functions of the program, proved over the abstract machine of the Al texts.
-/
import Derived.Test.YtnnpookoencpnaaRkF
import Derived.Test.YtnnpookoencpnaaAlLaw
set_option maxHeartbeats 4000000
set_option maxRecDepth 20000
set_option linter.unusedSimpArgs false
set_option linter.unusedVariables false
open Go Go.AL
namespace Go.Proofs.Ytnnpookoencpnaa
theorem Order.inj {l : List Int} (h : Order l) : ∀ i j, i < l.length → j < l.length → l.getD i 0 = l.getD j 0 → i = j := by
  have hn : l.Nodup := ((order_perm h.2.2).nodup_iff).1 (rangeI_nodup _)
  unfold List.Nodup at hn
  rw [List.pairwise_iff_getElem] at hn
  intro i j hi hj he
  rcases Nat.lt_trichotomy i j with h1 | h1 | h1
  · exact absurd (by simpa [List.getD, hi, hj] using he) (hn i j hi hj h1)
  · exact h1
  · exact absurd (by simpa [List.getD, hi, hj] using he.symm) (hn j i hj hi h1)
theorem Order.bounds {l : List Int} (h : Order l) : ∀ i, i < l.length → 0 ≤ l.getD i 0 ∧ l.getD i 0 < l.length := fun i hi => by
  have h1 : l.getD i 0 ∈ l := mem_getD.2 ⟨i, hi, rfl⟩
  exact mem_rangeI.1 ((order_perm h.2.2).mem_iff.2 h1)
theorem plc_get {l : List Int} (h : Order l) : ∀ k, k ≤ l.length → ∀ i, i < k → (plc l k).getD (l.getD i 0).toNat 0 = i
  | 0, _, i, hi => by omega
  | k + 1, hk, i, hi => by
    have hb := h.bounds k (by omega)
    have hbi := h.bounds i (by omega)
    simp only [plc, List.getD, List.getElem?_set, plc_len]
    by_cases e : i = k
    · subst e
      rw [if_pos rfl, if_pos (by simp only [List.getD] at hb; omega)]
      rfl
    · rw [if_neg (fun he => e ?_)]
      · have := plc_get h k (by omega) i (by omega)
        simpa [List.getD] using this
      · refine (h.inj k i (by omega) (by omega) ?_).symm
        simp only [List.getD] at hb hbi ⊢
        omega
theorem places_len (l : List Int) : (places l).length = l.length := plc_len l _
theorem places_order {l : List Int} (h : Order l) : Order (places l) := by
  refine ⟨by rw [places_len]; exact h.1, by rw [places_len]; exact h.2.1, fun i hi => ?_⟩
  rw [places_len] at hi
  have hb := h.bounds i hi
  exact mem_getD.2 ⟨(l.getD i 0).toNat, by rw [places_len]; omega, plc_get h l.length (Nat.le_refl _) i hi⟩
theorem places_back {l : List Int} (h : Order l) : places (places l) = l := by
  refine list_ext (by rw [places_len, places_len]) fun j hj => ?_
  rw [places_len, places_len] at hj
  have hb := h.bounds j hj
  have h1 := plc_get h l.length (Nat.le_refl _) j hj
  have h2 := plc_get (places_order h) (places l).length (Nat.le_refl _) (l.getD j 0).toNat (by rw [places_len]; omega)
  unfold places at h1 h2 ⊢
  rw [h1] at h2
  simp only [Int.toNat_natCast] at h2
  rw [h2]
  omega
set_option maxRecDepth 100000 in
theorem awake12_run : (ex PP T M (fun _ => true) 400).F 24 [] [] = some (.bool true, []) := by kernel_rfl
theorem awake12 (h : Heap) : Does PP 24 [] h (Is (.bool true) h) := pure0 (ex_does P_ok 400 awake12_run) rfl rfl h
theorem places_law (l : List Int) (hl : l.length ≤ 9223372036854775807) : Does PP 6 [LI l] [] (Is (.bool true) []) := by
  obtain ⟨b, hb0⟩ : ∃ b, b = orderB l := ⟨_, rfl⟩
  have hbt : b = true → Order l := fun h => (orderB_iff l).1 (by rw [← hb0]; exact h)
  have hgood := refGood_spec l [] hl
  rw [← hb0] at hgood
  obtain ⟨p, hp⟩ : ∃ p, p = places l := ⟨_, rfl⟩
  have h1 : b = true → Does PP 26 [LI l] [] (Is (LI p) []) := fun h => by rw [hp]; exact places_spec l [] (hbt h).2.1 (hbt h).bounds
  have hpl : p.length = l.length := by rw [hp, places_len]
  have h2 : b = true → Does PP 27 [LI p] [] (Is (.bool true) []) := fun h => by
    have := good_spec p [] (by omega)
    rwa [hp, (orderB_iff _).2 (places_order (hbt h)), ← hp] at this
  have h3 : b = true → Does PP 26 [LI p] [] (Is (LI l) []) := fun h => by
    have hb := (places_order (hbt h)).bounds
    have := places_spec p [] (by have := (hbt h).2.1; omega) (by rw [hp]; exact hb)
    rwa [hp, places_back (hbt h), ← hp] at this
  have h4 : Does PP 16 [LI l, LI l] [] (Is (.bool true) []) := by
    have := same_spec l l [] hl hl
    rwa [decide_eq_true (rfl : l = l)] at this
  refine doesF P_ok Try.f6 (by kernel_rfl) (by kernel_rfl) ?_
  intro i2 c2 u1 cv mx mn ad sbt bn bq ba lnI gtI apI sbI stI rpI lnG gtG apG sbG stG rpG fi fb fs fl fg fc sln sgt sap ssb sc b2s s2b nd call calld callv callvd loop rfun fin hk
  have hnt : bn true = false := by rw [hk.bn_eq]; rfl
  have hnf : bn false = true := by rw [hk.bn_eq]; rfl
  have hll : c2 .eql (lnI p) (lnI l) = true := by rw [hk.c2_eql, decide_eq_true_eq, hk.lnI_eq, hk.lnI_eq, hpl]
  clear hp hb0
  cbv
  refine hk.call1 (awake12 _) ?_
  cbv
  rw [hnt]
  cbv
  refine hk.call1 hgood ?_
  cases b
  · cbv
    rw [hnf]
    cbv
    refine hk.call1 (awake12 _) ?_
    cbv
    exact hk.fin1 rfl
  · have h1 := h1 rfl
    have h2 := h2 rfl
    have h3 := h3 rfl
    cbv
    rw [hnt]
    cbv
    refine hk.call1 h1 ?_
    cbv
    refine hk.call1 h2 ?_
    cbv
    rw [hll]
    cbv
    refine hk.call1 h3 ?_
    cbv
    refine hk.call1 h4 ?_
    cbv
    exact hk.fin1 rfl
end Go.Proofs.Ytnnpookoencpnaa
