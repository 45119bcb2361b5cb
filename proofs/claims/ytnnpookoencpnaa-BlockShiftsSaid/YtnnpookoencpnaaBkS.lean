/-
  Contracts of functions of the program, proved over the abstract machine of the Al texts.
-/
import Derived.Test.YtnnpookoencpnaaBkA
import Derived.Test.YtnnpookoencpnaaAlLaw
set_option maxHeartbeats 1000000
set_option linter.unusedSimpArgs false
set_option linter.unusedVariables false
open Go Go.AL
namespace Go.Proofs.Ytnnpookoencpnaa
set_option maxRecDepth 100000 in
theorem awake10_run : (ex PP T M (fun _ => true) 400).F 12 [] [] = some (.bool true, []) := by kernel_rfl
theorem awake10 (h : Heap) : Does PP 12 [] h (Is (.bool true) h) := pure0 (ex_does P_ok 400 awake10_run) rfl rfl h
theorem pb_half (n : Int) (j : Nat) : pb (n / 2) j = pb n (j + 1) := by
  unfold pb
  rw [Int.pow_succ, Int.mul_comm, Int.ediv_ediv_of_nonneg (by decide)]
theorem pb_zero (n : Int) : pb n 0 = n % 2 := by unfold pb; simp
theorem half_even (n : Int) (h : n.tmod 2 = 0) : n.tdiv 2 = n / 2 ∧ pb n 0 = 0 := by
  obtain ⟨c, rfl⟩ := Int.dvd_of_tmod_eq_zero h
  rw [Int.mul_tdiv_cancel_left c (by decide), pb_zero]
  omega
theorem odd_one (n : Int) (h : n.tmod 2 ≠ 0) : pb n 0 = 1 := by
  rcases pb_two n 0 with h1 | h1
  · rw [pb_zero] at h1
    exact absurd (Int.tmod_eq_zero_of_dvd (Int.dvd_of_emod_eq_zero h1)) h
  · exact h1
theorem IsLow.grow {l : List Int} {i : Nat} {w k : Int} (h1 : IsLow (anyBit l i) w) (h2 : IsLow (fun j => pb (l.getD i 0) j = 1) k) : IsLow (anyBit l (i + 1)) (if k < w then k else w) := by
  obtain ⟨a0, a1, a2, a3⟩ := h1
  obtain ⟨b0, b1, b2, b3⟩ := h2
  have hor : ∀ j, anyBit l (i + 1) j ↔ anyBit l i j ∨ pb (l.getD i 0) j = 1 := fun j => by
    constructor
    · rintro ⟨m, hm, h⟩
      by_cases e : m = i
      · subst e; exact .inr h
      · exact .inl ⟨m, by omega, h⟩
    · rintro (⟨m, hm, h⟩ | h)
      · exact ⟨m, by omega, h⟩
      · exact ⟨i, by omega, h⟩
  refine ⟨by split <;> assumption, by split <;> assumption, fun j hj => ?_, ?_⟩
  · rw [hor]
    rintro (h | h)
    · exact a2 j (by split at hj <;> omega) h
    · exact b2 j (by split at hj <;> omega) h
  · rw [hor]
    split
    · exact b3.imp_right .inr
    · exact a3.imp_right .inl
theorem shifts_law (l : List Int) (hl : l.length ≤ 9223372036854775807) (hrg : ∀ i ∈ l, -9223372036854775808 ≤ i ∧ i ≤ 9223372036854775807) : Does PP 4 [.ls (.il .i64 l) .any] [] (Is (.bool true) []) := by
  obtain ⟨w, hw⟩ := exists_low (anyBit l l.length)
  refine doesF P_ok Try.f4 (by kernel_rfl) (by kernel_rfl) ?_
  intro i2 c2 u1 cv mx mn ad sbt bn bq ba lnI gtI apI sbI stI rpI lnG gtG apG sbG stG rpG fi fb fs fl fg fc sln sgt sap ssb sc b2s s2b nd call calld callv callvd loop rfun fin hk
  have hn := hk.lnI_nn l
  have hn2 := hk.lnI_le l 9223372036854775807 (by omega)
  cbv
  refine hk.call1 (awake10 _) ?_
  have hbt : bn true = false := by rw [hk.bn_eq]; rfl
  cbv
  rw [hbt]
  cbv
  split
  · cbv
    refine hk.call1 (awake10 _) ?_
    cbv
    exact hk.fin1 rfl
  · rename_i h100
    rw [hk.c2_gtr, decide_eq_false_iff_not] at h100
    have hL : lnI l ≤ 100 := by omega
    cbv
    refine hk.loopI (loop_rule (α := Int × Int) (fun x => [(0, .ls (.il .i64 l) .any), (2, .bool false), (3, .int .i64 x.2), (15, .ls (.il .i64 l) .any), (16, .int .i64 (lnI l)), (17, .int .i64 x.1)]) (fun x => [])
      (fun x => 0 ≤ x.1 ∧ x.1 ≤ lnI l ∧ IsLow (anyBit l x.1.toNat) x.2) (fun x => (lnI l - x.1).toNat) (0, 24) ⟨by omega, by omega, by omega, by omega, fun j hj h => ?_, .inl rfl⟩ ?_ ?_)
    · obtain ⟨m, hm, _⟩ := h
      exact absurd hm (by simp)
    · exact Gh.tm (by repeat (first | exact Holds.nil _ _ | refine Holds.cons (Wk.refl _ _) ?_))
    intro ⟨i, w1⟩ ⟨hi, hi2, hi3⟩ Q' hb hx hr
    simp only at hi hi2 hi3
    cbv
    split
    · rename_i hlt
      rw [hk.c2_lss, decide_eq_true_eq] at hlt
      refine ⟨hk.idx hi hlt, ?_⟩
      cbv
      have hil := hk.lt_lnI l i hi hlt
      obtain ⟨x, hx0⟩ : ∃ x, x = gtI l i := ⟨_, rfl⟩
      rw [← hx0]
      have hx1 : x = l.getD i.toNat 0 := by rw [hx0, hk.gtI_eq]
      have hxr : -9223372036854775808 ≤ x ∧ x ≤ 9223372036854775807 := by
        rw [hx1, List.getD_eq_getElem?_getD, List.getElem?_eq_getElem hil]
        exact hrg _ (List.getElem_mem hil)
      refine hk.loopI (loop_rule (α := Int × Int) (fun y => [(0, .ls (.il .i64 l) .any), (2, .bool false), (3, .int .i64 w1), (15, .ls (.il .i64 l) .any), (16, .int .i64 (lnI l)), (17, .int .i64 i), (5, .int .i64 y.1), (6, .int .i64 y.2)]) (fun x => [])
        (fun y => 0 ≤ y.2 ∧ y.2 ≤ 24 ∧ -9223372036854775808 ≤ y.1 ∧ y.1 ≤ 9223372036854775807 ∧ (∀ j : Nat, j < y.2.toNat → pb x j = 0) ∧ ∀ j : Nat, pb x (y.2.toNat + j) = pb y.1 j) (fun y => (24 - y.2).toNat) (x, 0) ⟨by omega, by omega, hxr.1, hxr.2, fun j hj => absurd hj (by simp), fun j => by simp⟩ ?_ ?_)
      · exact Gh.tm (by repeat (first | exact Holds.nil _ _ | refine Holds.cons (Wk.refl _ _) ?_))
      intro ⟨n, k⟩ ⟨k0, k1, n0, n1, z1, z2⟩ Q2 hb2 hx2 hr2
      simp only at k0 k1 n0 n1 z1 z2
      cbv
      split
      · rename_i hk24
        rw [hk.c2_lss, decide_eq_true_eq] at hk24
        cbv
        refine ⟨hk.ndI (by simp [rNd]), ?_⟩
        split
        · rename_i he
          rw [hk.c2_eql, decide_eq_true_eq, hk.i2_rem] at he
          obtain ⟨e1, e2⟩ := half_even n he
          cbv
          refine ⟨hk.ndI (by simp [rNd]), ?_⟩
          have e3 : i2 .quo .i64 n 2 = n / 2 := by
            rw [hk.i2_quo, e1]
            exact wrap64 (by omega) (by omega)
          refine hb2 (n / 2, k + 1) _ ⟨by simp only; omega, by simp only; omega, by simp only; omega, by simp only; omega, fun j hj => ?_, fun j => ?_⟩ (by simp only; omega) ?_
          · simp only at hj
            by_cases e : j = k.toNat
            · subst e
              have := z2 0
              rw [Nat.add_zero] at this
              rw [this, e2]
            · exact z1 j (by omega)
          · simp only
            rw [pb_half, ← z2, show (k + 1).toNat + j = k.toNat + (j + 1) by omega]
          · refine Gh.tm ?_
            refine Holds.cons (Wk.refl _ _) <| Holds.cons (Wk.refl _ _) <| Holds.cons (Wk.refl _ _) <| Holds.cons (Wk.refl _ _) <| Holds.cons (Wk.refl _ _) <| Holds.cons (Wk.refl _ _) <| Holds.cons (Wk.of_eq ?_) <| Holds.cons (Wk.of_eq ?_) <| Holds.nil _ _
            · rw [← e3]; rfl
            · rw [← hk.add64 k 1 (by omega) (by omega)]
              rfl
        · rename_i he
          rw [hk.c2_eql, decide_eq_false_iff_not, hk.i2_rem] at he
          have e2 := odd_one n he
          have hlow : IsLow (fun j => pb (l.getD i.toNat 0) j = 1) k := ⟨k0, k1, fun j hj => by show ¬ pb (l.getD i.toNat 0) j = 1; rw [← hx1, z1 j hj]; decide, .inr (by
            have := z2 0
            rw [Nat.add_zero] at this
            simp only
            rw [← hx1, this, e2])⟩
          refine hx2 _ _ ?_
          cbv
          refine hb (i + 1, if k < w1 then k else w1) _ ⟨by simp only; omega, by simp only; omega, ?_⟩ (by simp only; omega) ?_
          · simp only
            rw [show (i + 1).toNat = i.toNat + 1 by omega]
            exact hi3.grow hlow
          · refine Gh.tm ?_
            refine Holds.cons (Wk.refl _ _) <| Holds.cons (Wk.refl _ _) <| Holds.cons (Wk.of_eq ?_) <| Holds.cons (Wk.refl _ _) <| Holds.cons (Wk.refl _ _) <| Holds.cons (Wk.of_eq ?_) <| Holds.nil _ _
            · show AVal.int .i64 (mn w1 k) = _
              rw [hk.mn_eq]
            · rw [← hk.add64 i 1 (by omega) (by omega)]
              rfl
      · rename_i hk24
        rw [hk.c2_lss, decide_eq_false_iff_not] at hk24
        have hlow : IsLow (fun j => pb (l.getD i.toNat 0) j = 1) k := ⟨k0, k1, fun j hj => by show ¬ pb (l.getD i.toNat 0) j = 1; rw [← hx1, z1 j hj]; decide, .inl (by omega)⟩
        cbv
        refine hx2 _ _ ?_
        cbv
        refine hb (i + 1, if k < w1 then k else w1) _ ⟨by simp only; omega, by simp only; omega, ?_⟩ (by simp only; omega) ?_
        · simp only
          rw [show (i + 1).toNat = i.toNat + 1 by omega]
          exact hi3.grow hlow
        · refine Gh.tm ?_
          refine Holds.cons (Wk.refl _ _) <| Holds.cons (Wk.refl _ _) <| Holds.cons (Wk.of_eq ?_) <| Holds.cons (Wk.refl _ _) <| Holds.cons (Wk.refl _ _) <| Holds.cons (Wk.of_eq ?_) <| Holds.nil _ _
          · show AVal.int .i64 (mn w1 k) = _
            rw [hk.mn_eq]
          · rw [← hk.add64 i 1 (by omega) (by omega)]
            rfl
    · rename_i hge
      rw [hk.c2_lss, decide_eq_false_iff_not] at hge
      have hi4 : i = lnI l := by omega
      subst hi4
      rw [hk.lnI_toNat] at hi3
      refine hx _ _ ?_
      cbv
      refine hk.call1 (shift_spec l [] (by have := hk.lnI_eq l; omega) hw) ?_
      cbv
      refine hk.fin1 ?_
      rw [hk.c2_eql, hw.uniq hi3]
      simp
end Go.Proofs.Ytnnpookoencpnaa
