/-
  Contracts of functions of the program, proved over the abstract machine of the Al texts.
-/
import Derived.Test.YtnkaagbepppodaaMeterI
set_option linter.unusedSimpArgs false
set_option linter.unusedVariables false
set_option maxHeartbeats 4000000
open Go Go.AL
namespace Go.Proofs.Ytnkaagbepppodaa
theorem chk_part {l : List Int} {m : List Int} (h : chk l = 0) (hlen : m.length ≤ l.length) (hsub : ∀ x ∈ m, x ∈ l) : chk m = 0 := by
  have h1 := (chk_zero h).1
  unfold chk at h ⊢
  rw [if_neg (by omega)] at h ⊢
  have h2 : l.any loudf = false := by
    cases hb : l.any loudf
    · rfl
    · rw [hb] at h; simp at h
  have : m.any loudf = false := by
    rw [List.any_eq_false] at h2 ⊢
    exact fun x hx => h2 x (hsub x hx)
  rw [this]
  rfl
theorem joins_plain {l : List Int} {k : Nat} (h : chk l = 0) (h2 : l.length ≤ 200) (hk : k ≤ l.length) :
    jn (plevs (l.take k) (l.take k).length) (plevs (l.drop k) (l.drop k).length) (decide (k < l.length) && turnP l k) = plevs l l.length ∧
    (∀ b, IntKind.wrap .i64 ((plevs (l.take k) (l.take k).length).2.1 + (plevs (l.drop k) (l.drop k).length).2.1) = (plevs (l.take k) (l.take k).length).2.1 + (plevs (l.drop k) (l.drop k).length).2.1 ∧
      IntKind.wrap .i64 ((plevs (l.take k) (l.take k).length).2.2.1 + (plevs (l.drop k) (l.drop k).length).2.2.1) = (plevs (l.take k) (l.take k).length).2.2.1 + (plevs (l.drop k) (l.drop k).length).2.2.1 ∧
      (if b = true then IntKind.wrap .i64 (IntKind.wrap .i64 ((plevs (l.take k) (l.take k).length).2.2.2 + (plevs (l.drop k) (l.drop k).length).2.2.2) + 1) else IntKind.wrap .i64 ((plevs (l.take k) (l.take k).length).2.2.2 + (plevs (l.drop k) (l.drop k).length).2.2.2)) =
        (if b = true then (plevs (l.take k) (l.take k).length).2.2.2 + (plevs (l.drop k) (l.drop k).length).2.2.2 + 1 else (plevs (l.take k) (l.take k).length).2.2.2 + (plevs (l.drop k) (l.drop k).length).2.2.2)) := by
  have lt : (l.take k).length = k := by simp; omega
  have ld : (l.drop k).length = l.length - k := by simp
  have ca : chk (l.take k) = 0 := chk_part h (by omega) (fun x hx => List.mem_of_mem_take hx)
  have cd : chk (l.drop k) = 0 := chk_part h (by omega) (fun x hx => List.mem_of_mem_drop hx)
  obtain ⟨ea, a1, a2, a3, a4, a5, a6, a7⟩ := plevs_x ca (by omega) _ (Nat.le_refl _)
  obtain ⟨ed, d1, d2, d3, d4, d5, d6, d7⟩ := plevs_x cd (by omega) _ (Nat.le_refl _)
  obtain ⟨el, -⟩ := plevs_x h h2 _ (Nat.le_refl _)
  rw [ea, ed, el]
  constructor
  · have e1 : xl (l.take k) (l.take k).length = xl l k := by
      rw [lt]
      exact xl_congr fun i hi => by simp [List.getD, List.getElem?_take, hi]
    have e2 := xl_add l k (l.length - k)
    rw [show k + (l.length - k) = l.length by omega] at e2
    rw [e1, ld, e2]
    congr 2
    by_cases h0 : k < l.length
    · have : l.length - k > 0 := by omega
      simp [h0, this]
    · have : ¬ l.length - k > 0 := by omega
      simp [h0, this]
  · intro b
    have w1 := wrap64 (n := (xl (l.take k) (l.take k).length).2.1 + (xl (l.drop k) (l.drop k).length).2.1) (by omega) (by omega)
    have w2 := wrap64 (n := (xl (l.take k) (l.take k).length).2.2.1 + (xl (l.drop k) (l.drop k).length).2.2.1) (by omega) (by omega)
    have w3 := wrap64 (n := (xl (l.take k) (l.take k).length).2.2.2 + (xl (l.drop k) (l.drop k).length).2.2.2) (by omega) (by omega)
    have w4 := wrap64 (n := (xl (l.take k) (l.take k).length).2.2.2 + (xl (l.drop k) (l.drop k).length).2.2.2 + 1) (by omega) (by omega)
    refine ⟨w1, w2, ?_⟩
    rw [w3, w4]
theorem ofA_ok {m : List Int} (h : chk m = 0) : ofA m = .tup [agg4 (plevs m m.length), .int .i64 0] := by rw [ofA, if_pos h]
theorem joins_spec (l : List Int) (cut : Int) (h0 : 0 ≤ cut) (h1 : cut ≤ 255) : Does PP 4 [.ls (.il .i64 l) .any, .int .u8 cut] [] (Is (.bool true) []) := by
  refine doesF P_ok Try.f4 (by kernel_rfl) (by kernel_rfl) ?_
  intro i2 c2 u1 cv mx mn ad sbt bn bq ba lnI gtI apI sbI stI rpI lnG gtG apG sbG stG rpG fi fb fs fl fg fc sln sgt sap ssb sc b2s s2b nd call calld callv callvd loop rfun fin hk
  obtain ⟨c, hc⟩ : ∃ c, c = chk l := ⟨_, rfl⟩
  have hof := of_spec
  have hchk := rcheck_spec l
  rw [← hc] at hchk
  have hlen : ¬ lnI l > 200 → l.length ≤ 200 := by rw [hk.lnI_eq]; omega
  cbv
  refine hk.call1 (awake_spec _) ?_
  cbv
  split <;> cbv
  · rename_i h1
    exact absurd h1 (by rw [hk.bn_eq]; decide)
  split <;> cbv
  · refine hk.call1 (awake_spec _) ?_
    cbv
    exact hk.fin0 rfl rfl (Wk.refl _ _)
  · rename_i h200
    have hl := hlen (by rw [hk.c2_gtr, decide_eq_false_iff_not] at h200; exact h200)
    refine hk.call1 (hchk _ (by omega)) ?_
    cbv
    split <;> cbv
    · refine hk.call1 (awake_spec _) ?_
      cbv
      exact hk.fin0 rfl rfl (Wk.refl _ _)
    · rename_i hc0
      rw [hk.c2_neq, decide_eq_false_iff_not, Decidable.not_not, hc] at hc0
      have hn := hk.lnI_nn l
      have hn2 : lnI l ≤ 200 := by
        rw [hk.c2_gtr, decide_eq_false_iff_not] at h200
        omega
      have e1 : i2 .add .i64 (lnI l) 1 = lnI l + 1 := hk.add64 _ _ (by omega) (by omega)
      have e2 : cv .i64 cut = cut := by rw [hk.cv_eq]; exact wrap64 (by omega) (by omega)
      obtain ⟨k, hkk⟩ : ∃ k, k = i2 .rem .i64 (cv .i64 cut) (i2 .add .i64 (lnI l) 1) := ⟨_, rfl⟩
      have k0 : 0 ≤ k := by rw [hkk, hk.i2_rem, e1, e2]; exact Int.tmod_nonneg _ h0
      have k1 : k ≤ lnI l := by
        have := Int.tmod_lt_of_pos cut (b := lnI l + 1) (by omega)
        rw [hkk, hk.i2_rem, e1, e2]; omega
      rw [← hkk]
      have ht : k.toNat ≤ l.length := by rw [← hk.lnI_toNat l]; omega
      have ela : sbI l 0 k = l.take k.toNat := by rw [hk.sbI_eq]; simp
      have elb : sbI l k (lnI l) = l.drop k.toNat := by
        rw [hk.sbI_eq]
        apply List.take_of_length_le
        rw [List.length_drop, ← hk.lnI_toNat l]
        omega
      obtain ⟨J1, J2⟩ := joins_plain hc0 hl ht
      have ca : chk (l.take k.toNat) = 0 := chk_part hc0 (by rw [List.length_take]; omega) (fun x hx => List.mem_of_mem_take hx)
      have cb : chk (l.drop k.toNat) = 0 := chk_part hc0 (by rw [List.length_drop]; omega) (fun x hx => List.mem_of_mem_drop hx)
      have hA := fun h => hof (sbI l 0 k) h (by rw [ela]; simp; omega)
      have hB := fun h => hof (sbI l k (lnI l)) h (by rw [elb]; simp; omega)
      have hC := fun h => hof l h (by omega)
      simp only [ela, elb, ofA_ok ca, ofA_ok cb, ofA_ok hc0] at hA hB hC
      generalize plevs (l.take k.toNat) (l.take k.toNat).length = a at hA J1 J2
      generalize plevs (l.drop k.toNat) (l.drop k.toNat).length = b at hB J1 J2
      generalize plevs l l.length = x at hC J1
      obtain ⟨a1, a2, a3, a4⟩ := a
      obtain ⟨b1, b2, b3, b4⟩ := b
      obtain ⟨x1, x2, x3, x4⟩ := x
      simp only [agg4] at hA hB hC
      rw [← ela] at hA
      rw [← elb] at hB
      simp only [jn, Prod.mk.injEq] at J1 J2
      obtain ⟨j1, j2, j3, j4⟩ := J1
      have hT : (c2 .gtr k 0 && (c2 .lss k (lnI l) && bn (bq (c2 .lss (gtI l (i2 .sub .i64 k 1)) 0) (c2 .lss (gtI l k) 0)))) = (decide (k.toNat < l.length) && turnP l k.toNat) := by
        have q1 : decide (k.toNat < l.length) = decide (k < lnI l) := by
          rw [← hk.lnI_toNat l]
          by_cases hh : k < lnI l
          · have : k.toNat < (lnI l).toNat := by omega
            simp [hh, this]
          · have : ¬ k.toNat < (lnI l).toNat := by omega
            simp [hh, this]
        rw [q1, turnP]
        by_cases h0 : k > 0
        · have e : (k - 1).toNat = k.toNat - 1 := by omega
          have e2 : k.toNat > 0 := by omega
          rw [hk.sub64 k 1 (by omega) (by omega)]
          simp only [hk.c2_gtr, hk.c2_lss, hk.bn_eq, hk.bq_eq, hk.gtI_eq, e, h0, e2, decide_true, Bool.true_and]
          cases decide (l.getD k.toNat 0 < 0) <;> cases decide (l.getD (k.toNat - 1) 0 < 0) <;> rfl
        · have e2 : ¬ k.toNat > 0 := by omega
          simp only [hk.c2_gtr, h0, e2, decide_false, Bool.false_and, Bool.and_false]
      have hj : ∀ t, t = (decide (k.toNat < l.length) && turnP l k.toNat) → ∀ h, Does PP 16 [.agg [.int .i64 a1, .int .i64 a2, .int .i64 a3, .int .i64 a4], .agg [.int .i64 b1, .int .i64 b2, .int .i64 b3, .int .i64 b4], .bool t] h
          (Is (.agg [.int .i64 x1, .int .i64 x2, .int .i64 x3, .int .i64 x4]) h) := fun t e h => by
        have := join_spec a1 a2 a3 a4 b1 b2 b3 b4 t h
        obtain ⟨g1, g2, g3⟩ := J2 t
        rw [joined, g1, g2, g3, e, j1, j2, j3, j4] at this
        rw [e]
        exact this
      have hsub : c2 .gtr k 0 = true → c2 .lss k (lnI l) = true → nd (.idx (i2 .sub .i64 k 1) (lnI l)) ∧ nd (.idx k (lnI l)) := fun h g => by
        rw [hk.c2_gtr, decide_eq_true_eq] at h
        rw [hk.c2_lss, decide_eq_true_eq] at g
        have e := hk.sub64 k 1 (by omega) (by omega)
        exact ⟨by rw [e]; exact hk.idx (by omega) (by omega), hk.idx k0 g⟩
      refine ⟨hk.ndI (by rw [e1]; show _ ≠ _; omega), hk.ndI ⟨Int.le_refl 0, k0, k1⟩, hk.call1 (hA _) ?_⟩
      cbv
      refine ⟨hk.ndI ⟨k0, k1, Int.le_refl _⟩, hk.call1 (hB _) ?_⟩
      cbv
      refine hk.call1 (hC _) ?_
      cbv
      have h00 : c2 .eql 0 0 = true := by rw [hk.c2_eql]; decide
      repeat' (first
        | (refine hk.calld1 (hj _ (by rw [← hT, ‹c2 .gtr k 0 = true›, ‹c2 .lss k (lnI l) = true›]; rfl) _) ?_; cbv)
        | (refine hk.calld1 (hj _ (by rw [← hT, ‹c2 .gtr k 0 = false›]; rfl) _) ?_; cbv)
        | (refine hk.calld1 (hj _ (by rw [← hT, ‹c2 .gtr k 0 = true›, ‹c2 .lss k (lnI l) = false›]; rfl) _) ?_; cbv)
        | (refine hk.call1 (hj _ (by rw [← hT, ‹c2 .gtr k 0 = true›, ‹c2 .lss k (lnI l) = true›]; rfl) _) ?_; cbv)
        | (refine hk.call1 (hj _ (by rw [← hT, ‹c2 .gtr k 0 = false›]; rfl) _) ?_; cbv)
        | (refine hk.call1 (hj _ (by rw [← hT, ‹c2 .gtr k 0 = true›, ‹c2 .lss k (lnI l) = false›]; rfl) _) ?_; cbv)
        | (refine ⟨(hsub (by assumption) (by assumption)).1, ?_⟩; cbv)
        | (refine ⟨(hsub (by assumption) (by assumption)).2, ?_⟩; cbv)
        | (rename_i hfal; exact absurd (h00.symm.trans hfal) (by decide))
        | exact hk.fin0 rfl rfl (Wk.of_eq (by simp [hk.ba_eq, hk.c2_eql]))
        | (split <;> cbv))
end Go.Proofs.Ytnkaagbepppodaa
