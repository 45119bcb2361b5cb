/- The spans of quiet neighbours are the document's. -/
import Derived.Test.YtnkaagbepppodaaMeterQy
set_option linter.unusedSimpArgs false
set_option linter.unusedVariables false
set_option maxHeartbeats 4000000
open Go Go.AL
namespace Go.Proofs.Ytnkaagbepppodaa
def quietC (l : List Int) (most least : Int) : AVal := .clo (.func 43) [] [.pp [.ls (.il .i64 l) .any], .pp [.int .i64 most], .pp [.int .i64 least]]
theorem quiet_spec (l : List Int) (most least : Int) (h : Heap) : Does PP 23 [.ls (.il .i64 l) .any, .int .i64 most, .int .i64 least] h (Is (quietC l most least) h) := by
  refine pure0 (doesF P_ok Try.f23 (by kernel_rfl) (by kernel_rfl) ?_) rfl rfl h
  intro i2 c2 u1 cv mx mn ad sbt bn bq ba lnI gtI apI sbI stI rpI lnG gtG apG sbG stG rpG fi fb fs fl fg fc sln sgt sap ssb sc b2s s2b nd call calld callv callvd loop rfun fin hk
  cbv
  exact hk.finI (fin_fz 0 _ rfl rfl (fin_fz 1 _ rfl rfl (fin_fz 2 _ rfl rfl (fin_nil (Wk.refl _ _) rfl ⟨rfl, rfl⟩))))
def qH (s0 s1 m : Int) (W : List Int) (x : Int × Bool) : Heap := [.box [.int .i64 s0, .int .i64 s1], .box [.ls (.il .i64 W) .any], .box [.int .i64 x.1], .box [.int .i64 m], .box [.bool x.2]]
def qok (W : List Int) (x : Int × Bool) (a b : Int) : Bool := x.2 && (decide (2 * x.1 + 1 < W.length) && (decide (W.getD (2 * x.1).toNat 0 = a) && decide (W.getD (2 * x.1 + 1).toNat 0 = b)))
def qstep (W : List Int) (m : Int) (x : Int × Bool) (a b : Int) : (Int × Bool) × Bool := ((x.1 + 1, qok W x a b), qok W x a b && decide (x.1 + 1 < m))
theorem q24 (s0 s1 m : Int) (W : List Int) (x : Int × Bool) (a b : Int) (h0 : 0 ≤ x.1) (h1 : x.1 ≤ 100) (hW : W.length ≤ 402) : Does PP 24 [.int .i64 a, .int .i64 b, .ptr 4 0, .ptr 2 0, .ptr 1 0, .ptr 3 0] (qH s0 s1 m W x)
    (Is (.bool (qstep W m x a b).2) (qH s0 s1 m W (qstep W m x a b).1)) := by
  obtain ⟨n, ok⟩ := x
  simp only [] at h0 h1
  obtain ⟨q, hq⟩ : ∃ q, q = qok W (n, ok) a b := ⟨_, rfl⟩
  have hq2 := hq
  rw [qok] at hq2
  rw [qstep, ← hq]
  simp only [qH]
  refine doesF P_ok Try.f24 (by kernel_rfl) (by kernel_rfl) ?_
  intro i2 c2 u1 cv mx mn ad sbt bn bq ba lnI gtI apI sbI stI rpI lnG gtG apG sbG stG rpG fi fb fs fl fg fc sln sgt sap ssb sc b2s s2b nd call calld callv callvd loop rfun fin hk
  have hne := hk.lnI_eq W
  have hmul := hk.mul64 2 n (by omega) (by omega)
  have hadd := hk.add64 (2 * n) 1 (by omega) (by omega)
  have hadd1 := hk.add64 n 1 (by omega) (by omega)
  obtain ⟨n1, hn1⟩ : ∃ n1, n1 = n + 1 := ⟨_, rfl⟩
  have hlt := hk.c2_lss
  rw [← hn1] at hadd1 ⊢
  obtain ⟨rb, hrb⟩ : ∃ rb, rb = (q && decide (n1 < m)) := ⟨_, rfl⟩
  rw [← hrb]
  have hg := hk.gtI_eq W
  have hwl : ∀ j : Int, j < lnI W → j < (W.length : Int) := fun j h => by omega
  have hwl2 : ∀ j : Int, ¬ j < lnI W → ¬ j < (W.length : Int) := fun j h => by omega
  cbv
  split
  · cbv
    split
    · rename_i h1
      rw [hk.c2_lss, decide_eq_true_eq, hmul, hadd] at h1
      rw [decide_eq_true (hwl _ h1), Bool.true_and, Bool.true_and] at hq2
      cbv
      refine ⟨hk.idx (by rw [hmul]; omega) (by rw [hmul]; omega), ?_⟩
      cbv
      split
      · rename_i h2
        rw [hk.c2_eql, decide_eq_true_eq, hmul, hg] at h2
        rw [decide_eq_true h2, Bool.true_and] at hq2
        cbv
        refine ⟨hk.idx (by rw [hmul, hadd]; omega) (by rw [hmul, hadd]; omega), ?_⟩
        cbv
        split
        · rename_i h3
          rw [hk.c2_eql, decide_eq_true_eq, hmul, hadd, hg] at h3
          rw [decide_eq_true h3] at hq2
          cbv
          refine hk.finI (fin_same ⟨?_, ?_⟩)
          · show AVal.bool (c2 .lss (i2 .add .i64 n 1) m) = _
            rw [hrb, hq2, hadd1, hk.c2_lss]; rfl
          · show [AObj.box [.int .i64 s0, .int .i64 s1], .box [.ls (.il .i64 W) .any], .box [.int .i64 (i2 .add .i64 n 1)], .box [.int .i64 m], .box [.bool (c2 .eql (gtI W (i2 .add .i64 (i2 .mul .i64 2 n) 1)) b)]] = _
            rw [hadd1, hq2, hk.c2_eql, hmul, hadd, hg, decide_eq_true h3]
        · rename_i h3
          rw [hk.c2_eql, decide_eq_false_iff_not, hmul, hadd, hg] at h3
          rw [decide_eq_false h3] at hq2
          cbv
          refine hk.finI (fin_same ⟨?_, ?_⟩)
          · rw [hrb, hq2]; rfl
          · rw [hq2, hadd1, hk.c2_eql, hmul, hadd, hg, decide_eq_false h3]
      · rename_i h2
        rw [hk.c2_eql, decide_eq_false_iff_not, hmul, hg] at h2
        rw [decide_eq_false h2, Bool.false_and] at hq2
        cbv
        refine hk.finI (fin_same ⟨?_, ?_⟩)
        · rw [hrb, hq2]; rfl
        · rw [hq2, hadd1]
    · rename_i h1
      rw [hk.c2_lss, decide_eq_false_iff_not, hmul, hadd] at h1
      rw [decide_eq_false (hwl2 _ h1), Bool.false_and, Bool.and_false] at hq2
      cbv
      refine hk.finI (fin_same ⟨?_, ?_⟩)
      · rw [hrb, hq2]; rfl
      · rw [hq2, hadd1]
  · rw [Bool.false_and] at hq2
    cbv
    refine hk.finI (fin_same ⟨?_, ?_⟩)
    · rw [hrb, hq2]; rfl
    · rw [hq2, hadd1]
theorem flat_get (pre r : List (Int × Int)) (a b : Int) : (flat (pre ++ (a, b) :: r)).getD (2 * pre.length) 0 = a ∧ (flat (pre ++ (a, b) :: r)).getD (2 * pre.length + 1) 0 = b := by
  induction pre with
  | nil => simp [flat]
  | cons p pre ih =>
    have e1 : 2 * (p :: pre).length = 2 * pre.length + 1 + 1 := by simp; omega
    obtain ⟨x, y⟩ := p
    rw [e1]
    simpa [flat] using ih
theorem feed_quiet (m : Int) : ∀ (rest pre : List (Int × Int)), (pre.length = 0 ∨ (pre.length : Int) < m) →
    feed (qstep (flat (pre ++ rest)) m) rest ((pre.length : Int), true) = (min ((pre ++ rest).length : Int) (max m 1), true)
  | [], pre, h => by
    simp only [feed, List.append_nil, Prod.mk.injEq, and_true]
    omega
  | (a, b) :: r, pre, h => by
    have ih := feed_quiet m r (pre ++ [(a, b)])
    obtain ⟨g1, g2⟩ := flat_get pre r a b
    have hok : qok (flat (pre ++ (a, b) :: r)) ((pre.length : Int), true) a b = true := by
      have e1 : (2 * (pre.length : Int)).toNat = 2 * pre.length := by omega
      have e2 : (2 * (pre.length : Int) + 1).toNat = 2 * pre.length + 1 := by omega
      simp only [qok, e1, e2, g1, g2, flat_len]
      simp
      omega
    simp only [feed, qstep, hok, Bool.true_and]
    split
    · rename_i h2
      rw [decide_eq_true_eq] at h2
      have := ih (by simp; omega)
      simpa using this
    · rename_i h2
      rw [decide_eq_false_iff_not] at h2
      simp
      omega
theorem rem_bound (a : Int) : a.tmod 20 < 20 ∧ -20 < a.tmod 20 := by
  have h1 := Int.tmod_lt_of_pos a (show (0 : Int) < 20 by decide)
  refine ⟨h1, ?_⟩
  have h2 := Int.tmod_lt_of_pos (-a) (show (0 : Int) < 20 by decide)
  rw [Int.neg_tmod] at h2
  omega
theorem quiet_law (l : List Int) (s0 s1 most : Int) : Does PP 6 [.ls (.il .i64 l) .any, .agg [.int .i64 s0, .int .i64 s1], .int .u8 most] [] (Is (.bool true) []) := by
  refine doesF P_ok Try.f6 (by kernel_rfl) (by kernel_rfl) ?_
  intro i2 c2 u1 cv mx mn ad sbt bn bq ba lnI gtI apI sbI stI rpI lnG gtG apG sbG stG rpG fi fb fs fl fg fc sln sgt sap ssb sc b2s s2b nd call calld callv callvd loop rfun fin hk
  obtain ⟨c, hc⟩ : ∃ c, c = chk l := ⟨_, rfl⟩
  have hchk := rcheck_spec l
  rw [← hc] at hchk
  have hlen : ¬ lnI l > 200 → l.length ≤ 200 := by rw [hk.lnI_eq]; omega
  obtain ⟨W, hW⟩ : ∃ W, W = flat (spans l s0 s1) := ⟨_, rfl⟩
  have hWl : l.length ≤ 200 → W.length ≤ 402 := fun h => by rw [hW, flat_len]; have := spans_len l s0 s1; omega
  have hWl2 : W.length = 2 * (spans l s0 s1).length := by rw [hW, flat_len]
  have hWn := hk.lnI_eq W
  obtain ⟨m, hm⟩ : ∃ m, m = cv .i64 (i2 .rem .u8 most 20) := ⟨_, rfl⟩
  have hmb : m < 20 ∧ -20 < m := by
    have := rem_bound most
    rw [hm, hk.cv_eq, hk.i2_rem, wrap64 (by omega) (by omega)]
    exact this
  have hend : l.length ≤ 200 → mn (i2 .quo .i64 (lnI W) 2) (mx m 1) = min ((spans l s0 s1).length : Int) (max m 1) := fun hl => by
    have e : ((2 * (spans l s0 s1).length : Nat) : Int).tdiv 2 = ((spans l s0 s1).length : Int) := by rw [Int.tdiv_eq_ediv_of_nonneg (by omega)]; omega
    rw [hk.mn_eq, hk.mx_eq, hk.i2_quo, hk.lnI_eq, hWl2, e]
    have := spans_len l s0 s1
    rw [wrap64 (by omega) (by omega)]
    split <;> split <;> omega
  have hq := q22 l s0 s1
  rw [← hW] at hq
  have hquiet := quiet_spec l s0 s1
  rw [quietC] at hquiet
  have hs : ∀ n, c2 .lss n 1 = false → 1 ≤ n := fun n h => by rw [hk.c2_lss, decide_eq_false_iff_not] at h; omega
  cbv
  refine hk.call1 (awake_spec _) ?_
  cbv
  split <;> cbv
  · rename_i h1
    exact absurd h1 (by rw [hk.bn_eq]; decide)
  split <;> cbv
  · refine hk.call1 (awake_spec _) ?_
    cbv
    exact hk.fin0 rfl rfl (Wk.refl _ _)
  · rename_i h200
    have hl := hlen (by rw [hk.c2_gtr, decide_eq_false_iff_not] at h200; exact h200)
    refine hk.call1 (hchk _ (by omega)) ?_
    cbv
    split <;> cbv
    · refine hk.call1 (awake_spec _) ?_
      cbv
      exact hk.fin0 rfl rfl (Wk.refl _ _)
    split <;> cbv
    · refine hk.call1 (awake_spec _) ?_
      cbv
      exact hk.fin0 rfl rfl (Wk.refl _ _)
    split <;> cbv
    · refine hk.call1 (awake_spec _) ?_
      cbv
      exact hk.fin0 rfl rfl (Wk.refl _ _)
    split <;> cbv
    · refine hk.call1 (awake_spec _) ?_
      cbv
      exact hk.fin0 rfl rfl (Wk.refl _ _)
    rename_i hs1
    have h1 := hs s1 hs1
    refine hk.call1 (hq hl h1 _) ?_
    cbv
    refine ⟨hk.ndI (show _ ≠ _ by decide), ?_⟩
    cbv
    refine hk.call1 (hquiet _) ?_
    cbv
    rw [← hm]
    have h43 := q43 l s0 s1 hl h1 24 [.ptr 4 0, .ptr 2 0, .ptr 1 0, .ptr 3 0] (qH s0 s1 m W) (qstep W m) (fun i x => 0 ≤ x.1 ∧ x.1 ≤ 30) (fun i x h => h)
      (fun x a b _ _ _ hI => ⟨q24 s0 s1 m W x a b hI.1 (by omega) (hWl hl), fun h => by
        simp only [qstep, Bool.and_eq_true, decide_eq_true_eq] at h ⊢
        omega⟩) (0, true) ⟨by decide, by decide⟩
    have hf := feed_quiet m (spans l s0 s1) [] (.inl rfl)
    simp only [List.nil_append, ← hW, List.length_nil] at hf
    rw [show evsAt l s0 s1 0 0 = spans l s0 s1 from rfl, show ((0 : Int), true) = (((0 : Nat) : Int), true) from rfl, hf] at h43
    rw [show (spans l s0 s1).length = (spans l s0 s1).length from rfl] at h43
    obtain ⟨k, hk'⟩ : ∃ k, k = min ((spans l s0 s1).length : Int) (max m 1) := ⟨_, rfl⟩
    rw [← hk'] at h43
    simp only [qH] at h43
    refine hk.callI h43 ?_
    rintro _ _ ⟨rfl, rfl⟩
    cbv
    refine ⟨hk.ndI (show _ ≠ _ by decide), ?_⟩
    refine hk.fin0 rfl rfl (Wk.of_eq ?_)
    rw [hk.c2_eql, hend hl, hk', decide_eq_true rfl]
end Go.Proofs.Ytnkaagbepppodaa
