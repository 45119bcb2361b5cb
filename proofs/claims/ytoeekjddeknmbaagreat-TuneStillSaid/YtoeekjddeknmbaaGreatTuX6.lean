/-
  Contracts of functions of the program, proved over the abstract machine of the Al texts.
-/
import Derived.Test.YtoeekjddeknmbaaGreatTryTab
import Derived.Test.YtoeekjddeknmbaaGreatAl4
import Derived.Test.YtoeekjddeknmbaaGreatBaseX
import Derived.Test.YtoeekjddeknmbaaGreatBsX3
import Derived.Test.YtoeekjddeknmbaaGreatBsX8
import Derived.Test.YtoeekjddeknmbaaGreatPlX
import Derived.Test.YtoeekjddeknmbaaGreatTkX3
import Derived.Test.YtoeekjddeknmbaaGreatTuX4
import Derived.Test.YtoeekjddeknmbaaGreatTuX5
set_option maxHeartbeats 4000000
set_option maxRecDepth 20000
set_option linter.unusedSimpArgs false
set_option linter.unusedVariables false
open Go Go.AL
namespace Go.Proofs.YtoeekjddeknmbaaGreat
structure OrIn where
  p : Int
  q : Int
  hp : 0 ≤ p ∧ p < 256
  hq : 0 ≤ q ∧ q < 256
def OrIn.v (x : OrIn) : AVal := .agg [.int .u8 x.p, .int .u8 x.q]
theorem or_typed {v : AVal} (h : tyV T 4 41 v) : ∃ x : OrIn, v = x.v ∧ True := by
  obtain ⟨c, hc, ht⟩ := h
  subst hc
  obtain ⟨_, _, rfl, ⟨p, rfl, hp⟩, _, _, rfl, ⟨q, rfl, hq⟩, rfl⟩ := ht
  simp [Lit.wf, IntKind.min, IntKind.max, IntKind.signed, IntKind.bits] at hp hq
  exact ⟨⟨p, q, by omega, by omega⟩, rfl, trivial⟩
theorem more_core (l : List Int) (d p q lo hi E m n k : Int) (hl : l.length ≤ 9223372036854775807) (hp : 0 ≤ p ∧ p < 256) (hq : 0 ≤ q ∧ q < 256)
    (hlo : lo = if q % 9 < p % 9 then q % 9 else p % 9) (hhi : hi = if q % 9 > p % 9 then q % 9 else p % 9)
    (hR : l.length ≤ 16 → ∀ h, Does PP 10 [LI l, I d, .agg [I lo, I 0, .bool false, .bool false, .bool false]] h (Is (I E) h))
    (h1 : l.length ≤ 16 → ∀ h, Does PP 12 [LI l, I d, .agg [I lo, I 0, .bool false, .bool false, .bool false]] h (Is (I m) h))
    (h2 : l.length ≤ 16 → ∀ h, Does PP 12 [LI l, I d, .agg [I hi, I 0, .bool false, .bool false, .bool false]] h (Is (I n) h))
    (h3 : l.length ≤ 16 → ∀ h, Does PP 12 [LI l, I d, .agg [I hi, I 0, .bool true, .bool false, .bool false]] h (Is (I k) h))
    (hE : E = 0 → 2 ≤ n ∧ n ≤ m ∧ k ≤ n) : Does PP 5 [LI l, I d, .agg [.int .u8 p, .int .u8 q]] [] (Is (.bool true) []) := by
  have haw := awake13
  obtain ⟨N, hN⟩ : ∃ N : Int, N = (l.length : Nat) := ⟨_, rfl⟩
  by_cases h16 : N > 16
  · clear hR h1 h2 h3
    refine wlk Tryz.f5 ?_
    unhygienic intros
    have hln : lnI l = N := by rw [hk.lnI_eq]; omega
    (conv => cbv)
    repeat' (first | assumption | ((first | rw [hln] | refine hk.callA (haw _) ?_ | refine hk.calldA haw ?_ | refine stp ?_ | refine stpB (fun _ => ?_) (fun _ => ?_)) <;> (conv => cbv)) | exact stpF | fail)
    all_goals exact hk.fin0 rfl rfl (Wk.refl _ _)
  replace hR := hR (by omega)
  replace h1 := h1 (by omega)
  replace h2 := h2 (by omega)
  replace h3 := h3 (by omega)
  by_cases h0 : E = 0
  · obtain ⟨e1, e2, e3⟩ := hE h0
    subst h0
    refine wlk Tryz.f5 ?_
    unhygienic intros
    have hln : lnI l = N := by rw [hk.lnI_eq]; omega
    have c1 : cv .i64 (i2 .rem .u8 p 9) = p % 9 := by
      rw [hk.cv_eq, hk.i2_rem, Int.tmod_eq_emod_of_nonneg hp.1]; exact wrap64 (by omega) (by omega)
    have c3 : cv .i64 (i2 .rem .u8 q 9) = q % 9 := by
      rw [hk.cv_eq, hk.i2_rem, Int.tmod_eq_emod_of_nonneg hq.1]; exact wrap64 (by omega) (by omega)
    have c4 : mn (cv .i64 (i2 .rem .u8 p 9)) (cv .i64 (i2 .rem .u8 q 9)) = lo := by rw [c1, c3, hk.mn_eq, hlo]
    have c5 : mx (cv .i64 (i2 .rem .u8 p 9)) (cv .i64 (i2 .rem .u8 q 9)) = hi := by rw [c1, c3, hk.mx_eq, hhi]
    clear hlo hhi
    (conv => cbv)
    repeat' (first | assumption | ((first | rw [hln] | rw [c4] | rw [c5] | refine hk.callA (haw _) ?_ | refine hk.calldA haw ?_ | refine hk.callA (hR _) ?_ | refine hk.calldA hR ?_ | refine hk.callA (h1 _) ?_ | refine hk.calldA h1 ?_ | refine hk.callA (h2 _) ?_ | refine hk.calldA h2 ?_ | refine hk.callA (h3 _) ?_ | refine hk.calldA h3 ?_ | refine stp ?_ | refine stpB (fun _ => ?_) (fun _ => ?_)) <;> (conv => cbv)) | exact stpF | fail)
    all_goals first
      | exact hk.fin0 rfl rfl (Wk.refl _ _)
      | exact hk.fin0 rfl rfl (Wk.of_eq (congrArg _ (by rw [hk.c2_leq, decide_eq_true e3])))
  · clear h1 h2 h3 hE
    refine wlk Tryz.f5 ?_
    unhygienic intros
    have hln : lnI l = N := by rw [hk.lnI_eq]; omega
    have c1 : cv .i64 (i2 .rem .u8 p 9) = p % 9 := by
      rw [hk.cv_eq, hk.i2_rem, Int.tmod_eq_emod_of_nonneg hp.1]; exact wrap64 (by omega) (by omega)
    have c3 : cv .i64 (i2 .rem .u8 q 9) = q % 9 := by
      rw [hk.cv_eq, hk.i2_rem, Int.tmod_eq_emod_of_nonneg hq.1]; exact wrap64 (by omega) (by omega)
    have c4 : mn (cv .i64 (i2 .rem .u8 p 9)) (cv .i64 (i2 .rem .u8 q 9)) = lo := by rw [c1, c3, hk.mn_eq, hlo]
    have c5 : mx (cv .i64 (i2 .rem .u8 p 9)) (cv .i64 (i2 .rem .u8 q 9)) = hi := by rw [c1, c3, hk.mx_eq, hhi]
    clear hlo hhi
    (conv => cbv)
    repeat' (first | assumption | ((first | rw [hln] | rw [c4] | rw [c5] | refine hk.callA (haw _) ?_ | refine hk.calldA haw ?_ | refine hk.callA (hR _) ?_ | refine hk.calldA hR ?_ | refine stp ?_ | refine stpB (fun _ => ?_) (fun _ => ?_)) <;> (conv => cbv)) | exact stpF | fail)
    all_goals exact hk.fin0 rfl rfl (Wk.refl _ _)
theorem tuneMore_law (l : List Int) (hl : l.length ≤ 9223372036854775807) (d : Int) (x : OrIn) (hx : True) : Does PP 5 [LI l, I d, x.v] [] (Is (.bool true) []) := by
  obtain ⟨p, q, hp, hq⟩ := x
  obtain ⟨lo, hlo⟩ : ∃ x : Int, x = if q % 9 < p % 9 then q % 9 else p % 9 := ⟨_, rfl⟩
  obtain ⟨hi, hhi⟩ : ∃ x : Int, x = if q % 9 > p % 9 then q % 9 else p % 9 := ⟨_, rfl⟩
  have hlh : lo ≤ hi ∧ 0 ≤ lo ∧ hi ≤ 8 := by
    split at hlo <;> split at hhi <;> omega
  refine more_core l d p q lo hi (bestE l d lo) (bestC l d lo false false) (bestC l d hi false false) (bestC l d hi true false) hl hp hq hlo hhi
    (fun h1 h => right13_spec l d lo 0 false false false h (by omega)) (fun h1 h => tcost_spec l d lo 0 false false false h (by omega)) (fun h1 h => tcost_spec l d hi 0 false false false h (by omega)) (fun h1 h => tcost_spec l d hi 0 true false false h (by omega)) (fun he => ?_)
  obtain ⟨_, hc⟩ := bestE_ok he
  have he2 : bestE l d hi = 0 := by rw [bestE, if_pos (by omega)]; exact hc
  unfold bestC
  rw [if_pos he, if_pos he2, if_pos he2]
  exact ⟨bestR_two he2, bestR_mono l d false false hlh.1, bestR_lags l d hi false⟩
theorem u8_typed {v : AVal} (h : tyV T 4 5 v) : ∃ p : Int, v = .int .u8 p ∧ 0 ≤ p ∧ p < 256 := by
  obtain ⟨z, hz, hw⟩ := h
  injection hz with hz _
  simp [Lit.wf, IntKind.min, IntKind.max, IntKind.signed, IntKind.bits] at hw
  exact ⟨z, hz, by omega, by omega⟩
theorem still_out (n p o dp : Int) (lags wv sft : Bool) (h0 : n < -32768 ∨ n > 32767 ∨ lags = true ∨ o < 0 ∨ o > 16) :
    Does PP 6 [I n, .int .u8 p, .agg [I o, I dp, .bool lags, .bool wv, .bool sft]] [] (Is (.bool true) []) := by
  have haw := awake13
  refine wlk Tryz.f6 ?_
  unhygienic intros
  by_cases h1 : n < -32768
  · (conv => cbv)
    repeat' (first | assumption | ((first | refine hk.callA (haw _) ?_ | refine hk.calldA haw ?_ | refine stp ?_ | refine stpB (fun _ => ?_) (fun _ => ?_)) <;> (conv => cbv)) | exact stpF | fail)
    all_goals exact hk.fin0 rfl rfl (Wk.refl _ _)
  by_cases h2 : n > 32767
  · (conv => cbv)
    repeat' (first | assumption | ((first | refine hk.callA (haw _) ?_ | refine hk.calldA haw ?_ | refine stp ?_ | refine stpB (fun _ => ?_) (fun _ => ?_)) <;> (conv => cbv)) | exact stpF | fail)
    all_goals exact hk.fin0 rfl rfl (Wk.refl _ _)
  cases lags
  · by_cases h3 : o < 0
    · (conv => cbv)
      repeat' (first | assumption | ((first | refine hk.callA (haw _) ?_ | refine hk.calldA haw ?_ | refine stp ?_ | refine stpB (fun _ => ?_) (fun _ => ?_)) <;> (conv => cbv)) | exact stpF | fail)
      all_goals exact hk.fin0 rfl rfl (Wk.refl _ _)
    · have h4 : o > 16 := by
        rcases h0 with h | h | h | h | h
        · omega
        · omega
        · cases h
        · omega
        · exact h
      (conv => cbv)
      repeat' (first | assumption | ((first | refine hk.callA (haw _) ?_ | refine hk.calldA haw ?_ | refine stp ?_ | refine stpB (fun _ => ?_) (fun _ => ?_)) <;> (conv => cbv)) | exact stpF | fail)
      all_goals exact hk.fin0 rfl rfl (Wk.refl _ _)
  · (conv => cbv)
    repeat' (first | assumption | ((first | refine hk.callA (haw _) ?_ | refine hk.calldA haw ?_ | refine stp ?_ | refine stpB (fun _ => ?_) (fun _ => ?_)) <;> (conv => cbv)) | exact stpF | fail)
    all_goals exact hk.fin0 rfl rfl (Wk.refl _ _)
theorem still_core (n p o dp m K : Int) (wv sft : Bool) (x : BlkIn) (hp : 0 ≤ p ∧ p < 256) (hm : m = 2 + p % 30) (n0 : -32768 ≤ n) (n1 : n ≤ 32767) (o0 : 0 ≤ o) (o1 : o ≤ 16)
    (hB : ∀ h, Does PP 9 [LI (List.replicate m.toNat n), I 16, .agg [I o, I dp, .bool false, .bool wv, .bool sft]] h (Is (.tup [x.v, I 0]) h))
    (hC : ∀ h, Does PP 12 [LI (List.replicate m.toNat n), I 16, .agg [I o, I dp, .bool false, .bool wv, .bool sft]] h (Is (I K) h))
    (hx : n = 0 → x.kd = 0) (hK : K ≤ 18) : Does PP 6 [I n, .int .u8 p, .agg [I o, I dp, .bool false, .bool wv, .bool sft]] [] (Is (.bool true) []) := by
  have haw := awake13
  obtain ⟨R, hR⟩ : ∃ R : Int → List Int, ∀ i, R i = List.replicate i.toNat n := ⟨_, fun _ => rfl⟩
  have hR0 : R 0 = [] := by rw [hR]; rfl
  have hRl : ∀ i : Int, 0 ≤ i → ((R i).length : Int) = i := fun i a => by rw [hR, List.length_replicate]; omega
  have hRs : ∀ i : Int, 0 ≤ i → R (i + 1) = R i ++ [n] := fun i a => by rw [hR, hR, show (i + 1).toNat = i.toNat + 1 by omega, List.replicate_succ']
  rw [← hR] at hB hC
  obtain ⟨RM, hRM⟩ : ∃ r, r = R m := ⟨_, rfl⟩
  rw [← hRM] at hB hC
  have hB2 : ∀ i j h, Does PP 9 [.ls (.il .i64 RM) (.tok i j), I 16, .agg [I o, I dp, .bool false, .bool wv, .bool sft]] h (Is (.tup [x.v, I 0]) h) := fun i j h => (hB h).wk (by repeat' (first | exact WkL.nil | refine WkL.cons (Wk.refl _ _) ?_ | refine WkL.cons (Wk.any _ _ _) ?_ | refine WkL.cons (Wk.nilL _ _) ?_))
  have hC2 : ∀ i j h, Does PP 12 [.ls (.il .i64 RM) (.tok i j), I 16, .agg [I o, I dp, .bool false, .bool wv, .bool sft]] h (Is (I K) h) := fun i j h => (hC h).wk (by repeat' (first | exact WkL.nil | refine WkL.cons (Wk.refl _ _) ?_ | refine WkL.cons (Wk.any _ _ _) ?_ | refine WkL.cons (Wk.nilL _ _) ?_))
  have hB2 := hB2 1 0
  have hC2 := hC2 1 0
  have hm0 : 2 ≤ m ∧ m ≤ 31 := by omega
  obtain ⟨kd, vl, sh, ix, lg, gn, pt, rc, da⟩ := x
  clear hB hC hR
  have a1 : ¬ n < -32768 := by omega
  have a2 : ¬ n > 32767 := by omega
  have a3 : ¬ o < 0 := by omega
  have a4 : ¬ o > 16 := by omega
  refine wlk Tryz.f6 ?_
  unhygienic intros
  have c1 : i2 .add .i64 2 (cv .i64 (i2 .rem .u8 p 30)) = m := by
    have e : cv .i64 (i2 .rem .u8 p 30) = p % 30 := by
      rw [hk.cv_eq, hk.i2_rem, Int.tmod_eq_emod_of_nonneg hp.1]; exact wrap64 (by omega) (by omega)
    rw [e, hm]; exact hk.add64 _ _ (by omega) (by omega)
  have hln := hk.lnI_eq
  have hap0 := hk.apI_eq
  have hl1 : ∀ x, lnI [x] = 1 := fun x => hk.lnI_eq _
  clear hm
  (conv => cbv)
  repeat' (first | assumption | ((first | rw [c1] | refine hk.callA (haw _) ?_ | refine hk.calldA haw ?_ | refine stp ?_ | refine stpB (fun _ => ?_) (fun _ => ?_)) <;> (conv => cbv)) | exact stpF | fail)
  refine hk.loopI (loop_rule (α := Int) (fun i => [(0, .int .i64 n), (5, .ptr 0 0), (6, .bool false), (7, .ls (.il .i64 (R i)) (.tok 1 0)), (38, .int .i64 m), (39, .int .i64 i)]) (fun _ => [.box [.int .i64 o, .int .i64 dp, .bool false, .bool wv, .bool sft], .tok 0])
    (fun i => 0 ≤ i ∧ i ≤ m) (fun i => (m - i).toNat) 0 ⟨by omega, by omega⟩ ?_ ?_)
  · rw [hR0]
    refine Gh.trans (Gh.thaw 7 (.il .i64 []) rfl trivial rfl) (Gh.tm ?_)
    repeat' (first | exact Holds.nil _ _ | refine Holds.cons (Wk.refl _ _) ?_)
  intro i ⟨hi, hi2⟩ Q' hb hxx hr
  by_cases h3 : i < m
  · have lQ := hln (R i)
    rw [hRl i hi] at lQ
    have aQ := hap0 (R i) [n]
    rw [← hRs i hi] at aQ
    obtain ⟨Q0, hQ00⟩ : ∃ x, x = R i := ⟨_, rfl⟩
    obtain ⟨Q1, hQ10⟩ : ∃ x, x = R (i + 1) := ⟨_, rfl⟩
    rw [← hQ00] at aQ lQ ⊢
    rw [← hQ10] at aQ
    (conv => cbv)
    repeat' (first | assumption | ((first | rw [lQ] | rw [hl1] | rw [aQ] | refine stp ?_ | refine stpB (fun _ => ?_) (fun _ => ?_)) <;> (conv => cbv)) | exact stpF | fail)
    refine hb (i + 1) _ ⟨by omega, by omega⟩ (by omega) ?_
    rw [← hQ10]
    refine Gh.retok 1 1 rfl (Nat.le_of_ble_eq_true rfl) ?_ rfl rfl
    repeat' (first | exact HoldsT.nil _ _ _ _ | refine HoldsT.tok rfl ?_ | refine HoldsT.cons (Wk.refl _ _) rfl ?_ | refine HoldsT.cons (Wk.of_eq ?_) rfl ?_)
    all_goals first
      | (rw [← hk.add64 i 1 (by omega) (by omega)]; rfl)
      | rfl
      | skip
  · have : i = m := by omega
    subst this
    rw [← hRM]
    by_cases h0 : n = 0
    · have hx := hx h0
      have hkd : kd = 0 := hx
      subst hkd
      (conv => cbv)
      repeat' (first | assumption | ((first | refine hxx _ _ ?_ | refine hk.callA (hB2 _) ?_ | refine hk.calldA hB2 ?_ | refine stp ?_ | refine stpB (fun _ => ?_) (fun _ => ?_)) <;> (conv => cbv)) | exact stpF | fail)
      all_goals exact hk.fin0 rfl rfl (Wk.of_eq (congrArg _ (by rw [hk.c2_eql]; rfl)))
    · (conv => cbv)
      repeat' (first | assumption | ((first | refine hxx _ _ ?_ | refine hk.callA (hB2 _) ?_ | refine hk.calldA hB2 ?_ | refine hk.callA (hC2 _) ?_ | refine hk.calldA hC2 ?_ | refine stp ?_ | refine stpB (fun _ => ?_) (fun _ => ?_)) <;> (conv => cbv)) | exact stpF | fail)
      all_goals exact hk.fin0 rfl rfl (Wk.of_eq (congrArg _ (by rw [hk.c2_leq, decide_eq_true hK])))
theorem still_chk {k : Nat} {n : Int} (h1 : 1 ≤ k) (h2 : k ≤ 64) (n0 : -32768 ≤ n) (n1 : n ≤ 32767) : chkE (List.replicate k n) 16 = 0 := by
  unfold chkE
  rw [List.length_replicate, if_neg (by omega), if_neg]
  rw [List.any_eq_true]
  rintro ⟨x, hx, hx2⟩
  obtain ⟨_, rfl⟩ := List.mem_replicate.1 hx
  unfold lacksP pw at hx2
  simp at hx2
  omega
theorem still_pl (k : Nat) (n : Int) (h1 : 1 ≤ k) : plK (List.replicate k n) = (if n = 0 then 0 else 1) := by
  have hg : (List.replicate k n).getD 0 0 = n := by
    rw [List.getD_eq_getElem?_getD, List.getElem?_replicate, if_pos (by omega)]; rfl
  have hb : (List.replicate k n).any (fun m => decide (m ≠ n)) = false := by
    rw [List.any_eq_false]
    intro x hx
    obtain ⟨_, rfl⟩ := List.mem_replicate.1 hx
    simp
  unfold plK
  rw [hg, if_neg (by rw [hb]; decide)]
theorem tuneStill_law (n : Int) (p : Int) (hp : 0 ≤ p ∧ p < 256) (c : ChIn) (hc : -9223372036854775808 ≤ c.o ∧ c.o ≤ 9223372036854775807) : Does PP 6 [I n, .int .u8 p, c.v] [] (Is (.bool true) []) := by
  obtain ⟨o, dp, lags, wv, sft⟩ := c
  by_cases h0 : n < -32768 ∨ n > 32767 ∨ lags = true ∨ o < 0 ∨ o > 16
  · exact still_out n p o dp lags wv sft h0
  rw [not_or, not_or, not_or, not_or] at h0
  obtain ⟨a1, a2, a3, a4, a5⟩ := h0
  have a3 : lags = false := by simpa using a3
  subst a3
  obtain ⟨m, hm⟩ : ∃ m : Int, m = 2 + p % 30 := ⟨_, rfl⟩
  have hm0 : 2 ≤ m ∧ m ≤ 31 := by omega
  have hch := still_chk (k := m.toNat) (n := n) (by omega) (by omega) (by omega) (by omega)
  have he : bestE (List.replicate m.toNat n) 16 o = 0 := by rw [bestE, if_pos (by omega)]; exact hch
  have hpk := still_pl m.toNat n (by omega)
  have hnb := nb_plain (List.replicate m.toNat n) 16
  refine still_core n p o dp m (bestR (List.replicate m.toNat n) 16 o false sft).2.1 wv sft (bestR (List.replicate m.toNat n) 16 o false sft).1 hp hm (by omega) (by omega) (by omega) (by omega) (fun h => ?_) (fun h => ?_) (fun hz => ?_) ?_
  · have := tbest_spec (List.replicate m.toNat n) 16 o dp false wv sft h (by rw [List.length_replicate]; omega)
    unfold bestX at this
    rw [if_pos he, he] at this
    exact this
  · have := tcost_spec (List.replicate m.toNat n) 16 o dp false wv sft h (by rw [List.length_replicate]; omega)
    unfold bestC at this
    rw [if_pos he] at this
    exact this
  · rw [bestR_plain (by rw [hnb, hpk, if_pos hz, if_neg (by decide), if_neg (by decide)]; decide)]
    show plK _ = 0
    rw [hpk, if_pos hz]
  · refine Int.le_trans (bestR_le _ _ _ _ _) ?_
    rw [hnb, hpk]
    by_cases hz : n = 0
    · rw [if_pos hz, if_neg (by decide), if_neg (by decide)]; decide
    · rw [if_neg hz, if_pos rfl]; decide
end Go.Proofs.YtoeekjddeknmbaaGreat
