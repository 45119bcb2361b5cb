/-
  Contracts of functions of the program, proved over the abstract machine of the Al texts.
-/
import Derived.Test.YtoeekjddeknmbaaGreatTryTab
import Derived.Test.YtoeekjddeknmbaaGreatAl4
import Derived.Test.YtoeekjddeknmbaaGreatBaseX
import Derived.Test.YtoeekjddeknmbaaGreatRkX
import Derived.Test.YtoeekjddeknmbaaGreatPlX
import Derived.Test.YtoeekjddeknmbaaGreatTkX3
import Derived.Test.YtoeekjddeknmbaaGreatNoX
import Derived.Test.YtoeekjddeknmbaaGreatNoY
import Derived.Test.YtoeekjddeknmbaaGreatTuX2
import Derived.Test.YtoeekjddeknmbaaGreatBsX1
import Derived.Test.YtoeekjddeknmbaaGreatBsX8
import Derived.Test.YtoeekjddeknmbaaGreatTkX7
import Derived.Test.YtoeekjddeknmbaaGreatNmX
import Derived.Test.YtoeekjddeknmbaaGreatFlX
import Derived.Test.YtoeekjddeknmbaaGreatNoZ
import Derived.Test.YtoeekjddeknmbaaGreatTuX1
import Derived.Test.YtoeekjddeknmbaaGreatLtX2
import Derived.Test.YtoeekjddeknmbaaGreatGuX4
import Derived.Test.YtoeekjddeknmbaaGreatTuX4
set_option maxHeartbeats 4000000
set_option maxRecDepth 20000
set_option linter.unusedSimpArgs false
set_option linter.unusedVariables false
open Go Go.AL
namespace Go.Proofs.YtoeekjddeknmbaaGreat
theorem zblk1_wk {h : Heap} (a b : Int) (xs : List Int) : Wk h (.agg [.int .i64 a, .int .i64 b, .int .i64 0, .ls .nl .nil, .int .i64 0, .int .i64 0, .int .i64 0, .ls .nl .nil, .ls (.il .i64 xs) .any]) (.agg [.int .i64 a, .int .i64 b, .int .i64 0, .ls (.il .i64 []) .any, .int .i64 0, .int .i64 0, .int .i64 0, .ls (.il .i64 []) .any, .ls (.il .i64 xs) .any]) :=
 Wk.agg ⟨.refl _ _, .refl _ _, .refl _ _, Wk.nilL _ _, .refl _ _, .refl _ _, .refl _ _, Wk.nilL _ _, .refl _ _, trivial⟩
theorem zblk0_wk {h : Heap} (a b : Int) : Wk h (.agg [.int .i64 a, .int .i64 b, .int .i64 0, .ls .nl .nil, .int .i64 0, .int .i64 0, .int .i64 0, .ls .nl .nil, .ls .nl .nil]) (.agg [.int .i64 a, .int .i64 b, .int .i64 0, .ls (.il .i64 []) .any, .int .i64 0, .int .i64 0, .int .i64 0, .ls (.il .i64 []) .any, .ls (.il .i64 []) .any]) :=
 Wk.agg ⟨.refl _ _, .refl _ _, .refl _ _, Wk.nilL _ _, .refl _ _, .refl _ _, .refl _ _, Wk.nilL _ _, Wk.nilL _ _, trivial⟩
theorem rplain_spec (l : List Int) (h : Heap) (h1 : 1 ≤ l.length) (h2 : l.length ≤ 1024) : Does PP 23 [LI l] h (Is (plX l).v h) := by
 obtain ⟨n, hn⟩ : ∃ n : Int, n = (l.length : Nat) := ⟨_, rfl⟩
 obtain ⟨x0, hx0⟩ : ∃ x, x = l.getD 0 0 := ⟨_, rfl⟩
 have hd : ∀ i : Int, 0 ≤ i → i < n → ¬ l.getD i.toNat 0 = x0 → (plX l) = ⟨3, 0, 0, [], 0, 0, 0, [], l⟩ := fun i a b e => by
  have hb : l.any (fun n => decide (n ≠ l.getD 0 0)) = true := by
   rw [List.any_eq_true]
   refine ⟨l.getD i.toNat 0, by rw [List.getD_eq_getElem?_getD, List.getElem?_eq_getElem (by omega)]; exact List.getElem_mem _, ?_⟩
   rw [← hx0, decide_eq_true_eq]; exact e
  unfold plX plK plV plD
  simp only [hb, if_true]
 have hs : (∀ j, j < n.toNat → l.getD j 0 = x0) → (plX l) = ⟨if x0 = 0 then 0 else 1, x0, 0, [], 0, 0, 0, [], []⟩ := fun e => by
  have hb : l.any (fun n => decide (n ≠ l.getD 0 0)) = false := by
   rw [List.any_eq_false]
   intro x hx
   obtain ⟨j, hj, rfl⟩ := mem_getD.1 hx
   have := e j (by omega)
   rw [← hx0, decide_eq_true_eq]; exact fun h => h this
  unfold plX plK plV plD
  simp only [← hx0] at hb ⊢
  simp only [hb, Bool.false_eq_true, if_false]
 obtain ⟨x, hx⟩ : ∃ x, x = plX l := ⟨_, rfl⟩
 rw [← hx] at hd hs ⊢
 clear hx
 refine pure0 ?_ rfl rfl h
 refine wlk Tryz.f23 ?_
 unhygienic intros
 have hln : lnI l = n := by rw [hk.lnI_eq]; omega
 have hg0 : gtI l 0 = x0 := by rw [hk.gtI_eq]; exact hx0.symm
 have hgl := hk.gtI_eq l
 have hn0 : 0 < n := by omega
 (conv => cbv)
 repeat' (first | assumption | ((first | rw [hln] | refine stp ?_ | refine stpB (fun _ => ?_) (fun _ => ?_)) <;> (conv => cbv)) | exact stpF | fail)
 refine hk.loopI (loop_rule (α := Int) (fun i => [(0, .ls (.il .i64 l) .any), (2, .ptr 0 0), (5, .int .i64 n), (6, .int .i64 i)]) (fun _ => [.box [.int .i64 0, .int .i64 0, .int .i64 0, .ls .nl .nil, .int .i64 0, .int .i64 0, .int .i64 0, .ls .nl .nil, .ls .nl .nil]])
  (fun i => 0 ≤ i ∧ i ≤ n ∧ ∀ j, j < i.toNat → l.getD j 0 = x0) (fun i => (n - i).toNat) 0 ⟨by omega, by omega, fun j hj => by omega⟩ ?_ ?_)
 ·exact ghT
 intro i ⟨hi, hi2, hi3⟩ Q' hb hxx hr
 by_cases h3 : i < n
 ·have hd := hd i hi h3
  have hgi := hgl i
  obtain ⟨v, hv⟩ : ∃ v, v = l.getD i.toNat 0 := ⟨_, rfl⟩
  rw [← hv] at hgi hd
  by_cases h4 : v = x0
  ·clear hd
   (conv => cbv)
   repeat' (first | assumption | ((first | rw [hln] | rw [hgi] | rw [hg0] | refine hk.idxI hi h3 ?_ | refine hk.idxI (by decide) hn0 ?_ | refine stp ?_ | refine stpB (fun _ => ?_) (fun _ => ?_)) <;> (conv => cbv)) | exact stpF | fail)
   refine hb (i + 1) _ ⟨by omega, by omega, fun j hj => ?_⟩ (by omega) ?_
   ·by_cases e : j < i.toNat
    ·exact hi3 j e
    ·rw [show j = i.toNat by omega, ← hv]; exact h4
   refine Gh.tm ?_
   repeat' (first | exact Holds.nil _ _ | refine Holds.cons (Wk.refl _ _) ?_ | refine Holds.cons (Wk.of_eq ?_) ?_)
   all_goals first
    | (rw [← hk.add64 i 1 (by omega) (by omega)]; rfl)
    | rfl
    | skip
  ·have hd := hd h4
   subst hd
   (conv => cbv)
   repeat' (first | assumption | ((first | rw [hln] | rw [hgi] | rw [hg0] | refine hk.idxI hi h3 ?_ | refine hk.idxI (by decide) hn0 ?_ | refine hr _ ?_ | refine stp ?_ | refine stpB (fun _ => ?_) (fun _ => ?_)) <;> (conv => cbv)) | exact stpF | fail)
   all_goals exact hk.fin0 rfl rfl (zblk1_wk _ _ _)
 ·have : i = n := by omega
  subst this
  have hs := hs hi3
  by_cases h4 : x0 = 0
  ·rw [if_pos h4] at hs
   subst hs
   subst h4
   (conv => cbv)
   repeat' (first | assumption | ((first | rw [hln] | rw [hg0] | refine hxx _ _ ?_ | refine hk.idxI (by decide) hn0 ?_ | refine stp ?_ | refine stpB (fun _ => ?_) (fun _ => ?_)) <;> (conv => cbv)) | exact stpF | fail)
   all_goals exact hk.fin0 rfl rfl (zblk0_wk _ _)
  ·rw [if_neg h4] at hs
   subst hs
   (conv => cbv)
   repeat' (first | assumption | ((first | rw [hln] | rw [hg0] | refine hxx _ _ ?_ | refine hk.idxI (by decide) hn0 ?_ | refine stp ?_ | refine stpB (fun _ => ?_) (fun _ => ?_)) <;> (conv => cbv)) | exact stpF | fail)
   all_goals exact hk.fin0 rfl rfl (zblk0_wk _ _)
theorem bstR_try {l : List Int} {d : Int} {ix : List Int} {lg gn sh : Int} {T : List Trd} (h : T ≠ []) :
 ((nrmE l d ix lg gn sh = 0 ∧ nbI (nrmX l d ix lg gn sh) d < (bstR T).2.1) → (bstR (tryN l d ix lg gn sh T)).1 = nrmX l d ix lg gn sh ∧ (bstR (tryN l d ix lg gn sh T)).2.1 = nbI (nrmX l d ix lg gn sh) d) ∧
 (¬ (nrmE l d ix lg gn sh = 0 ∧ nbI (nrmX l d ix lg gn sh) d < (bstR T).2.1) → (bstR (tryN l d ix lg gn sh T)).1 = (bstR T).1 ∧ (bstR (tryN l d ix lg gn sh T)).2.1 = (bstR T).2.1) := by
 constructor
 ·rintro ⟨h1, h2⟩
  rw [tryN, if_pos h1, bstR, if_pos (.inr h2)]
  exact ⟨rfl, rfl⟩
 ·intro h1
  unfold tryN
  split
  ·rename_i h2
   rw [bstR, if_neg (fun h3 => h3.elim h (fun h4 => h1 ⟨h2, h4⟩))]
   exact ⟨rfl, rfl⟩
  ·exact ⟨rfl, rfl⟩
theorem tdiv_dvd {x p : Int} (hp : p ≠ 0) (h : x % p = 0) : x.tdiv p = x / p ∧ x.tmod p = 0 := by
 obtain ⟨c, rfl⟩ := Int.dvd_of_emod_eq_zero h
 rw [Int.mul_tdiv_cancel_left _ hp, Int.mul_ediv_cancel_left _ hp]
 exact ⟨rfl, Int.mul_tmod_right _ _⟩
theorem tmod_ne {x p : Int} (hp : p ≠ 0) (h : x % p ≠ 0) : x.tmod p ≠ 0 := fun e => h (Int.emod_eq_zero_of_dvd (Int.dvd_of_tmod_eq_zero e))
theorem pow_mod_mono {x : Int} {s t : Nat} (h : x % 2 ^ t = 0) (hs : s ≤ t) : x % 2 ^ s = 0 := by
 rw [← pb_dvd] at h ⊢
 exact fun j hj => h j (by omega)
set_option maxHeartbeats 8000000
theorem rbest_ok (l : List Int) (d o dp : Int) (lags wv sft : Bool) (h : Heap) (hl : l.length ≤ 64) (hc : chkE l d = 0) (o0 : 0 ≤ o) (o1 : o ≤ 16) :
 Does PP 13 [LI l, I d, .agg [I o, I dp, .bool lags, .bool wv, .bool sft]] h (Is (.tup [(bestR l d o lags sft).1.v, I (bestR l d o lags sft).2.1]) h) := by
 obtain ⟨l1, l2, d1, d2, lk⟩ := chkE_ok hc
 have hsr := shT_rg (l := l) sft d1
 have hdiv := shT_div (l := l) sft d1
 have hmax := fun t => shT_max (l := l) d1 t
 unfold bestR
 obtain ⟨sh, hsh0⟩ : ∃ x, x = shT l d sft := ⟨_, rfl⟩
 have hsE0 : sft = false → sh = 0 := fun e => by rw [hsh0, shT, e]; rfl
 have hmax : sft = true → ∀ t : Int, sh < t → t ≤ 24 → t ≤ d - 1 → ∃ i, i < l.length ∧ l.getD i 0 % 2 ^ t.toNat ≠ 0 := fun e t a b c => by
  subst e
  exact hmax t (by rw [← hsh0]; exact a) b c
 rw [← hsh0] at hsr hdiv ⊢
 clear hsh0
 have hlow := lowL_s26 hc hsr.1
 have hlowl := lowL_len sh l
 have hgu := fun h => rguess_spec (lowL sh l) o h (by omega) (by omega) hlow o0 o1
 have hpl := fun h => rplain_spec l h l1 (by omega)
 obtain ⟨n, hn⟩ : ∃ n : Int, n = (l.length : Nat) := ⟨_, rfl⟩
 have hn0 : 1 ≤ n ∧ n ≤ 64 := by omega
 obtain ⟨B, hB⟩ : ∃ B : Int → BlkIn, ∀ m, B m = (bstR (trl l d sh lags m.toNat)).1 := ⟨_, fun _ => rfl⟩
 obtain ⟨C, hC⟩ : ∃ C : Int → Int, ∀ m, C m = (bstR (trl l d sh lags m.toNat)).2.1 := ⟨_, fun _ => rfl⟩
 have hB0 : plX l = B 0 := by rw [hB]; rfl
 have hC0 : nbI (plX l) d = C 0 := by rw [hC]; rfl
 have hbp : ∀ h, Does PP 24 [(plX l).v, I d] h (Is (I (nbI (plX l) d)) h) := fun h => rbits_any (plX l) (l.length : Nat) d (plX_ok hc).1 h
 rw [hC0, hB0] at hbp
 rw [hB0] at hpl
 have hst : ∀ m : Int, 0 ≤ m → m ≤ o → ∃ (ix e : List Int) (x1 x2 : BlkIn) (E1 E2 lg gn nb1 nb2 : Int) (B1 : BlkIn) (C1 : Int),
  (guess (lowL sh l) o.toNat).take m.toNat = ix ∧
  (∀ h, Does PP 27 [LI l, I d, LI ix, I 0, I 0, I sh] h (Is (.tup [x1.v, I E1]) h)) ∧
  (E1 = 0 → ∀ h, Does PP 24 [x1.v, I d] h (Is (I nb1) h)) ∧
  (∀ h, Does PP 28 [LI ix, LI (lowL sh l)] h (Is (.tup [LI e, I 0]) h)) ∧
  (∀ h, Does PP 29 [LI e] h (Is (.tup [I lg, I gn]) h)) ∧
  (∀ h, Does PP 27 [LI l, I d, LI ix, I lg, I gn, I sh] h (Is (.tup [x2.v, I E2]) h)) ∧
  (E2 = 0 → ∀ h, Does PP 24 [x2.v, I d] h (Is (I nb2) h)) ∧
  (E1 = 0 ∧ nb1 < C m → B1 = x1 ∧ C1 = nb1) ∧ (¬ (E1 = 0 ∧ nb1 < C m) → B1 = B m ∧ C1 = C m) ∧
  (lags = true → ¬ lg = 0 → (E2 = 0 ∧ nb2 < C1 → B (m + 1) = x2 ∧ C (m + 1) = nb2) ∧ (¬ (E2 = 0 ∧ nb2 < C1) → B (m + 1) = B1 ∧ C (m + 1) = C1)) ∧
  (lags = false ∨ lg = 0 → B (m + 1) = B1 ∧ C (m + 1) = C1) := fun m a b => by
  have e1 : (m + 1).toNat = m.toNat + 1 := by omega
  have hgl : (guess (lowL sh l) m.toNat).length ≤ 16 := by rw [guess_len]; omega
  have hne := trl_ne l d sh lags m.toNat
  have hne1 := tryN_ne (l := l) (d := d) (ix := guess (lowL sh l) m.toNat) (lg := 0) (gn := 0) (sh := sh) hne
  obtain ⟨t1, t2⟩ := bstR_try (l := l) (d := d) (ix := guess (lowL sh l) m.toNat) (lg := 0) (gn := 0) (sh := sh) hne
  obtain ⟨t3, t4⟩ := bstR_try (l := l) (d := d) (ix := guess (lowL sh l) m.toNat) (lg := (bestT (resG l sh m.toNat)).1) (gn := (bestT (resG l sh m.toNat)).2) (sh := sh) hne1
  have htm := bestT_ok (resG l sh m.toNat)
  rw [termB, decide_eq_true_eq] at htm
  have hRs : trl l d sh lags (m + 1).toNat = if lags = true ∧ bestT (resG l sh m.toNat) ≠ (0, 0)
   then tryN l d (guess (lowL sh l) m.toNat) (bestT (resG l sh m.toNat)).1 (bestT (resG l sh m.toNat)).2 sh (tryN l d (guess (lowL sh l) m.toNat) 0 0 sh (trl l d sh lags m.toNat))
   else tryN l d (guess (lowL sh l) m.toNat) 0 0 sh (trl l d sh lags m.toNat) := by rw [e1, trl]
  refine ⟨guess (lowL sh l) m.toNat, resG l sh m.toNat, nrmX l d (guess (lowL sh l) m.toNat) 0 0 sh, nrmX l d (guess (lowL sh l) m.toNat) (bestT (resG l sh m.toNat)).1 (bestT (resG l sh m.toNat)).2 sh, _, _, (bestT (resG l sh m.toNat)).1, (bestT (resG l sh m.toNat)).2,
   nbI (nrmX l d (guess (lowL sh l) m.toNat) 0 0 sh) d, nbI (nrmX l d (guess (lowL sh l) m.toNat) (bestT (resG l sh m.toNat)).1 (bestT (resG l sh m.toNat)).2 sh) d,
   (bstR (tryN l d (guess (lowL sh l) m.toNat) 0 0 sh (trl l d sh lags m.toNat))).1, (bstR (tryN l d (guess (lowL sh l) m.toNat) 0 0 sh (trl l d sh lags m.toNat))).2.1, guess_take _ _ _ (by omega),
   fun h => rnormal_spec l d _ 0 0 sh h (by omega) (by omega), fun h1 h => rbits_any _ (l.length : Nat) d (nrmX_tr hc h1 hgl).1 h, fun h => rresiduals_spec _ _ h (guess_ok _ _ (by omega)) hlow (by omega),
   fun h => rlbest_spec _ h (resL_r64 _ _) (by rw [resG, resL_len, hlowl]; omega), fun h => rnormal_spec l d _ _ _ sh h (by omega) (by omega), fun h1 h => rbits_any _ (l.length : Nat) d (nrmX_tr hc h1 hgl).1 h, ?_, ?_, fun h1 h2 => ?_, fun h1 => ?_⟩
  ·rw [hC]; exact t1
  ·rw [hC, hB]; exact t2
  ·rw [hB, hC, hRs, if_pos ⟨h1, fun e => h2 (Prod.ext_iff.1 e).1⟩]
   exact ⟨t3, t4⟩
  ·rw [hB, hC, hRs, if_neg]
   ·exact ⟨rfl, rfl⟩
   ·rintro ⟨h2, h3⟩
    rcases h1 with h1 | h1
    ·rw [h1] at h2; cases h2
    ·exact h3 (Prod.ext_iff.2 ⟨h1, by simp only; omega⟩)
 obtain ⟨b0, hb0⟩ : ∃ x, x = B 0 := ⟨_, rfl⟩
 obtain ⟨c0, hc0⟩ : ∃ x, x = C 0 := ⟨_, rfl⟩
 simp only [← hb0, ← hc0] at hbp hpl
 rw [← hB, ← hC]
 obtain ⟨low, hlow0⟩ : ∃ x, x = lowL sh l := ⟨_, rfl⟩
 have hlg : ∀ i : Int, 0 ≤ i → i < n → low.getD i.toNat 0 = l.getD i.toNat 0 / 2 ^ sh.toNat := fun i a b => by rw [hlow0, lowL_get _ _ _ (by omega)]
 simp only [← hlow0] at hst hgu hlowl
 obtain ⟨p9, hp9⟩ : ∃ p : Int, p = 2 ^ sh.toNat := ⟨_, rfl⟩
 have hp90 : p9 ≠ 0 := by have : (0 : Int) < 2 ^ sh.toNat := Int.pow_pos (by decide); omega
 have hp9p : 1 ≤ p9 := by have : (0 : Int) < 2 ^ sh.toNat := Int.pow_pos (by decide); omega
 have hpw9 : ∀ h, Does PP 25 [I sh] h (Is (I p9) h) := fun h => by rw [hp9]; exact power_spec sh h (by omega)
 obtain ⟨P9, hP9⟩ : ∃ P : Int → Int, ∀ x, P x = x / p9 := ⟨_, fun _ => rfl⟩
 obtain ⟨Q, hQ⟩ : ∃ Q : Int → List Int, ∀ i, Q i = low.take i.toNat := ⟨_, fun _ => rfl⟩
 have hQ0 : Q 0 = [] := by rw [hQ]; rfl
 have hQn : Q n = low := by rw [hQ]; exact List.take_of_length_le (by omega)
 have hQl : ∀ i : Int, 0 ≤ i → i ≤ n → ((Q i).length : Int) = i := fun i a b => by rw [hQ, List.length_take]; omega
 have hQs : ∀ i : Int, 0 ≤ i → i < n → Q (i + 1) = Q i ++ [P9 (l.getD i.toNat 0)] := fun i a b => by
  rw [hQ, hQ, show (i + 1).toNat = i.toNat + 1 by omega, takeI_snoc _ _ (by omega), hlg i a b, hP9, hp9]
 have hsx : ∀ i : Int, 0 ≤ i → i < n → -33554432 ≤ l.getD i.toNat 0 ∧ l.getD i.toNat 0 < 33554432 := fun i a b =>
  lacks_small d1 d2 (lk _ (mem_getD.2 ⟨i.toNat, by omega, rfl⟩))
 have hdq0 : ∀ i : Int, 0 ≤ i → i < n → (l.getD i.toNat 0).tdiv p9 = P9 (l.getD i.toNat 0) ∧ -33554432 ≤ P9 (l.getD i.toNat 0) ∧ P9 (l.getD i.toNat 0) ≤ 33554432 := fun i a b => by
  obtain ⟨e, _⟩ := tdiv_dvd (x := l.getD i.toNat 0) hp90 (by rw [hp9]; exact hdiv i.toNat (by omega))
  have hx := hsx i a b
  have h2 := Int.natAbs_tdiv_le_natAbs (l.getD i.toNat 0) p9
  rw [hP9, ← e]
  exact ⟨rfl, by omega, by omega⟩
 obtain ⟨q, hq0⟩ : ∃ x, x = guess low o.toNat := ⟨_, rfl⟩
 have hql : (q.length : Int) = o := by rw [hq0, guess_len]; omega
 simp only [← hq0] at hgu hst
 -- places where the bits are not all 0
 have hZ0 : ∀ (s : Int) (i : Int), 0 ≤ i → i < n → 0 ≤ s → s ≤ sh → l.getD i.toNat 0 % 2 ^ s.toNat = 0 := fun s i a b c e => pow_mod_mono (hdiv i.toNat (by omega)) (by omega)
 have hpw : ∀ (s : Int) h, s ≤ 62 → Does PP 25 [I s] h (Is (I ((2 : Int) ^ s.toNat)) h) := fun s h e => power_spec s h e
 obtain ⟨s0, hs00⟩ : ∃ s0 : Int, s0 = if d - 1 < 24 then d - 1 else 24 := ⟨_, rfl⟩
 have hs01 : sh ≤ s0 ∧ s0 ≤ 24 ∧ s0 ≤ d - 1 := by split at hs00 <;> omega
 have hfin : sft = true → ∀ s : Int, sh ≤ s → s ≤ s0 → (∀ j, j < n.toNat → l.getD j 0 % 2 ^ s.toNat = 0) → s = sh := fun e s a b c => by
  rcases Int.lt_or_eq_of_le a with h | h
  ·obtain ⟨i, hi, hne⟩ := hmax e s h (by omega) (by omega)
   exact absurd (c i (by omega)) hne
  ·exact h.symm
 clear hB hC hB0 hC0 hQ hlg hlow0 hq0 hmax hdiv hp9 hP9 hlow hc lk
 refine pure0 ?_ rfl rfl h
 refine wlk Tryz.f13 ?_
 unhygienic intros
 have hlnl : lnI l = n := by rw [hk.lnI_eq]; omega
 have hgl := hk.gtI_eq l
 have hln := hk.lnI_eq
 have hap0 := hk.apI_eq
 have hl1 : ∀ x, lnI [x] = 1 := fun x => hk.lnI_eq _
 have hsbI := hk.sbI_eq q
 have hlq : lnI q = o := by rw [hln, hql]
 have hgu2 : ∀ h, Does PP 26 [.ls (.il .i64 low) (.tok 3 0), I o] h (Is (.tup [LI q, I 0]) h) := fun h => (hgu h).wk (by repeat' (first | exact WkL.nil | refine WkL.cons (Wk.refl _ _) ?_ | refine WkL.cons (Wk.any _ _ _) ?_ | refine WkL.cons (Wk.nilL _ _) ?_))
 have hdq : ∀ i : Int, 0 ≤ i → i < n → i2 .quo .i64 (gtI l i) p9 = P9 (gtI l i) := fun i a b => by
  obtain ⟨e1, e2, e3⟩ := hdq0 i a b
  rw [hgl, hk.i2_quo, e1]; exact wrap64 (by omega) (by omega)
 obtain ⟨dm, hdm⟩ : ∃ x : Int, x = d - 1 := ⟨_, rfl⟩
 have hsu : i2 .sub .i64 d 1 = dm := by rw [hdm]; exact hk.sub64 _ _ (by omega) (by omega)
 have hmn : mn 24 dm = s0 := by rw [hk.mn_eq, hdm, hs00]
 clear hgu hdq0
 cases sft
 ·have hsE0 := hsE0 rfl
  clear hfin hpw hmn hs00
  subst hsE0
  (conv => cbv)
  repeat' (first | assumption | ((first | rw [hlnl] | rw [hsu] | refine stp ?_ | refine stpB (fun _ => ?_) (fun _ => ?_)) <;> (conv => cbv)) | exact stpF | fail)
  refine hk.loopI (loop_rule (α := Int) (fun i => [(0, .ls (.il .i64 l) .any), (1, .int .i64 d), (5, .ptr 0 0), (6, .ptr 1 0), (7, .int .i64 0), (8, .ptr 2 0), (9, .int .i64 c0), (10, .int .i64 0), (12, .ls (.il .i64 (Q i)) (.tok 3 0)), (56, .int .i64 n), (57, .int .i64 i)]) (fun i => [.box [.int .i64 o, .int .i64 dp, .bool lags, .bool wv, .bool false], .box [.int .i64 0, .int .i64 0, .int .i64 0, .ls .nl .nil, .int .i64 0, .int .i64 0, .int .i64 0, .ls .nl .nil, .ls .nl .nil], .box [.int .i64 (b0).kd, .int .i64 (b0).vl, .int .i64 (b0).sh, .ls (.il .i64 (b0).ix) .any, .int .i64 (b0).lg, .int .i64 (b0).gn, .int .i64 (b0).pt, .ls (.il .i64 (b0).rc) .any, .ls (.il .i64 (b0).da) .any], .tok 0]) (fun i => 0 ≤ i ∧ i ≤ n) (fun i => (n - i).toNat) 0 ⟨by omega, by omega⟩ ?_ ?_)
  ·rw [hQ0]
   refine Gh.trans (Gh.thaw 12 (.il .i64 []) rfl trivial rfl) (Gh.tm ?_)
   repeat' (first | exact Holds.nil _ _ | refine Holds.cons (Wk.refl _ _) ?_)
  intro i ⟨hi, hi2⟩ Q' hb hx hr
  by_cases h2 : i < n
  ·have hqs := hQs i hi h2
   rw [← hgl] at hqs
   have lQ := hln (Q i)
   rw [hQl i hi hi2] at lQ
   have aQ := hap0 (Q i) [P9 (gtI l i)]
   rw [← hqs] at aQ
   have hdq := hdq i hi h2
   obtain ⟨x, hx0⟩ : ∃ x, x = gtI l i := ⟨_, rfl⟩
   rw [← hx0] at aQ hdq
   obtain ⟨y, hy0⟩ : ∃ y, y = P9 x := ⟨_, rfl⟩
   rw [← hy0] at aQ hdq
   obtain ⟨Q0, hQ00⟩ : ∃ x, x = Q i := ⟨_, rfl⟩
   obtain ⟨Q1, hQ10⟩ : ∃ x, x = Q (i + 1) := ⟨_, rfl⟩
   rw [← hQ00] at aQ lQ ⊢
   rw [← hQ10] at aQ
   clear hqs
   (conv => cbv)
   repeat' (first | assumption | ((first | rw [hlnl] | refine hk.idxI hi h2 ?_ | rw [← hx0] | refine hk.nzI hp90 ?_ | rw [hdq] | rw [lQ] | rw [hl1] | rw [aQ] | refine stp ?_ | refine stpB (fun _ => ?_) (fun _ => ?_)) <;> (conv => cbv)) | exact stpF | fail)
   refine hb (i + 1) _ ⟨by omega, by omega⟩ (by omega) ?_
   rw [← hQ10]
   refine Gh.retok 3 1 rfl (Nat.le_of_ble_eq_true rfl) ?_ rfl rfl
   repeat' (first | exact HoldsT.nil _ _ _ _ | refine HoldsT.tok rfl ?_ | refine HoldsT.cons (Wk.refl _ _) rfl ?_ | refine HoldsT.cons (Wk.of_eq ?_) rfl ?_)
   all_goals first
    | (rw [← hk.add64 i 1 (by omega) (by omega)]; rfl)
    | rfl
    | skip
  have : i = n := by omega
  subst this
  rw [hQn]
  clear hb hr
  (conv => cbv)
  repeat' (first | assumption | ((first | rw [hlnl] | refine hx _ _ ?_ | refine stp ?_ | refine stpB (fun _ => ?_) (fun _ => ?_)) <;> (conv => cbv)) | exact stpF | fail)
  clear hx
  refine hk.loopI (loop_rule (α := Int) (fun m => [(0, .ls (.il .i64 l) .any), (1, .int .i64 d), (5, .ptr 0 0), (6, .ptr 1 0), (7, .int .i64 0), (8, .ptr 2 0), (9, .int .i64 (C m)), (10, .int .i64 0), (12, .ls (.il .i64 low) .any), (14, .ls (.il .i64 q) .any), (16, .int .i64 m)]) (fun m => [.box [.int .i64 o, .int .i64 dp, .bool lags, .bool wv, .bool false], .box [.int .i64 0, .int .i64 0, .int .i64 0, .ls .nl .nil, .int .i64 0, .int .i64 0, .int .i64 0, .ls .nl .nil, .ls .nl .nil], .box [.int .i64 (B m).kd, .int .i64 (B m).vl, .int .i64 (B m).sh, .ls (.il .i64 (B m).ix) .any, .int .i64 (B m).lg, .int .i64 (B m).gn, .int .i64 (B m).pt, .ls (.il .i64 (B m).rc) .any, .ls (.il .i64 (B m).da) .any], .tok 0]) (fun m => 0 ≤ m ∧ m ≤ o + 1) (fun m => (o + 1 - m).toNat) 0 ⟨by omega, by omega⟩ ?_ ?_)
  ·rw [← hc0, ← hb0]
   refine Gh.tm ?_
   repeat' (first | exact Holds.nil _ _ | refine Holds.cons (Wk.refl _ _) ?_ | refine Holds.cons (Wk.any _ _ _) ?_)
  intro m ⟨hm, hm2⟩ Q2 hbm hxm hrm
  by_cases h3 : m ≤ o
  ·obtain ⟨ix, e, x1, x2, E1, E2, lg, gn, nb1, nb2, B1, C1, hix, hnr1, hbt1, hrs, hbs, hnr2, hbt2, s1, s1', s2, s3⟩ := hst m hm h3
   have hsb : sbI q 0 m = ix := by rw [hsbI, ← hix]; simp
   obtain ⟨Cm, hCm⟩ : ∃ x, x = C m := ⟨_, rfl⟩
   obtain ⟨Bm, hBm⟩ : ∃ x, x = B m := ⟨_, rfl⟩
   obtain ⟨Cn, hCn⟩ : ∃ x, x = C (m + 1) := ⟨_, rfl⟩
   obtain ⟨Bn, hBn⟩ : ∃ x, x = B (m + 1) := ⟨_, rfl⟩
   rw [← hCm] at s1
   rw [← hCm, ← hBm] at s1'
   rw [← hCn, ← hBn] at s2 s3
   rw [← hCm, ← hBm]
   by_cases hA : E1 = 0 ∧ nb1 < Cm
   ·obtain ⟨e1, e2⟩ := s1 hA
    obtain ⟨h4, h8⟩ := hA
    have hb1 := hbt1 h4
    clear s1 s1'
    rw [e1, e2] at s2 s3
    cases lags
    ·obtain ⟨r1, r2⟩ := s3 (.inl rfl)
     clear s2 s3
     (conv => cbv)
     repeat' (first | assumption | ((first | rw [hlq] | rw [hsb] | refine stp ?_ | refine stpB (fun _ => ?_) (fun _ => ?_)) <;> (conv => cbv)) | exact stpF | fail)
     all_goals refine hbm (m + 1) _ ⟨by omega, by omega⟩ (by omega) ?_
     all_goals rw [← hBn, r1, ← hCn, r2]
     all_goals
      refine Gh.low 4 (Nat.le_of_ble_eq_true rfl) ?_ rfl rfl rfl
      repeat' (first | exact Holds.nil _ _ | refine Holds.cons (Wk.refl _ _) ?_ | refine Holds.cons (Wk.of_eq ?_) ?_)
      all_goals first
       | (rw [← hk.add64 m 1 (by omega) (by omega)]; rfl)
       | rfl
       | skip
    ·by_cases h5 : lg = 0
     ·obtain ⟨r1, r2⟩ := s3 (.inr h5)
      clear s2 s3
      (conv => cbv)
      repeat' (first | assumption | ((first | rw [hlq] | rw [hsb] | refine stp ?_ | refine stpB (fun _ => ?_) (fun _ => ?_)) <;> (conv => cbv)) | exact stpF | fail)
      all_goals refine hbm (m + 1) _ ⟨by omega, by omega⟩ (by omega) ?_
      all_goals rw [← hBn, r1, ← hCn, r2]
      all_goals
       refine Gh.low 4 (Nat.le_of_ble_eq_true rfl) ?_ rfl rfl rfl
       repeat' (first | exact Holds.nil _ _ | refine Holds.cons (Wk.refl _ _) ?_ | refine Holds.cons (Wk.of_eq ?_) ?_)
       all_goals first
        | (rw [← hk.add64 m 1 (by omega) (by omega)]; rfl)
        | rfl
        | skip
     ·obtain ⟨s4, s5⟩ := s2 rfl h5
      clear s2 s3
      by_cases hA2 : E2 = 0 ∧ nb2 < nb1
      ·obtain ⟨r1, r2⟩ := s4 hA2
       obtain ⟨h6, h7⟩ := hA2
       have hb2 := hbt2 h6
       clear s4 s5
       (conv => cbv)
       repeat' (first | assumption | ((first | rw [hlq] | rw [hsb] | refine stp ?_ | refine stpB (fun _ => ?_) (fun _ => ?_)) <;> (conv => cbv)) | exact stpF | fail)
       all_goals refine hbm (m + 1) _ ⟨by omega, by omega⟩ (by omega) ?_
       all_goals rw [← hBn, r1, ← hCn, r2]
       all_goals
        refine Gh.low 4 (Nat.le_of_ble_eq_true rfl) ?_ rfl rfl rfl
        repeat' (first | exact Holds.nil _ _ | refine Holds.cons (Wk.refl _ _) ?_ | refine Holds.cons (Wk.of_eq ?_) ?_)
        all_goals first
         | (rw [← hk.add64 m 1 (by omega) (by omega)]; rfl)
         | rfl
         | skip
      ·obtain ⟨r1, r2⟩ := s5 hA2
       clear s4 s5
       (conv => cbv)
       repeat' (first | assumption | ((first | exact absurd (And.intro (by assumption) (by assumption)) hA2 | rw [hlq] | rw [hsb] | refine hk.callA (hbt2 (by assumption) _) ?_ | refine hk.calldA (hbt2 (by assumption)) ?_ | refine stp ?_ | refine stpB (fun _ => ?_) (fun _ => ?_)) <;> (conv => cbv)) | exact stpF | fail)
       all_goals refine hbm (m + 1) _ ⟨by omega, by omega⟩ (by omega) ?_
       all_goals rw [← hBn, r1, ← hCn, r2]
       all_goals
        refine Gh.low 4 (Nat.le_of_ble_eq_true rfl) ?_ rfl rfl rfl
        repeat' (first | exact Holds.nil _ _ | refine Holds.cons (Wk.refl _ _) ?_ | refine Holds.cons (Wk.of_eq ?_) ?_)
        all_goals first
         | (rw [← hk.add64 m 1 (by omega) (by omega)]; rfl)
         | rfl
         | skip
   ·obtain ⟨e1, e2⟩ := s1' hA
    clear s1 s1'
    rw [e1, e2] at s2 s3
    cases lags
    ·obtain ⟨r1, r2⟩ := s3 (.inl rfl)
     clear s2 s3
     (conv => cbv)
     repeat' (first | assumption | ((first | rw [hlq] | rw [hsb] | refine hk.callA (hbt1 (by assumption) _) ?_|refine hk.calldA (hbt1 (by assumption)) ?_|exact absurd (And.intro (by assumption) (by assumption)) hA | refine stp ?_ | refine stpB (fun _ => ?_) (fun _ => ?_)) <;> (conv => cbv)) | exact stpF | fail)
     all_goals refine hbm (m + 1) _ ⟨by omega, by omega⟩ (by omega) ?_
     all_goals rw [← hBn, r1, ← hCn, r2]
     all_goals
      refine Gh.low 4 (Nat.le_of_ble_eq_true rfl) ?_ rfl rfl rfl
      repeat' (first | exact Holds.nil _ _ | refine Holds.cons (Wk.refl _ _) ?_ | refine Holds.cons (Wk.of_eq ?_) ?_)
      all_goals first
       | (rw [← hk.add64 m 1 (by omega) (by omega)]; rfl)
       | rfl
       | skip
    ·by_cases h5 : lg = 0
     ·obtain ⟨r1, r2⟩ := s3 (.inr h5)
      clear s2 s3
      (conv => cbv)
      repeat' (first | assumption | ((first | rw [hlq] | rw [hsb] | refine hk.callA (hbt1 (by assumption) _) ?_|refine hk.calldA (hbt1 (by assumption)) ?_|exact absurd (And.intro (by assumption) (by assumption)) hA | refine stp ?_ | refine stpB (fun _ => ?_) (fun _ => ?_)) <;> (conv => cbv)) | exact stpF | fail)
      all_goals refine hbm (m + 1) _ ⟨by omega, by omega⟩ (by omega) ?_
      all_goals rw [← hBn, r1, ← hCn, r2]
      all_goals
       refine Gh.low 4 (Nat.le_of_ble_eq_true rfl) ?_ rfl rfl rfl
       repeat' (first | exact Holds.nil _ _ | refine Holds.cons (Wk.refl _ _) ?_ | refine Holds.cons (Wk.of_eq ?_) ?_)
       all_goals first
        | (rw [← hk.add64 m 1 (by omega) (by omega)]; rfl)
        | rfl
        | skip
     ·obtain ⟨s4, s5⟩ := s2 rfl h5
      clear s2 s3
      by_cases hA2 : E2 = 0 ∧ nb2 < Cm
      ·obtain ⟨r1, r2⟩ := s4 hA2
       obtain ⟨h6, h7⟩ := hA2
       have hb2 := hbt2 h6
       clear s4 s5
       (conv => cbv)
       repeat' (first | assumption | ((first | rw [hlq] | rw [hsb] | refine hk.callA (hbt1 (by assumption) _) ?_|refine hk.calldA (hbt1 (by assumption)) ?_|exact absurd (And.intro (by assumption) (by assumption)) hA | refine stp ?_ | refine stpB (fun _ => ?_) (fun _ => ?_)) <;> (conv => cbv)) | exact stpF | fail)
       all_goals refine hbm (m + 1) _ ⟨by omega, by omega⟩ (by omega) ?_
       all_goals rw [← hBn, r1, ← hCn, r2]
       all_goals
        refine Gh.low 4 (Nat.le_of_ble_eq_true rfl) ?_ rfl rfl rfl
        repeat' (first | exact Holds.nil _ _ | refine Holds.cons (Wk.refl _ _) ?_ | refine Holds.cons (Wk.of_eq ?_) ?_)
        all_goals first
         | (rw [← hk.add64 m 1 (by omega) (by omega)]; rfl)
         | rfl
         | skip
      ·obtain ⟨r1, r2⟩ := s5 hA2
       clear s4 s5
       (conv => cbv)
       repeat' (first | assumption | ((first | exact absurd (And.intro (by assumption) (by assumption)) hA2 | rw [hlq] | rw [hsb] | refine hk.callA (hbt1 (by assumption) _) ?_|refine hk.calldA (hbt1 (by assumption)) ?_|exact absurd (And.intro (by assumption) (by assumption)) hA | refine hk.callA (hbt2 (by assumption) _) ?_ | refine hk.calldA (hbt2 (by assumption)) ?_ | refine stp ?_ | refine stpB (fun _ => ?_) (fun _ => ?_)) <;> (conv => cbv)) | exact stpF | fail)
       all_goals refine hbm (m + 1) _ ⟨by omega, by omega⟩ (by omega) ?_
       all_goals rw [← hBn, r1, ← hCn, r2]
       all_goals
        refine Gh.low 4 (Nat.le_of_ble_eq_true rfl) ?_ rfl rfl rfl
        repeat' (first | exact Holds.nil _ _ | refine Holds.cons (Wk.refl _ _) ?_ | refine Holds.cons (Wk.of_eq ?_) ?_)
        all_goals first
         | (rw [← hk.add64 m 1 (by omega) (by omega)]; rfl)
         | rfl
         | skip
  ·have hmo : m = o + 1 := by omega
   obtain ⟨c9, hc9⟩ : ∃ x, x = C m := ⟨_, rfl⟩
   obtain ⟨b9, hb9⟩ : ∃ x, x = B m := ⟨_, rfl⟩
   rw [← hc9, ← hb9]
   (conv => cbv)
   repeat' (first | assumption | ((first | refine hxm _ _ ?_ | refine stp ?_ | refine stpB (fun _ => ?_) (fun _ => ?_)) <;> (conv => cbv)) | exact stpF | fail)
   all_goals exact hk.fin0 rfl rfl (Wk.of_eq (by rw [hc9, hb9, hmo]))
 ·have hfin := hfin rfl
  clear hsE0
  (conv => cbv)
  repeat' (first | assumption | ((first | rw [hlnl] | rw [hsu] | rw [hmn] | refine stp ?_ | refine stpB (fun _ => ?_) (fun _ => ?_)) <;> (conv => cbv)) | exact stpF | fail)
  refine hk.loopI (loop_rule (α := Int × Int) (fun x => [(0, .ls (.il .i64 l) .any), (1, .int .i64 d), (5, .ptr 0 0), (6, .ptr 1 0), (7, .int .i64 0), (8, .ptr 2 0), (9, .int .i64 c0), (10, .int .i64 x.2), (36, .int .i64 n), (37, .int .i64 x.1)]) (fun i => [.box [.int .i64 o, .int .i64 dp, .bool lags, .bool wv, .bool true], .box [.int .i64 0, .int .i64 0, .int .i64 0, .ls .nl .nil, .int .i64 0, .int .i64 0, .int .i64 0, .ls .nl .nil, .ls .nl .nil], .box [.int .i64 (b0).kd, .int .i64 (b0).vl, .int .i64 (b0).sh, .ls (.il .i64 (b0).ix) .any, .int .i64 (b0).lg, .int .i64 (b0).gn, .int .i64 (b0).pt, .ls (.il .i64 (b0).rc) .any, .ls (.il .i64 (b0).da) .any]])
   (fun x => 0 ≤ x.1 ∧ x.1 ≤ n ∧ sh ≤ x.2 ∧ x.2 ≤ s0 ∧ ∀ j, j < x.1.toNat → l.getD j 0 % 2 ^ x.2.toNat = 0) (fun x => (n - x.1).toNat) (0, s0) ⟨by simp only; omega, by simp only; omega, hs01.1, Int.le_refl _, fun j hj => absurd hj (by simp)⟩ ?_ ?_)
  ·exact ghT
  intro ⟨i, s⟩ ⟨hi, hi2, hsl, hsu2, hsd⟩ Q' hb hx hr
  simp only at hi hi2 hsl hsu2 hsd
  dsimp only
  by_cases h2 : i < n
  ·(conv => cbv)
   repeat' (first | assumption | ((first | rw [hlnl] | refine stp ?_ | refine stpB (fun _ => ?_) (fun _ => ?_)) <;> (conv => cbv)) | exact stpF | fail)
   refine hk.loopI (loop_rule (α := Int) (fun t => [(0, .ls (.il .i64 l) .any), (1, .int .i64 d), (5, .ptr 0 0), (6, .ptr 1 0), (7, .int .i64 0), (8, .ptr 2 0), (9, .int .i64 c0), (10, .int .i64 t), (11, .int .i64 i), (36, .int .i64 n), (37, .int .i64 i)]) (fun _ => [.box [.int .i64 o, .int .i64 dp, .bool lags, .bool wv, .bool true], .box [.int .i64 0, .int .i64 0, .int .i64 0, .ls .nl .nil, .int .i64 0, .int .i64 0, .int .i64 0, .ls .nl .nil, .ls .nl .nil], .box [.int .i64 (b0).kd, .int .i64 (b0).vl, .int .i64 (b0).sh, .ls (.il .i64 (b0).ix) .any, .int .i64 (b0).lg, .int .i64 (b0).gn, .int .i64 (b0).pt, .ls (.il .i64 (b0).rc) .any, .ls (.il .i64 (b0).da) .any]])
    (fun t => sh ≤ t ∧ t ≤ s) (fun t => t.toNat) s ⟨hsl, Int.le_refl _⟩ ?_ ?_)
   ·exact ghT
   intro t ⟨ht, ht2⟩ Q2 hb2 hx2 hr2
   have hex : l.getD i.toNat 0 % 2 ^ t.toNat = 0 → ∀ j, j < (i + 1).toNat → l.getD j 0 % 2 ^ t.toNat = 0 := fun e j hj => by
    by_cases e2 : j < i.toNat
    ·exact pow_mod_mono (hsd j e2) (by omega)
    ·rw [show j = i.toNat by omega]; exact e
   have hgi := hgl i
   have hpwt := fun h => hpw t h (by omega)
   have hpp : (2 : Int) ^ t.toNat ≠ 0 := by have : (0 : Int) < 2 ^ t.toNat := Int.pow_pos (by decide); omega
   have hz0 := hZ0 t i hi h2 (by omega)
   obtain ⟨v, hv⟩ : ∃ v, v = l.getD i.toNat 0 := ⟨_, rfl⟩
   rw [← hv] at hgi hex hz0
   have htm := fun e => (tdiv_dvd (x := v) hpp e).2
   have htn := fun e => tmod_ne (x := v) hpp e
   have hrm : i2 .rem .i64 v (2 ^ t.toNat) = v.tmod (2 ^ t.toNat) := hk.i2_rem _ _ _
   obtain ⟨p, hp⟩ : ∃ p : Int, p = 2 ^ t.toNat := ⟨_, rfl⟩
   simp only [← hp] at hpwt hpp hz0 htm htn hrm hex
   obtain ⟨w, hw⟩ : ∃ w, w = v.tmod p := ⟨_, rfl⟩
   simp only [← hw] at htm htn hrm
   by_cases h3 : t > 0
   ·by_cases h4 : v % p = 0
    ·have hex := hex h4
     have htm := htm h4
     rw [hp] at hex
     (conv => cbv)
     repeat' (first | assumption | ((first | rw [hlnl] | rw [hgi] | rw [hrm] | refine hk.idxI hi h2 ?_ | refine hk.nzI hpp ?_ | refine hx2 _ _ ?_ | refine stp ?_ | refine stpB (fun _ => ?_) (fun _ => ?_)) <;> (conv => cbv)) | exact stpF | fail)
     refine hb (i + 1, t) _ ⟨by simp only; omega, by simp only; omega, ht, by simp only; omega, hex⟩ (by simp only; omega) ?_
     dsimp only
     refine Gh.tm ?_
     repeat' (first | exact Holds.nil _ _ | refine Holds.cons (Wk.refl _ _) ?_ | refine Holds.cons (Wk.of_eq ?_) ?_)
     all_goals first
      | (rw [← hk.add64 i 1 (by omega) (by omega)]; rfl)
      | rfl
      | skip
    ·have htn := htn h4
     have : sh < t := by
      rcases Int.lt_or_eq_of_le ht with h | h
      ·exact h
      ·exact absurd (hz0 (by omega)) h4
     obtain ⟨t1, ht1⟩ : ∃ x, x = t - 1 := ⟨_, rfl⟩
     have hsub : i2 .sub .i64 t 1 = t1 := by rw [ht1]; exact hk.sub64 _ _ (by omega) (by omega)
     (conv => cbv)
     repeat' (first | assumption | ((first | rw [hlnl] | rw [hgi] | rw [hrm] | refine hk.idxI hi h2 ?_ | refine hk.nzI hpp ?_ | rw [hsub] | refine stp ?_ | refine stpB (fun _ => ?_) (fun _ => ?_)) <;> (conv => cbv)) | exact stpF | fail)
     refine hb2 t1 _ ⟨by omega, by omega⟩ (by omega) ?_
     refine Gh.tm ?_
     repeat' (first | exact Holds.nil _ _ | refine Holds.cons (Wk.refl _ _) ?_ | refine Holds.cons (Wk.of_eq ?_) ?_)
   ·have ht0 : t = 0 := by omega
    have hex := hex (hz0 (by omega))
    rw [hp] at hex
    (conv => cbv)
    repeat' (first | assumption | ((first | rw [hlnl] | rw [hgi] | refine hx2 _ _ ?_ | refine stp ?_ | refine stpB (fun _ => ?_) (fun _ => ?_)) <;> (conv => cbv)) | exact stpF | fail)
    refine hb (i + 1, t) _ ⟨by simp only; omega, by simp only; omega, ht, by simp only; omega, hex⟩ (by simp only; omega) ?_
    dsimp only
    refine Gh.tm ?_
    repeat' (first | exact Holds.nil _ _ | refine Holds.cons (Wk.refl _ _) ?_ | refine Holds.cons (Wk.of_eq ?_) ?_)
    all_goals first
     | (rw [← hk.add64 i 1 (by omega) (by omega)]; rfl)
     | rfl
     | skip
  ·have hsn := hfin s hsl hsu2 (fun j hj => hsd j (by omega))
   subst hsn
   clear hfin hpw hmn hs00 hsd hZ0 hb hr
   (conv => cbv)
   repeat' (first | assumption | ((first | rw [hlnl] | refine hx _ _ ?_ | refine stp ?_ | refine stpB (fun _ => ?_) (fun _ => ?_)) <;> (conv => cbv)) | exact stpF | fail)
   clear hx
   refine hk.loopI (loop_rule (α := Int) (fun i => [(0, .ls (.il .i64 l) .any), (1, .int .i64 d), (5, .ptr 0 0), (6, .ptr 1 0), (7, .int .i64 0), (8, .ptr 2 0), (9, .int .i64 c0), (10, .int .i64 s), (12, .ls (.il .i64 (Q i)) (.tok 3 0)), (56, .int .i64 n), (57, .int .i64 i)]) (fun i => [.box [.int .i64 o, .int .i64 dp, .bool lags, .bool wv, .bool true], .box [.int .i64 0, .int .i64 0, .int .i64 0, .ls .nl .nil, .int .i64 0, .int .i64 0, .int .i64 0, .ls .nl .nil, .ls .nl .nil], .box [.int .i64 (b0).kd, .int .i64 (b0).vl, .int .i64 (b0).sh, .ls (.il .i64 (b0).ix) .any, .int .i64 (b0).lg, .int .i64 (b0).gn, .int .i64 (b0).pt, .ls (.il .i64 (b0).rc) .any, .ls (.il .i64 (b0).da) .any], .tok 0]) (fun i => 0 ≤ i ∧ i ≤ n) (fun i => (n - i).toNat) 0 ⟨by omega, by omega⟩ ?_ ?_)
   ·rw [hQ0]
    refine Gh.trans (Gh.thaw 12 (.il .i64 []) rfl trivial rfl) (Gh.tm ?_)
    repeat' (first | exact Holds.nil _ _ | refine Holds.cons (Wk.refl _ _) ?_)
   intro i ⟨hi, hi2⟩ Q' hb hx hr
   by_cases h2 : i < n
   ·have hqs := hQs i hi h2
    rw [← hgl] at hqs
    have lQ := hln (Q i)
    rw [hQl i hi hi2] at lQ
    have aQ := hap0 (Q i) [P9 (gtI l i)]
    rw [← hqs] at aQ
    have hdq := hdq i hi h2
    obtain ⟨x, hx0⟩ : ∃ x, x = gtI l i := ⟨_, rfl⟩
    rw [← hx0] at aQ hdq
    obtain ⟨y, hy0⟩ : ∃ y, y = P9 x := ⟨_, rfl⟩
    rw [← hy0] at aQ hdq
    obtain ⟨Q0, hQ00⟩ : ∃ x, x = Q i := ⟨_, rfl⟩
    obtain ⟨Q1, hQ10⟩ : ∃ x, x = Q (i + 1) := ⟨_, rfl⟩
    rw [← hQ00] at aQ lQ ⊢
    rw [← hQ10] at aQ
    clear hqs
    (conv => cbv)
    repeat' (first | assumption | ((first | rw [hlnl] | refine hk.idxI hi h2 ?_ | rw [← hx0] | refine hk.nzI hp90 ?_ | rw [hdq] | rw [lQ] | rw [hl1] | rw [aQ] | refine stp ?_ | refine stpB (fun _ => ?_) (fun _ => ?_)) <;> (conv => cbv)) | exact stpF | fail)
    refine hb (i + 1) _ ⟨by omega, by omega⟩ (by omega) ?_
    rw [← hQ10]
    refine Gh.retok 3 1 rfl (Nat.le_of_ble_eq_true rfl) ?_ rfl rfl
    repeat' (first | exact HoldsT.nil _ _ _ _ | refine HoldsT.tok rfl ?_ | refine HoldsT.cons (Wk.refl _ _) rfl ?_ | refine HoldsT.cons (Wk.of_eq ?_) rfl ?_)
    all_goals first
     | (rw [← hk.add64 i 1 (by omega) (by omega)]; rfl)
     | rfl
     | skip
   have : i = n := by omega
   subst this
   rw [hQn]
   clear hb hr
   (conv => cbv)
   repeat' (first | assumption | ((first | rw [hlnl] | refine hx _ _ ?_ | refine stp ?_ | refine stpB (fun _ => ?_) (fun _ => ?_)) <;> (conv => cbv)) | exact stpF | fail)
   clear hx
   refine hk.loopI (loop_rule (α := Int) (fun m => [(0, .ls (.il .i64 l) .any), (1, .int .i64 d), (5, .ptr 0 0), (6, .ptr 1 0), (7, .int .i64 0), (8, .ptr 2 0), (9, .int .i64 (C m)), (10, .int .i64 s), (12, .ls (.il .i64 low) .any), (14, .ls (.il .i64 q) .any), (16, .int .i64 m)]) (fun m => [.box [.int .i64 o, .int .i64 dp, .bool lags, .bool wv, .bool true], .box [.int .i64 0, .int .i64 0, .int .i64 0, .ls .nl .nil, .int .i64 0, .int .i64 0, .int .i64 0, .ls .nl .nil, .ls .nl .nil], .box [.int .i64 (B m).kd, .int .i64 (B m).vl, .int .i64 (B m).sh, .ls (.il .i64 (B m).ix) .any, .int .i64 (B m).lg, .int .i64 (B m).gn, .int .i64 (B m).pt, .ls (.il .i64 (B m).rc) .any, .ls (.il .i64 (B m).da) .any], .tok 0]) (fun m => 0 ≤ m ∧ m ≤ o + 1) (fun m => (o + 1 - m).toNat) 0 ⟨by omega, by omega⟩ ?_ ?_)
   ·rw [← hc0, ← hb0]
    refine Gh.tm ?_
    repeat' (first | exact Holds.nil _ _ | refine Holds.cons (Wk.refl _ _) ?_ | refine Holds.cons (Wk.any _ _ _) ?_)
   intro m ⟨hm, hm2⟩ Q2 hbm hxm hrm
   by_cases h3 : m ≤ o
   ·obtain ⟨ix, e, x1, x2, E1, E2, lg, gn, nb1, nb2, B1, C1, hix, hnr1, hbt1, hrs, hbs, hnr2, hbt2, s1, s1', s2, s3⟩ := hst m hm h3
    have hsb : sbI q 0 m = ix := by rw [hsbI, ← hix]; simp
    obtain ⟨Cm, hCm⟩ : ∃ x, x = C m := ⟨_, rfl⟩
    obtain ⟨Bm, hBm⟩ : ∃ x, x = B m := ⟨_, rfl⟩
    obtain ⟨Cn, hCn⟩ : ∃ x, x = C (m + 1) := ⟨_, rfl⟩
    obtain ⟨Bn, hBn⟩ : ∃ x, x = B (m + 1) := ⟨_, rfl⟩
    rw [← hCm] at s1
    rw [← hCm, ← hBm] at s1'
    rw [← hCn, ← hBn] at s2 s3
    rw [← hCm, ← hBm]
    by_cases hA : E1 = 0 ∧ nb1 < Cm
    ·obtain ⟨e1, e2⟩ := s1 hA
     obtain ⟨h4, h8⟩ := hA
     have hb1 := hbt1 h4
     clear s1 s1'
     rw [e1, e2] at s2 s3
     cases lags
     ·obtain ⟨r1, r2⟩ := s3 (.inl rfl)
      clear s2 s3
      (conv => cbv)
      repeat' (first | assumption | ((first | rw [hlq] | rw [hsb] | refine stp ?_ | refine stpB (fun _ => ?_) (fun _ => ?_)) <;> (conv => cbv)) | exact stpF | fail)
      all_goals refine hbm (m + 1) _ ⟨by omega, by omega⟩ (by omega) ?_
      all_goals rw [← hBn, r1, ← hCn, r2]
      all_goals
       refine Gh.low 4 (Nat.le_of_ble_eq_true rfl) ?_ rfl rfl rfl
       repeat' (first | exact Holds.nil _ _ | refine Holds.cons (Wk.refl _ _) ?_ | refine Holds.cons (Wk.of_eq ?_) ?_)
       all_goals first
        | (rw [← hk.add64 m 1 (by omega) (by omega)]; rfl)
        | rfl
        | skip
     ·by_cases h5 : lg = 0
      ·obtain ⟨r1, r2⟩ := s3 (.inr h5)
       clear s2 s3
       (conv => cbv)
       repeat' (first | assumption | ((first | rw [hlq] | rw [hsb] | refine stp ?_ | refine stpB (fun _ => ?_) (fun _ => ?_)) <;> (conv => cbv)) | exact stpF | fail)
       all_goals refine hbm (m + 1) _ ⟨by omega, by omega⟩ (by omega) ?_
       all_goals rw [← hBn, r1, ← hCn, r2]
       all_goals
        refine Gh.low 4 (Nat.le_of_ble_eq_true rfl) ?_ rfl rfl rfl
        repeat' (first | exact Holds.nil _ _ | refine Holds.cons (Wk.refl _ _) ?_ | refine Holds.cons (Wk.of_eq ?_) ?_)
        all_goals first
         | (rw [← hk.add64 m 1 (by omega) (by omega)]; rfl)
         | rfl
         | skip
      ·obtain ⟨s4, s5⟩ := s2 rfl h5
       clear s2 s3
       by_cases hA2 : E2 = 0 ∧ nb2 < nb1
       ·obtain ⟨r1, r2⟩ := s4 hA2
        obtain ⟨h6, h7⟩ := hA2
        have hb2 := hbt2 h6
        clear s4 s5
        (conv => cbv)
        repeat' (first | assumption | ((first | rw [hlq] | rw [hsb] | refine stp ?_ | refine stpB (fun _ => ?_) (fun _ => ?_)) <;> (conv => cbv)) | exact stpF | fail)
        all_goals refine hbm (m + 1) _ ⟨by omega, by omega⟩ (by omega) ?_
        all_goals rw [← hBn, r1, ← hCn, r2]
        all_goals
         refine Gh.low 4 (Nat.le_of_ble_eq_true rfl) ?_ rfl rfl rfl
         repeat' (first | exact Holds.nil _ _ | refine Holds.cons (Wk.refl _ _) ?_ | refine Holds.cons (Wk.of_eq ?_) ?_)
         all_goals first
          | (rw [← hk.add64 m 1 (by omega) (by omega)]; rfl)
          | rfl
          | skip
       ·obtain ⟨r1, r2⟩ := s5 hA2
        clear s4 s5
        (conv => cbv)
        repeat' (first | assumption | ((first | exact absurd (And.intro (by assumption) (by assumption)) hA2 | rw [hlq] | rw [hsb] | refine hk.callA (hbt2 (by assumption) _) ?_ | refine hk.calldA (hbt2 (by assumption)) ?_ | refine stp ?_ | refine stpB (fun _ => ?_) (fun _ => ?_)) <;> (conv => cbv)) | exact stpF | fail)
        all_goals refine hbm (m + 1) _ ⟨by omega, by omega⟩ (by omega) ?_
        all_goals rw [← hBn, r1, ← hCn, r2]
        all_goals
         refine Gh.low 4 (Nat.le_of_ble_eq_true rfl) ?_ rfl rfl rfl
         repeat' (first | exact Holds.nil _ _ | refine Holds.cons (Wk.refl _ _) ?_ | refine Holds.cons (Wk.of_eq ?_) ?_)
         all_goals first
          | (rw [← hk.add64 m 1 (by omega) (by omega)]; rfl)
          | rfl
          | skip
    ·obtain ⟨e1, e2⟩ := s1' hA
     clear s1 s1'
     rw [e1, e2] at s2 s3
     cases lags
     ·obtain ⟨r1, r2⟩ := s3 (.inl rfl)
      clear s2 s3
      (conv => cbv)
      repeat' (first | assumption | ((first | rw [hlq] | rw [hsb] | refine hk.callA (hbt1 (by assumption) _) ?_|refine hk.calldA (hbt1 (by assumption)) ?_|exact absurd (And.intro (by assumption) (by assumption)) hA | refine stp ?_ | refine stpB (fun _ => ?_) (fun _ => ?_)) <;> (conv => cbv)) | exact stpF | fail)
      all_goals refine hbm (m + 1) _ ⟨by omega, by omega⟩ (by omega) ?_
      all_goals rw [← hBn, r1, ← hCn, r2]
      all_goals
       refine Gh.low 4 (Nat.le_of_ble_eq_true rfl) ?_ rfl rfl rfl
       repeat' (first | exact Holds.nil _ _ | refine Holds.cons (Wk.refl _ _) ?_ | refine Holds.cons (Wk.of_eq ?_) ?_)
       all_goals first
        | (rw [← hk.add64 m 1 (by omega) (by omega)]; rfl)
        | rfl
        | skip
     ·by_cases h5 : lg = 0
      ·obtain ⟨r1, r2⟩ := s3 (.inr h5)
       clear s2 s3
       (conv => cbv)
       repeat' (first | assumption | ((first | rw [hlq] | rw [hsb] | refine hk.callA (hbt1 (by assumption) _) ?_|refine hk.calldA (hbt1 (by assumption)) ?_|exact absurd (And.intro (by assumption) (by assumption)) hA | refine stp ?_ | refine stpB (fun _ => ?_) (fun _ => ?_)) <;> (conv => cbv)) | exact stpF | fail)
       all_goals refine hbm (m + 1) _ ⟨by omega, by omega⟩ (by omega) ?_
       all_goals rw [← hBn, r1, ← hCn, r2]
       all_goals
        refine Gh.low 4 (Nat.le_of_ble_eq_true rfl) ?_ rfl rfl rfl
        repeat' (first | exact Holds.nil _ _ | refine Holds.cons (Wk.refl _ _) ?_ | refine Holds.cons (Wk.of_eq ?_) ?_)
        all_goals first
         | (rw [← hk.add64 m 1 (by omega) (by omega)]; rfl)
         | rfl
         | skip
      ·obtain ⟨s4, s5⟩ := s2 rfl h5
       clear s2 s3
       by_cases hA2 : E2 = 0 ∧ nb2 < Cm
       ·obtain ⟨r1, r2⟩ := s4 hA2
        obtain ⟨h6, h7⟩ := hA2
        have hb2 := hbt2 h6
        clear s4 s5
        (conv => cbv)
        repeat' (first | assumption | ((first | rw [hlq] | rw [hsb] | refine hk.callA (hbt1 (by assumption) _) ?_|refine hk.calldA (hbt1 (by assumption)) ?_|exact absurd (And.intro (by assumption) (by assumption)) hA | refine stp ?_ | refine stpB (fun _ => ?_) (fun _ => ?_)) <;> (conv => cbv)) | exact stpF | fail)
        all_goals refine hbm (m + 1) _ ⟨by omega, by omega⟩ (by omega) ?_
        all_goals rw [← hBn, r1, ← hCn, r2]
        all_goals
         refine Gh.low 4 (Nat.le_of_ble_eq_true rfl) ?_ rfl rfl rfl
         repeat' (first | exact Holds.nil _ _ | refine Holds.cons (Wk.refl _ _) ?_ | refine Holds.cons (Wk.of_eq ?_) ?_)
         all_goals first
          | (rw [← hk.add64 m 1 (by omega) (by omega)]; rfl)
          | rfl
          | skip
       ·obtain ⟨r1, r2⟩ := s5 hA2
        clear s4 s5
        (conv => cbv)
        repeat' (first | assumption | ((first | exact absurd (And.intro (by assumption) (by assumption)) hA2 | rw [hlq] | rw [hsb] | refine hk.callA (hbt1 (by assumption) _) ?_|refine hk.calldA (hbt1 (by assumption)) ?_|exact absurd (And.intro (by assumption) (by assumption)) hA | refine hk.callA (hbt2 (by assumption) _) ?_ | refine hk.calldA (hbt2 (by assumption)) ?_ | refine stp ?_ | refine stpB (fun _ => ?_) (fun _ => ?_)) <;> (conv => cbv)) | exact stpF | fail)
        all_goals refine hbm (m + 1) _ ⟨by omega, by omega⟩ (by omega) ?_
        all_goals rw [← hBn, r1, ← hCn, r2]
        all_goals
         refine Gh.low 4 (Nat.le_of_ble_eq_true rfl) ?_ rfl rfl rfl
         repeat' (first | exact Holds.nil _ _ | refine Holds.cons (Wk.refl _ _) ?_ | refine Holds.cons (Wk.of_eq ?_) ?_)
         all_goals first
          | (rw [← hk.add64 m 1 (by omega) (by omega)]; rfl)
          | rfl
          | skip
   ·have hmo : m = o + 1 := by omega
    obtain ⟨c9, hc9⟩ : ∃ x, x = C m := ⟨_, rfl⟩
    obtain ⟨b9, hb9⟩ : ∃ x, x = B m := ⟨_, rfl⟩
    rw [← hc9, ← hb9]
    (conv => cbv)
    repeat' (first | assumption | ((first | refine hxm _ _ ?_ | refine stp ?_ | refine stpB (fun _ => ?_) (fun _ => ?_)) <;> (conv => cbv)) | exact stpF | fail)
    all_goals exact hk.fin0 rfl rfl (Wk.of_eq (by rw [hc9, hb9, hmo]))
end Go.Proofs.YtoeekjddeknmbaaGreat
