/-
  Contracts of functions of the program, proved over the abstract machine of the Al texts.
-/
import Derived.Test.YtoeekjddeknmbaaGreatTryTab
import Derived.Test.YtoeekjddeknmbaaGreatAl4
import Derived.Test.YtoeekjddeknmbaaGreatBaseX
import Derived.Test.YtoeekjddeknmbaaGreatRkX
import Derived.Test.YtoeekjddeknmbaaGreatBsX1
import Derived.Test.YtoeekjddeknmbaaGreatBsX2
import Derived.Test.YtoeekjddeknmbaaGreatBsX3
import Derived.Test.YtoeekjddeknmbaaGreatPlX
import Derived.Test.YtoeekjddeknmbaaGreatTkX3
import Derived.Test.YtoeekjddeknmbaaGreatSbX
import Derived.Test.YtoeekjddeknmbaaGreatNmX
import Derived.Test.YtoeekjddeknmbaaGreatWkX
import Derived.Test.YtoeekjddeknmbaaGreatNoX
import Derived.Test.YtoeekjddeknmbaaGreatFlX
import Derived.Test.YtoeekjddeknmbaaGreatNoY
set_option maxHeartbeats 4000000
set_option maxRecDepth 20000
set_option linter.unusedSimpArgs false
set_option linter.unusedVariables false
open Go Go.AL
namespace Go.Proofs.YtoeekjddeknmbaaGreat
theorem rnormal_chk (l : List Int) (d : Int) (ix : List Int) (lg gn sh : Int) (h : Heap) (hl : l.length ≤ 9223372036854775807) (hc : chkE l d ≠ 0) :
 Does PP 27 [LI l, I d, LI ix, I lg, I gn, I sh] h (Is (.tup [zBlk.v, I (chkE l d)]) h) := by
 have hd := fun h => rdepth_spec d h
 obtain ⟨n, hn⟩ : ∃ n : Int, n = (l.length : Nat) := ⟨_, rfl⟩
 refine pure0 ?_ rfl rfl h
 by_cases h1 : 1 ≤ n ∧ n ≤ 1024
 case neg =>
  rw [chkE, if_pos (by omega)]
  refine wlk Tryz.f27 ?_
  unhygienic intros
  have hln : lnI l = n := by rw [hk.lnI_eq]; omega
  by_cases h8 : 8 ≤ d ∧ d ≤ 26
  ·rw [decide_eq_true h8.1, decide_eq_true h8.2] at hd
   (conv => cbv)
   repeat' (first | assumption | ((first | rw [hln] | refine stp ?_ | refine stpB (fun _ => ?_) (fun _ => ?_)) <;> (conv => cbv)) | exact stpF | fail)
   all_goals exact hk.fin0 rfl rfl zblk_wk
  ·rw [show (decide (8 ≤ d) && decide (d ≤ 26)) = false by rw [Bool.and_eq_false_iff, decide_eq_false_iff_not, decide_eq_false_iff_not]; omega] at hd
   (conv => cbv)
   repeat' (first | assumption | ((first | rw [hln] | refine stp ?_ | refine stpB (fun _ => ?_) (fun _ => ?_)) <;> (conv => cbv)) | exact stpF | fail)
   all_goals exact hk.fin0 rfl rfl zblk_wk
 by_cases h8 : 8 ≤ d ∧ d ≤ 26
 case neg =>
  rw [chkE, if_pos (by omega)]
  refine wlk Tryz.f27 ?_
  unhygienic intros
  have hln : lnI l = n := by rw [hk.lnI_eq]; omega
  rw [show (decide (8 ≤ d) && decide (d ≤ 26)) = false by rw [Bool.and_eq_false_iff, decide_eq_false_iff_not, decide_eq_false_iff_not]; omega] at hd
  (conv => cbv)
  repeat' (first | assumption | ((first | rw [hln] | refine stp ?_ | refine stpB (fun _ => ?_) (fun _ => ?_)) <;> (conv => cbv)) | exact stpF | fail)
  all_goals exact hk.fin0 rfl rfl zblk_wk
 have hal := fun h => rall_spec l d h h8.1 h8.2 hl
 have hany : l.any (lacksP d) = true := by
  rw [chkE, if_neg (by omega)] at hc
  by_cases e : l.any (lacksP d) = true
  ·exact e
  ·rw [if_neg e] at hc; exact absurd rfl hc
 rw [chkE, if_neg (by omega), if_pos hany]
 rw [allP, hany] at hal
 rw [decide_eq_true h8.1, decide_eq_true h8.2] at hd
 refine wlk Tryz.f27 ?_
 unhygienic intros
 have hln : lnI l = n := by rw [hk.lnI_eq]; omega
 clear hany hc
 (conv => cbv)
 repeat' (first | assumption | ((first | rw [hln] | refine stp ?_ | refine stpB (fun _ => ?_) (fun _ => ?_)) <;> (conv => cbv)) | exact stpF | fail)
 all_goals exact hk.fin0 rfl rfl zblk_wk
theorem rnormal_form (l : List Int) (d : Int) (ix : List Int) (lg gn sh : Int) (h : Heap) (hc : chkE l d = 0) (hil : ix.length ≤ 9223372036854775807) (hf : ¬ (0 ≤ sh ∧ sh < d ∧ goodIx ix = true ∧ termB lg gn = true)) :
 Does PP 27 [LI l, I d, LI ix, I lg, I gn, I sh] h (Is (.tup [zBlk.v, I 2]) h) := by
 obtain ⟨l1, l2, d1, d2, hlk⟩ := chkE_ok hc
 have hd := fun h => rdepth_spec d h
 rw [decide_eq_true d1, decide_eq_true d2] at hd
 have hal := fun h => rall_spec l d h d1 d2 (Nat.le_trans l2 (by decide))
 rw [allP, show l.any (lacksP d) = false by rw [List.any_eq_false]; intro x hx; rw [hlk x hx]; decide] at hal
 obtain ⟨n, hn⟩ : ∃ n : Int, n = (l.length : Nat) := ⟨_, rfl⟩
 have hn0 : 1 ≤ n ∧ n ≤ 1024 := by omega
 have hgi := fun h => rgood_spec ix h hil
 have htm := fun h => rterm_spec lg gn h
 clear hlk hc
 refine pure0 ?_ rfl rfl h
 refine wlk Tryz.f27 ?_
 unhygienic intros
 have hln : lnI l = n := by rw [hk.lnI_eq]; omega
 by_cases h1 : 0 ≤ sh
 case neg =>
  clear hf
  (conv => cbv)
  repeat' (first | assumption | ((first | rw [hln] | refine stp ?_ | refine stpB (fun _ => ?_) (fun _ => ?_)) <;> (conv => cbv)) | exact stpF | fail)
  all_goals exact hk.fin0 rfl rfl zblk_wk
 by_cases h2 : sh < d
 case neg =>
  clear hf
  (conv => cbv)
  repeat' (first | assumption | ((first | rw [hln] | refine stp ?_ | refine stpB (fun _ => ?_) (fun _ => ?_)) <;> (conv => cbv)) | exact stpF | fail)
  all_goals exact hk.fin0 rfl rfl zblk_wk
 cases h3 : goodIx ix
 ·simp only [h3] at hgi
  clear hf
  (conv => cbv)
  repeat' (first | assumption | ((first | rw [hln] | refine stp ?_ | refine stpB (fun _ => ?_) (fun _ => ?_)) <;> (conv => cbv)) | exact stpF | fail)
  all_goals exact hk.fin0 rfl rfl zblk_wk
 have h4 : termB lg gn = false := by
  by_cases e : termB lg gn = true
  ·exact absurd ⟨h1, h2, h3, e⟩ hf
  ·simpa using e
 simp only [h3] at hgi
 simp only [h4] at htm
 clear hf
 (conv => cbv)
 repeat' (first | assumption | ((first | rw [hln] | refine stp ?_ | refine stpB (fun _ => ?_) (fun _ => ?_)) <;> (conv => cbv)) | exact stpF | fail)
 all_goals exact hk.fin0 rfl rfl zblk_wk
theorem rnormal_rest (l : List Int) (d : Int) (ix : List Int) (lg gn sh : Int) (h : Heap) (hc : chkE l d = 0) (h1 : 0 ≤ sh) (h2 : sh < d) (h3 : goodIx ix = true) (h4 : termB lg gn = true) :
 Does PP 27 [LI l, I d, LI ix, I lg, I gn, I sh] h (Is (.tup [(nrmX l d ix lg gn sh).v, I (nrmE l d ix lg gn sh)]) h) := by
 obtain ⟨l1, l2, d1, d2, hlk⟩ := chkE_ok hc
 have hd := fun h => rdepth_spec d h
 rw [decide_eq_true d1, decide_eq_true d2] at hd
 have hal := fun h => rall_spec l d h d1 d2 (Nat.le_trans l2 (by decide))
 rw [allP, show l.any (lacksP d) = false by rw [List.any_eq_false]; intro x hx; rw [hlk x hx]; decide] at hal
 have hix := (goodIx_iff ix).1 h3
 have hgi := fun h => rgood_spec ix h (Nat.le_trans hix.1 (by decide))
 have htm := fun h => rterm_spec lg gn h
 rw [h3] at hgi
 rw [h4] at htm
 have hpw := fun h => power_spec sh h (by omega)
 have hxr : ∀ i, i < l.length → -33554432 ≤ l.getD i 0 ∧ l.getD i 0 < 33554432 := fun i hi => lacks_small d1 d2 (hlk _ (mem_getD.2 ⟨i, hi, rfl⟩))
 have hE0 : nrmE l d ix lg gn sh = if nrmF l d ix lg gn sh = false then 2 else if (resL ix (lowL sh l)).any out40 = true ∨ (data0 l ix lg gn sh).any farP = true then 9 else 0 := by
  unfold nrmE
  rw [if_neg (by rw [hc]; decide)]
 have hF0 : nrmF l d ix lg gn sh = !(l.any (brkP sh)) := by
  unfold nrmF
  rw [h3, h4, decide_eq_true h1, decide_eq_true h2]
  rfl
 obtain ⟨P, hP⟩ : ∃ P : Int, P = 2 ^ sh.toNat := ⟨_, rfl⟩
 have hP1 : 1 ≤ P ∧ P ≤ 67108864 := by
  have : ∀ k : Nat, k ≤ 26 → (1 : Int) ≤ 2 ^ k ∧ (2 : Int) ^ k ≤ 67108864 := by decide
  rw [hP]; exact this _ (by omega)
 have hbk : ∀ i, i < l.length → brkP sh (l.getD i 0) = decide (l.getD i 0 % P ≠ 0) := fun i hi => by rw [hP]; exact brk_mod h1 (by omega) (hxr i hi)
 obtain ⟨Q, hQ⟩ : ∃ Q : Int → List Int, ∀ i, Q i = (lowL sh l).take i.toNat := ⟨_, fun _ => rfl⟩
 obtain ⟨n, hn⟩ : ∃ n : Int, n = (l.length : Nat) := ⟨_, rfl⟩
 have hn0 : 1 ≤ n ∧ n ≤ 1024 := by omega
 have hQn : lowL sh l = Q n := by rw [hQ, List.take_of_length_le (by rw [lowL_len]; omega)]
 have hQ0 : Q 0 = [] := by rw [hQ]; rfl
 have hQl : ∀ i : Int, 0 ≤ i → i ≤ n → ((Q i).length : Int) = i := fun i a b => by rw [hQ, List.length_take, lowL_len]; omega
 have hQs : ∀ i : Int, 0 ≤ i → i < n → Q (i + 1) = Q i ++ [l.getD i.toNat 0 / P] := fun i a b => by
  rw [hQ, hQ, hP, show (i + 1).toNat = i.toNat + 1 by omega, takeI_snoc _ _ (by rw [lowL_len]; omega), lowL_get _ _ _ (by omega)]
 rw [← hP] at hpw
 have hbad : ∀ i : Int, 0 ≤ i → i < n → l.getD i.toNat 0 % P ≠ 0 → nrmE l d ix lg gn sh = 2 ∧ nrmX l d ix lg gn sh = zBlk := fun i a b c => by
  have e : nrmE l d ix lg gn sh = 2 := by
   rw [hE0, hF0, if_pos]
   rw [Bool.not_eq_false', List.any_eq_true]
   exact ⟨_, mem_getD.2 ⟨i.toNat, by omega, rfl⟩, by rw [hbk _ (by omega), decide_eq_true c]⟩
  exact ⟨e, by unfold nrmX; rw [if_neg (by rw [e]; decide)]⟩
 obtain ⟨X, hX⟩ : ∃ X, X = nrmX l d ix lg gn sh := ⟨_, rfl⟩
 obtain ⟨E, hE⟩ : ∃ X, X = nrmE l d ix lg gn sh := ⟨_, rfl⟩
 rw [← hX, ← hE]
 rw [← hX, ← hE] at hbad
 refine pure0 ?_ rfl rfl h
 refine wlk Tryz.f27 ?_
 unhygienic intros
 have hln : lnI l = n := by rw [hk.lnI_eq]; omega
 have hgl := hk.gtI_eq l
 have hl1 : ∀ x, lnI [x] = 1 := fun x => hk.lnI_eq _
 have hlo : ∀ i, 0 ≤ i → i ≤ n → lnI (Q i) = i := fun i c d => by rw [hk.lnI_eq, hQl i c d]
 (conv => cbv)
 repeat' (first | assumption | ((first | rw [hln] | refine stp ?_ | refine stpB (fun _ => ?_) (fun _ => ?_)) <;> (conv => cbv)) | exact stpF | fail)
 clear hd hal hgi htm
 refine hk.loopI (loop_rule (α := Int) (fun i => [(0, .ls (.il .i64 l) .any), (2, .ls (.il .i64 ix) .any), (3, .int .i64 lg), (4, .int .i64 gn), (5, .int .i64 sh), (12, .ptr 0 0), (14, .ls (.il .i64 (Q i)) (.tok 1 0)), (59, .int .i64 n), (60, .int .i64 i)])
  (fun i => [.box [.int .i64 0, .int .i64 0, .int .i64 0, .ls .nl .nil, .int .i64 0, .int .i64 0, .int .i64 0, .ls .nl .nil, .ls .nl .nil], .tok 0])
  (fun i => 0 ≤ i ∧ i ≤ n ∧ ∀ j : Int, 0 ≤ j → j < i → l.getD j.toNat 0 % P = 0) (fun i => (n - i).toNat) 0 ⟨by omega, by omega, fun j a b => by omega⟩ ?_ ?_)
 ·rw [hQ0]
  refine Gh.trans (Gh.thaw 14 (.il .i64 []) rfl trivial rfl) (Gh.tm ?_)
  repeat' (first | exact Holds.nil _ _ | refine Holds.cons (Wk.refl _ _) ?_)
 intro i ⟨hi, hi2, hall⟩ Q' hb hx hr
 have hlo := hlo i hi hi2
 by_cases hlt : i < n
 ·have hq := hQs i hi hlt
  have hbad := hbad i hi hlt
  obtain ⟨x0, x1⟩ := hxr i.toNat (by omega)
  have hall2 : l.getD i.toNat 0 % P = 0 → ∀ j : Int, 0 ≤ j → j < i + 1 → l.getD j.toNat 0 % P = 0 := fun e j c d => by
   by_cases h : j < i
   ·exact hall j c h
   ·rw [show j = i by omega]; exact e
  obtain ⟨x, hx0⟩ : ∃ x, x = gtI l i := ⟨_, rfl⟩
  rw [← hgl, ← hx0] at hq hbad hall2 x0 x1
  have hPn : P ≠ 0 := by omega
  by_cases hm : x % P = 0
  ·have hdv : P ∣ x := Int.dvd_of_emod_eq_zero hm
   obtain ⟨m, hm0⟩ : ∃ m, m = x / P := ⟨_, rfl⟩
   rw [← hm0] at hq
   have hmr : -33554432 ≤ m ∧ m ≤ 33554432 := by
    have e := Int.ediv_mul_cancel hdv
    rw [← hm0] at e
    have h1 : m = x / P := hm0
    constructor
    ·rw [h1, Int.le_ediv_iff_mul_le (by omega)]
     have : 33554432 * 1 ≤ 33554432 * P := by omega
     omega
    ·have : x / P < 33554433 := by
      rw [Int.ediv_lt_iff_lt_mul (by omega)]
      omega
     omega
   have t1 : i2 .rem .i64 x P = 0 := by rw [hk.i2_rem]; exact Int.tmod_eq_zero_of_dvd hdv
   have t2 : i2 .quo .i64 x P = m := by rw [hk.i2_quo, Int.tdiv_eq_ediv_of_dvd hdv, ← hm0]; exact wrap64 (by omega) (by omega)
   have hap : apI (Q i) [m] = Q (i + 1) := by rw [hk.apI_eq]; exact hq.symm
   obtain ⟨Q0, hQ0⟩ : ∃ y, y = Q i := ⟨_, rfl⟩
   obtain ⟨Q1, hQ1⟩ : ∃ y, y = Q (i + 1) := ⟨_, rfl⟩
   rw [← hQ0] at hap hlo ⊢
   rw [← hQ1] at hap
   have hall3 := hall2 hm
   clear hm0 hq hbad hall hall2 hdv hm hX hE hE0 hF0 hbk hxr hQ hP
   (conv => cbv)
   repeat' (first | assumption | ((first | rw [hln] | refine hk.idxI hi hlt ?_ | rw [← hx0] | rw [t1] | rw [t2] | rw [hlo, hl1, hap] | refine stp ?_ | refine stpB (fun _ => ?_) (fun _ => ?_)) <;> (conv => cbv)) | exact stpF | fail)
   refine hb (i + 1) _ ⟨by omega, by omega, hall3⟩ (by omega) ?_
   rw [← hQ1]
   refine Gh.retok 1 1 rfl (Nat.le_of_ble_eq_true rfl) ?_ rfl rfl
   repeat' (first | exact HoldsT.nil _ _ _ _ | refine HoldsT.tok rfl ?_ | refine HoldsT.cons (Wk.refl _ _) rfl ?_ | refine HoldsT.cons (Wk.of_eq ?_) rfl ?_)
   all_goals first
    | (rw [← hk.add64 i 1 (by omega) (by omega)]; rfl)
    | rfl
    | skip
  ·obtain ⟨rfl, rfl⟩ := hbad hm
   have t1 : i2 .rem .i64 x P ≠ 0 := by
    rw [hk.i2_rem]
    exact fun c => hm (Int.emod_eq_zero_of_dvd (Int.dvd_of_tmod_eq_zero c))
   obtain ⟨y, hy⟩ : ∃ y, y = i2 .rem .i64 x P := ⟨_, rfl⟩
   rw [← hy] at t1
   clear hq hbad hall hall2 hm hX hE hE0 hF0 hbk hxr hQ hP
   (conv => cbv)
   repeat' (first | assumption | ((first | rw [hln] | refine hk.idxI hi hlt ?_ | rw [← hx0] | rw [← hy] | refine hr _ ?_ | refine stp ?_ | refine stpB (fun _ => ?_) (fun _ => ?_)) <;> (conv => cbv)) | exact stpF | fail)
   all_goals exact hk.fin0 rfl rfl zblk_wk
 ·have hin : i = n := by omega
  have hF : nrmF l d ix lg gn sh = true := by
   rw [hF0, Bool.not_eq_true', List.any_eq_false]
   intro x hx
   obtain ⟨j, hj, rfl⟩ := mem_getD.1 hx
   have := hall (j : Nat) (by omega) (by omega)
   rw [Int.toNat_natCast] at this
   rw [hbk j hj, this]
   decide
  have hok := nrm_ok hc hF
  have hre := fun h => rresiduals_spec ix (lowL sh l) h hok.ix (lowL_small hok) (by rw [lowL_len]; exact hok.l2)
  have hwr := fun h => rwrong_spec lg gn (resL ix (lowL sh l)) h hok.tm (by rw [resL_len, lowL_len]; exact hok.l2)
  have hof := fun (hs : (resL ix (lowL sh l)).any out40 = false) h => roff_spec lg gn (resL ix (lowL sh l)) h hok.tm (wrE_small _ hs) (by rw [resL_len, lowL_len]; exact hok.l2)
  have hfr := fun h => rlist_spec (data0 l ix lg gn sh) h (by rw [data0_len]; exact Nat.le_trans hok.l2 (by decide))
  have hfl : listB (data0 l ix lg gn sh) = !((data0 l ix lg gn sh).any farP) := by
   unfold listB
   rw [data0_len, decide_eq_true hok.l1, decide_eq_true hok.l2]
   rfl
  rw [hfl] at hfr
  have hbe := fun (hx : (data0 l ix lg gn sh).any farP = false) h => rslBest_spec (data0 l ix lg gn sh) h (by rw [data0_len]; exact hok.l1) (by rw [data0_len]; exact hok.l2) hx
  rw [hF, if_neg (by decide)] at hE0
  unfold nrmX at hX
  rw [hE0] at hX hE
  unfold nrmP nrmK at hX
  have hD2 : data0 l ix lg gn sh = offL lg gn (resL ix (lowL sh l)) := rfl
  rw [hQn] at hre hwr hof hX hE hD2
  obtain ⟨R, hR⟩ : ∃ R, R = resL ix (Q n) := ⟨_, rfl⟩
  rw [← hR] at hX hE hD2
  simp only [← hR] at hre hwr hof
  rw [← hD2] at hof
  obtain ⟨D, hD⟩ : ∃ D, D = data0 l ix lg gn sh := ⟨_, rfl⟩
  rw [← hD] at hX hE
  simp only [← hD] at hof hfr hbe
  obtain ⟨KK, hKK⟩ : ∃ K, K = ksL D (bstP D 3) := ⟨_, rfl⟩
  obtain ⟨PQ, hPQ⟩ : ∃ P : Int, P = (bstP D 3 : Nat) := ⟨_, rfl⟩
  rw [← hKK, ← hPQ] at hX
  simp only [← hKK, ← hPQ] at hbe
  obtain ⟨b1, hb1⟩ : ∃ b, b = R.any out40 := ⟨_, rfl⟩
  obtain ⟨b2, hb2⟩ : ∃ b, b = D.any farP := ⟨_, rfl⟩
  simp only [wrE, ← hb1] at hwr hof
  simp only [← hb2] at hfr hbe
  rw [← hb1, ← hb2] at hX hE
  clear hb1 hb2 hKK hPQ hD hR hD2 hfl hE0 hF0 hF hok hbad hall hQs hbk hxr hQl hQ hQn hc hix hlk hP h3 h4 hpw hb hr
  subst hin
  have hre2 : ∀ h, Does PP 28 [LI ix, .ls (.il .i64 (Q i)) (.tok 1 0)] h (Is (.tup [LI R, I 0]) h) := fun h => (hre h).wk (by repeat' (first | exact WkL.nil | refine WkL.cons (Wk.refl _ _) ?_ | refine WkL.cons (Wk.any _ _ _) ?_ | refine WkL.cons (Wk.nilL _ _) ?_))
  clear hre
  cases b1
  ·have hof := hof rfl
   simp only [Bool.false_eq_true, if_false] at hwr
   cases b2
   ·have hbe := hbe rfl
    simp only [Bool.false_eq_true, if_false, false_or, if_true] at hX hE
    subst hX hE
    (conv => cbv)
    repeat' (first | assumption | ((first | refine hx _ _ ?_ | refine stp ?_ | refine stpB (fun _ => ?_) (fun _ => ?_)) <;> (conv => cbv)) | exact stpF | fail)
    all_goals exact hk.fin0 rfl rfl (Wk.refl _ _)
   ·clear hbe
    simp only [or_true, if_true] at hX hE
    subst hX hE
    (conv => cbv)
    repeat' (first | assumption | ((first | refine hx _ _ ?_ | refine stp ?_ | refine stpB (fun _ => ?_) (fun _ => ?_)) <;> (conv => cbv)) | exact stpF | fail)
    all_goals exact hk.fin0 rfl rfl zblk_wk
  ·clear hbe hfr hof
   simp only [if_true] at hwr
   simp only [true_or, if_true] at hX hE
   subst hX hE
   (conv => cbv)
   repeat' (first | assumption | ((first | refine hx _ _ ?_ | refine stp ?_ | refine stpB (fun _ => ?_) (fun _ => ?_)) <;> (conv => cbv)) | exact stpF | fail)
   all_goals exact hk.fin0 rfl rfl zblk_wk
theorem rnormal_spec (l : List Int) (d : Int) (ix : List Int) (lg gn sh : Int) (h : Heap) (hl : l.length ≤ 9223372036854775807) (hil : ix.length ≤ 9223372036854775807) :
 Does PP 27 [LI l, I d, LI ix, I lg, I gn, I sh] h (Is (.tup [(nrmX l d ix lg gn sh).v, I (nrmE l d ix lg gn sh)]) h) := by
 by_cases hc : chkE l d = 0
 case neg =>
  have e : nrmE l d ix lg gn sh = chkE l d := by unfold nrmE; rw [if_pos hc]
  have e2 : nrmX l d ix lg gn sh = zBlk := by unfold nrmX; rw [if_neg (by rw [e]; exact hc)]
  rw [e, e2]
  exact rnormal_chk l d ix lg gn sh h hl hc
 by_cases hf : 0 ≤ sh ∧ sh < d ∧ goodIx ix = true ∧ termB lg gn = true
 ·exact rnormal_rest l d ix lg gn sh h hc hf.1 hf.2.1 hf.2.2.1 hf.2.2.2
 ·have hf2 : nrmF l d ix lg gn sh = false := by
   unfold nrmF
   by_cases e : (decide (0 ≤ sh) && decide (sh < d) && goodIx ix && termB lg gn) = true
   ·simp only [Bool.and_eq_true, decide_eq_true_eq] at e
    exact absurd ⟨e.1.1.1, e.1.1.2, e.1.2, e.2⟩ hf
   ·simp [e]
  have e : nrmE l d ix lg gn sh = 2 := by unfold nrmE; rw [if_neg (by rw [hc]; decide), if_pos hf2]
  have e2 : nrmX l d ix lg gn sh = zBlk := by unfold nrmX; rw [if_neg (by rw [e]; decide)]
  rw [e, e2]
  exact rnormal_form l d ix lg gn sh h hc hil hf
end Go.Proofs.YtoeekjddeknmbaaGreat
