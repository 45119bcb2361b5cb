/-
  Contracts of functions of the program, proved over the abstract machine of the Al texts.
-/
import Derived.Test.YtoeekjddeknmbaaGreatTryTab
import Derived.Test.YtoeekjddeknmbaaGreatAl4
import Derived.Test.YtoeekjddeknmbaaGreatBaseX
import Derived.Test.YtoeekjddeknmbaaGreatRkX
import Derived.Test.YtoeekjddeknmbaaGreatBsX5
import Derived.Test.YtoeekjddeknmbaaGreatTkX3
import Derived.Test.YtoeekjddeknmbaaGreatNoX
import Derived.Test.YtoeekjddeknmbaaGreatFlX
import Derived.Test.YtoeekjddeknmbaaGreatBsX1
import Derived.Test.YtoeekjddeknmbaaGreatBsX2
import Derived.Test.YtoeekjddeknmbaaGreatBsX8
import Derived.Test.YtoeekjddeknmbaaGreatPlX
import Derived.Test.YtoeekjddeknmbaaGreatSbX
import Derived.Test.YtoeekjddeknmbaaGreatNmX
set_option maxHeartbeats 4000000
set_option maxRecDepth 20000
set_option linter.unusedSimpArgs false
set_option linter.unusedVariables false
open Go Go.AL
namespace Go.Proofs.YtoeekjddeknmbaaGreat
theorem nrm1_spec (sh n : Int) (o : AObj) (G : Heap) (h0 : 0 ≤ sh) (h1 : sh ≤ 26) : Does PP 84 [I n, .ptr 1 0] (o :: .box [I sh] :: G) (Is (.bool (brkP sh n)) (o :: .box [I sh] :: G)) := by
 obtain ⟨r, hr⟩ : ∃ r, r = brkP sh n := ⟨_, rfl⟩
 rw [← hr]
 refine wlk Tryz.f84 ?_
 unhygienic intros
 have t1 : i2 .shr .i64 n sh = n / 2 ^ sh.toNat := by
  rw [hk.i2_eq]
  show (n : Int).fdiv (2 ^ (min sh.toNat 64)) = _
  rw [show min sh.toNat 64 = sh.toNat by omega, Int.fdiv_eq_ediv_of_nonneg _ (Int.le_of_lt (Int.pow_pos (by decide)))]
 obtain ⟨q, hq⟩ : ∃ q, q = n / 2 ^ sh.toNat := ⟨_, rfl⟩
 rw [← hq] at t1
 have t2 : i2 .shl .i64 q sh = shl1 sh q := by rw [hk.i2_eq]; rfl
 obtain ⟨s, hs⟩ : ∃ s, s = shl1 sh q := ⟨_, rfl⟩
 rw [← hs] at t2
 have t3 : c2 .neq s n = r := by rw [hk.c2_neq, hr, brkP, ← hq, ← hs]
 clear hr hq hs
 (conv => cbv)
 repeat' (first | assumption | ((first | rw [t1] | rw [t2] | rw [t3] | refine hk.ge0I h0 ?_ | refine hk.needI (by first | (simp only [rNd, hk.ad_eq, hk.sb_eq]; omega) | (simp [rNd, hk.ad_eq, hk.sb_eq]; omega)) ?_ | refine stp ?_ | refine stpB (fun _ => ?_) (fun _ => ?_)) <;> (conv => cbv)) | exact stpF | fail)
 all_goals skip
theorem clone0_spec (h : Heap) : Does PP 34 [LI []] h (Is (LI []) h) := by
 refine pure0 ?_ rfl rfl h
 have hnil : Does PP 34 [.ls .nl .nil] [] (Is (LI []) []) := by
  refine wlk Tryz.f34 ?_
  unhygienic intros
  (conv => cbv)
  repeat' (first | assumption | ((first | refine stp ?_ | refine stpB (fun _ => ?_) (fun _ => ?_)) <;> (conv => cbv)) | exact stpF | fail)
  all_goals exact hk.fin0 rfl rfl (Wk.nilL _ _)
 refine clone_gen (fun i => Nat.ble 64 i) P_ok (fn := Tryz.f34) (t := 22) (el := 3) (by kernel_rfl) rfl rfl rfl rfl rfl rfl rfl rfl rfl rfl rfl (by kernel_rfl) (by kernel_rfl) hnil (hooks_v _ ?_)
 intro i2 c2 u1 cv mx mn ad sbt bn bq ba lnI gtI apI sbI stI rpI lnG gtG apG sbG stG rpG fi fb fs fl fg fc sln sgt sap ssb sc b2s s2b nd call calld callv callvd loop rfun fin hk
 have hln : lnI [] = 0 := by rw [hk.lnI_eq]; rfl
 have hap : apI [] [] = [] := by rw [hk.apI_eq]; rfl
 have had : ad 0 0 = 0 := by rw [hk.ad_eq]; rfl
 (conv => cbv)
 repeat' (first | assumption | ((first | rw [hln] | rw [had] | rw [hap] | refine hk.needI (by first | (simp only [rNd, hk.ad_eq, hk.sb_eq]; omega) | (simp [rNd, hk.ad_eq, hk.sb_eq]; omega)) ?_ | refine stp ?_ | refine stpB (fun _ => ?_) (fun _ => ?_)) <;> (conv => cbv)) | exact stpF | fail)
 refine ⟨hk.ndI ⟨rfl, rfl, by omega, by simp, by omega⟩, ?_⟩
 have e2 : rz 0 1 (.il .i64 []) (.sl 0 1 0 0) = .ls (.il .i64 []) .any := by rw [rz_sl]; rfl
 refine hk.finI (fin_rz 0 1 (.il .i64 []) rfl rfl ?_)
 rw [e2]
 exact fin_nil (.refl _ _) rfl ⟨rfl, rfl⟩
theorem cloneA_spec (l : List Int) (h : Heap) (h2 : l.length ≤ 1024) : Does PP 34 [LI l] h (Is (LI l) h) := by
 by_cases h1 : l.length = 0
 ·rw [List.eq_nil_of_length_eq_zero h1]; exact clone0_spec h
 ·exact clone_spec l h h1 h2
def nrmX (l : List Int) (d : Int) (ix : List Int) (lg gn sh : Int) : BlkIn :=
 if nrmE l d ix lg gn sh = 0 then ⟨2, 0, sh, ix, lg, gn, nrmP l ix lg gn sh, nrmK l ix lg gn sh, data0 l ix lg gn sh⟩ else zBlk
theorem zblk_wk {h : Heap} {e : AVal} : Wk h (.tup [.agg [.int .i64 0, .int .i64 0, .int .i64 0, .ls .nl .nil, .int .i64 0, .int .i64 0, .int .i64 0, .ls .nl .nil, .ls .nl .nil], e]) (.tup [.agg [.int .i64 0, .int .i64 0, .int .i64 0, .ls (.il .i64 []) .any, .int .i64 0, .int .i64 0, .int .i64 0, .ls (.il .i64 []) .any, .ls (.il .i64 []) .any], e]) :=
 Wk.tup ⟨Wk.agg ⟨.refl _ _, .refl _ _, .refl _ _, Wk.nilL _ _, .refl _ _, .refl _ _, .refl _ _, Wk.nilL _ _, Wk.nilL _ _, trivial⟩, .refl _ _, trivial⟩
theorem bnormal_chk (l : List Int) (d : Int) (ix : List Int) (lg gn sh : Int) (h : Heap) (hl : l.length ≤ 9223372036854775807) (hc : chkE l d ≠ 0) :
 Does PP 45 [LI l, I d, LI ix, .agg [I lg, I gn], I sh] h (Is (.tup [zBlk.v, I (chkE l d)]) h) := by
 have hck := fun h => check_spec l d h hl
 obtain ⟨E, hE⟩ : ∃ E, E = chkE l d := ⟨_, rfl⟩
 simp only [← hE] at hck hc ⊢
 refine pure0 ?_ rfl rfl h
 refine wlk Tryz.f45 ?_
 unhygienic intros
 clear hE
 (conv => cbv)
 repeat' (first | assumption | ((first | refine stp ?_ | refine stpB (fun _ => ?_) (fun _ => ?_)) <;> (conv => cbv)) | exact stpF | fail)
 all_goals exact hk.fin0 rfl rfl zblk_wk
theorem bnormal_form (l : List Int) (d : Int) (ix : List Int) (lg gn sh : Int) (h : Heap) (hl : l.length ≤ 9223372036854775807) (hil : ix.length ≤ 9223372036854775807) (hc : chkE l d = 0) (hf : nrmF l d ix lg gn sh = false) :
 Does PP 45 [LI l, I d, LI ix, .agg [I lg, I gn], I sh] h (Is (.tup [zBlk.v, I 2]) h) := by
 have hck := fun h => check_spec l d h hl
 rw [hc] at hck
 obtain ⟨_, _, d1, d2, _⟩ := chkE_ok hc
 have hgi := fun h => lgood_spec ix h hil
 have htm := fun h => lterm_spec lg gn h
 have hco : 0 ≤ sh → sh ≤ 26 → ∀ o G, Does PP 36 [LI l, .clo (.func 84) [] [.ptr 1 0]] (o :: .box [I sh] :: G) (Is (.bool (l.any (brkP sh))) (o :: .box [I sh] :: G)) := fun a b o G =>
  contains_spec l 84 [.ptr 1 0] (brkP sh) _ hl (fun n => nrm1_spec sh n o G a b)
 unfold nrmF at hf
 simp only [Bool.and_eq_false_iff, decide_eq_false_iff_not, Bool.not_eq_false'] at hf
 refine pure0 ?_ rfl rfl h
 by_cases h1 : sh < 0
 ·clear hf hco
  refine wlk Tryz.f45 ?_
  unhygienic intros
  (conv => cbv)
  repeat' (first | assumption | ((first | refine stp ?_ | refine stpB (fun _ => ?_) (fun _ => ?_)) <;> (conv => cbv)) | exact stpF | fail)
  all_goals exact hk.fin0 rfl rfl zblk_wk
 have h1 : 0 ≤ sh := by omega
 by_cases h2 : sh < d
 case neg =>
  clear hf hco
  refine wlk Tryz.f45 ?_
  unhygienic intros
  (conv => cbv)
  repeat' (first | assumption | ((first | refine stp ?_ | refine stpB (fun _ => ?_) (fun _ => ?_)) <;> (conv => cbv)) | exact stpF | fail)
  all_goals exact hk.fin0 rfl rfl zblk_wk
 have hco := hco h1 (by omega)
 cases h3 : goodIx ix
 ·simp only [h3] at hgi
  clear hf hco
  refine wlk Tryz.f45 ?_
  unhygienic intros
  (conv => cbv)
  repeat' (first | assumption | ((first | refine stp ?_ | refine stpB (fun _ => ?_) (fun _ => ?_)) <;> (conv => cbv)) | exact stpF | fail)
  all_goals exact hk.fin0 rfl rfl zblk_wk
 cases h4 : termB lg gn
 ·simp only [h3] at hgi
  simp only [h4] at htm
  clear hf hco
  refine wlk Tryz.f45 ?_
  unhygienic intros
  (conv => cbv)
  repeat' (first | assumption | ((first | refine stp ?_ | refine stpB (fun _ => ?_) (fun _ => ?_)) <;> (conv => cbv)) | exact stpF | fail)
  all_goals exact hk.fin0 rfl rfl zblk_wk
 ·have h5 : l.any (brkP sh) = true := by
   rw [h3, h4] at hf
   simpa [h1, h2] using hf
  simp only [h3] at hgi
  simp only [h4] at htm
  simp only [h5] at hco
  clear hf
  refine wlk Tryz.f45 ?_
  unhygienic intros
  (conv => cbv)
  repeat' (first | assumption | ((first | refine hk.callA (hco _ _) ?_ | refine hk.calld1 (fun x => hco _ _) ?_ | refine stp ?_ | refine stpB (fun _ => ?_) (fun _ => ?_)) <;> (conv => cbv)) | exact stpF | fail)
  all_goals exact hk.fin0 rfl rfl zblk_wk
theorem bnormal_ok (l : List Int) (d : Int) (ix : List Int) (lg gn sh : Int) (h : Heap) (hc : chkE l d = 0) (hf : nrmF l d ix lg gn sh = true) :
 Does PP 45 [LI l, I d, LI ix, .agg [I lg, I gn], I sh] h (Is (.tup [(nrmX l d ix lg gn sh).v, I (nrmE l d ix lg gn sh)]) h) := by
 have hok := nrm_ok hc hf
 have hl : l.length ≤ 9223372036854775807 := Nat.le_trans hok.l2 (by decide)
 have hil : ix.length ≤ 9223372036854775807 := Nat.le_trans hok.ix.1 (by decide)
 have hck := fun h => check_spec l d h hl
 rw [hc] at hck
 have hs26 : sh ≤ 26 := by have := hok.s1; have := hok.d2; omega
 have hs0 := hok.s0
 have hsd := hok.s1
 have hgi := fun h => lgood_spec ix h hil
 rw [(goodIx_iff ix).2 hok.ix] at hgi
 have htm := fun h => lterm_spec lg gn h
 rw [hok.tm] at htm
 have hbr : l.any (brkP sh) = false := by
  unfold nrmF at hf
  simp only [Bool.and_eq_true, Bool.not_eq_true'] at hf
  exact hf.2
 have hco : ∀ o G, Does PP 36 [LI l, .clo (.func 84) [] [.ptr 1 0]] (o :: .box [I sh] :: G) (Is (.bool false) (o :: .box [I sh] :: G)) := fun o G => by
  have := contains_spec l 84 [.ptr 1 0] (brkP sh) (o :: .box [I sh] :: G) hl (fun n => nrm1_spec sh n o G hs0 hs26)
  rw [hbr] at this
  exact this
 have hlw := lowL_small hok
 have hre := fun h => residuals_spec ix (lowL sh l) h hok.ix hlw (by rw [lowL_len]; exact hok.l2)
 have hof := fun h => Off_spec lg gn (resL ix (lowL sh l)) h hok.tm (by rw [resL_len, lowL_len]; exact hok.l2)
 have hfr := fun h => contains_spec (data0 l ix lg gn sh) 70 [] farP h (by rw [data0_len]; exact hl) (fun n => bfar_spec n h)
 have hcl := fun h => cloneA_spec ix h (Nat.le_trans hok.ix.1 (by decide))
 have hbe := fun (hx : (data0 l ix lg gn sh).any farP = false) h => slBest_spec (data0 l ix lg gn sh) h (by rw [data0_len]; exact hok.l1) (by rw [data0_len]; exact hok.l2) hx
 have hE : nrmE l d ix lg gn sh = if (resL ix (lowL sh l)).any out40 = true ∨ (data0 l ix lg gn sh).any farP = true then 9 else 0 := by
  unfold nrmE
  rw [if_neg (by rw [hc]; decide), if_neg (by rw [hf]; decide)]
 unfold nrmX
 rw [hE]
 obtain ⟨Q, hQ⟩ : ∃ Q : Int → List Int, ∀ i, Q i = (lowL sh l).take i.toNat := ⟨_, fun _ => rfl⟩
 obtain ⟨n, hn⟩ : ∃ n : Int, n = (l.length : Nat) := ⟨_, rfl⟩
 have hn0 : 1 ≤ n ∧ n ≤ 1024 := by have := hok.l1; have := hok.l2; omega
 have hQn : lowL sh l = Q n := by rw [hQ, List.take_of_length_le (by rw [lowL_len]; omega)]
 have hQ0 : Q 0 = [] := by rw [hQ]; rfl
 have hQl : ∀ i : Int, 0 ≤ i → i ≤ n → ((Q i).length : Int) = i := fun i a b => by rw [hQ, List.length_take, lowL_len]; omega
 have hQs : ∀ i : Int, 0 ≤ i → i < n → Q (i + 1) = Q i ++ [l.getD i.toNat 0 / 2 ^ sh.toNat] := fun i a b => by
  rw [hQ, hQ, show (i + 1).toNat = i.toNat + 1 by omega, takeI_snoc _ _ (by rw [lowL_len]; omega), lowL_get _ _ _ (by omega)]
 rw [hQn] at hre
 obtain ⟨R, hR⟩ : ∃ R, R = resL ix (Q n) := ⟨_, rfl⟩
 have hR2 : resL ix (lowL sh l) = R := by rw [hR, hQn]
 have hD2 : data0 l ix lg gn sh = offL lg gn R := by rw [data0, hR2]
 have hP2 : nrmP l ix lg gn sh = (bstP (offL lg gn R) 3 : Nat) := by rw [nrmP, hD2]
 have hK2 : nrmK l ix lg gn sh = ksL (offL lg gn R) (bstP (offL lg gn R) 3) := by rw [nrmK, hD2]
 rw [hP2, hK2]
 rw [hR2] at hof ⊢
 rw [hD2] at hbe ⊢
 simp only [hD2] at hfr
 simp only [← hR] at hre
 obtain ⟨D, hD⟩ : ∃ D, D = offL lg gn R := ⟨_, rfl⟩
 simp only [← hD] at hof hfr hbe ⊢
 obtain ⟨KK, hKK⟩ : ∃ K, K = ksL D (bstP D 3) := ⟨_, rfl⟩
 obtain ⟨BB, hBB⟩ : ∃ B, B = bitsP D (bstP D 3) := ⟨_, rfl⟩
 obtain ⟨PQ, hPQ⟩ : ∃ P : Int, P = (bstP D 3 : Nat) := ⟨_, rfl⟩
 simp only [← hKK, ← hBB, ← hPQ] at hbe ⊢
 obtain ⟨b1, hb1⟩ : ∃ b, b = R.any out40 := ⟨_, rfl⟩
 obtain ⟨b2, hb2⟩ : ∃ b, b = D.any farP := ⟨_, rfl⟩
 simp only [wrE, ← hb1] at hof
 simp only [← hb2] at hfr hbe
 rw [← hb1, ← hb2]
 clear hb1 hb2 hKK hBB hPQ hD hR hR2 hD2 hP2 hK2 hQn hE hbr hlw hok hc hf hQ
 refine pure0 ?_ rfl rfl h
 refine wlk Tryz.f45 ?_
 unhygienic intros
 have hln : lnI l = n := by rw [hk.lnI_eq]; omega
 have hgl := hk.gtI_eq l
 have hl1 : ∀ x, lnI [x] = 1 := fun x => hk.lnI_eq _
 have hlo : ∀ i, 0 ≤ i → i ≤ n → lnI (Q i) = i := fun i c d => by rw [hk.lnI_eq, hQl i c d]
 (conv => cbv)
 repeat' (first | assumption | ((first | rw [hln] | refine hk.callA (hco _ _) ?_ | refine hk.calld1 (fun x => hco _ _) ?_ | refine stp ?_ | refine stpB (fun _ => ?_) (fun _ => ?_)) <;> (conv => cbv)) | exact stpF | fail)
 refine hk.loopI (loop_rule (α := Int) (fun i => [(2, .ls (.il .i64 ix) .any), (8, .ptr 0 0), (9, .ptr 1 0), (10, .ptr 2 0), (14, .ls (.il .i64 (Q i)) (.tok 3 0)), (54, .ls (.il .i64 l) .any), (55, .int .i64 n), (56, .int .i64 i)])
  (fun i => [.box [.int .i64 lg, .int .i64 gn], .box [.int .i64 sh], .box [.int .i64 0, .int .i64 0, .int .i64 0, .ls .nl .nil, .int .i64 0, .int .i64 0, .int .i64 0, .ls .nl .nil, .ls .nl .nil], .tok 0])
  (fun i => 0 ≤ i ∧ i ≤ n) (fun i => (n - i).toNat) 0 ⟨by omega, by omega⟩ ?_ ?_)
 ·rw [hQ0]
  refine Gh.trans (Gh.thaw 14 (.il .i64 []) rfl trivial rfl) (Gh.tm ?_)
  repeat' (first | exact Holds.nil _ _ | refine Holds.cons (Wk.refl _ _) ?_)
 intro i ⟨hi, hi2⟩ Q' hb hx hr
 have hlo := hlo i hi hi2
 by_cases h2 : i < n
 ·clear hre hof hfr hbe hcl hco htm hgi hck
  have hq := hQs i hi h2
  obtain ⟨x, hx0⟩ : ∃ x, x = gtI l i := ⟨_, rfl⟩
  rw [← hgl, ← hx0] at hq
  obtain ⟨m, hm⟩ : ∃ m, m = x / 2 ^ sh.toNat := ⟨_, rfl⟩
  rw [← hm] at hq
  have hsr : i2 .shr .i64 x sh = m := by
   rw [hk.i2_eq, hm]
   show (x : Int).fdiv (2 ^ (min sh.toNat 64)) = _
   rw [show min sh.toNat 64 = sh.toNat by omega, Int.fdiv_eq_ediv_of_nonneg _ (Int.le_of_lt (Int.pow_pos (by decide)))]
  have hap : apI (Q i) [m] = Q (i + 1) := by rw [hk.apI_eq]; exact hq.symm
  obtain ⟨Q0, hQ0⟩ : ∃ y, y = Q i := ⟨_, rfl⟩
  obtain ⟨Q1, hQ1⟩ : ∃ y, y = Q (i + 1) := ⟨_, rfl⟩
  rw [← hQ0] at hap hlo ⊢
  rw [← hQ1] at hap
  clear hm hq
  (conv => cbv)
  repeat' (first | assumption | ((first | rw [hln] | refine hk.idxI hi h2 ?_ | rw [← hx0] | refine hk.ge0I hs0 ?_ | rw [hsr] | rw [hlo, hl1, hap] | refine stp ?_ | refine stpB (fun _ => ?_) (fun _ => ?_)) <;> (conv => cbv)) | exact stpF | fail)
  refine hb (i + 1) _ ⟨by omega, by omega⟩ (by omega) ?_
  rw [← hQ1]
  refine Gh.retok 3 1 rfl (Nat.le_of_ble_eq_true rfl) ?_ rfl rfl
  repeat' (first | exact HoldsT.nil _ _ _ _ | refine HoldsT.tok rfl ?_ | refine HoldsT.cons (Wk.refl _ _) rfl ?_ | refine HoldsT.cons (Wk.of_eq ?_) rfl ?_)
  all_goals first
   | (rw [← hk.add64 i 1 (by omega) (by omega)]; rfl)
   | rfl
   | skip
 ·have hin : i = n := by omega
  subst hin
  clear hb hr hco htm hgi hck
  have hre2 : ∀ h, Does PP 46 [LI ix, .ls (.il .i64 (Q i)) (.tok 3 0)] h (Is (.tup [LI R, I 0]) h) := fun h => (hre h).wk (by repeat' (first | exact WkL.nil | refine WkL.cons (Wk.refl _ _) ?_ | refine WkL.cons (Wk.any _ _ _) ?_ | refine WkL.cons (Wk.nilL _ _) ?_))
  clear hre
  cases b1
  ·simp only [Bool.false_eq_true, if_false] at hof
   cases b2
   ·have hbe := hbe rfl
    (conv => cbv)
    repeat' (first | assumption | ((first | refine hx _ _ ?_ | refine stp ?_ | refine stpB (fun _ => ?_) (fun _ => ?_)) <;> (conv => cbv)) | exact stpF | fail)
    all_goals exact hk.fin0 rfl rfl (Wk.refl _ _)
   ·clear hbe
    (conv => cbv)
    repeat' (first | assumption | ((first | refine hx _ _ ?_ | refine stp ?_ | refine stpB (fun _ => ?_) (fun _ => ?_)) <;> (conv => cbv)) | exact stpF | fail)
    all_goals exact hk.fin0 rfl rfl zblk_wk
  ·clear hbe hfr
   simp only [if_true] at hof
   (conv => cbv)
   repeat' (first | assumption | ((first | refine hx _ _ ?_ | refine stp ?_ | refine stpB (fun _ => ?_) (fun _ => ?_)) <;> (conv => cbv)) | exact stpF | fail)
   all_goals exact hk.fin0 rfl rfl zblk_wk
theorem bnormal_spec (l : List Int) (d : Int) (ix : List Int) (lg gn sh : Int) (h : Heap) (hl : l.length ≤ 9223372036854775807) (hil : ix.length ≤ 9223372036854775807) :
 Does PP 45 [LI l, I d, LI ix, .agg [I lg, I gn], I sh] h (Is (.tup [(nrmX l d ix lg gn sh).v, I (nrmE l d ix lg gn sh)]) h) := by
 by_cases hc : chkE l d = 0
 case neg =>
  have e : nrmE l d ix lg gn sh = chkE l d := by unfold nrmE; rw [if_pos hc]
  have e2 : nrmX l d ix lg gn sh = zBlk := by unfold nrmX; rw [if_neg (by rw [e]; exact hc)]
  rw [e, e2]
  exact bnormal_chk l d ix lg gn sh h hl hc
 by_cases hf : nrmF l d ix lg gn sh = true
 ·exact bnormal_ok l d ix lg gn sh h hc hf
 ·have hf : nrmF l d ix lg gn sh = false := by simpa using hf
  have e : nrmE l d ix lg gn sh = 2 := by unfold nrmE; rw [if_neg (by rw [hc]; decide), if_pos hf]
  have e2 : nrmX l d ix lg gn sh = zBlk := by unfold nrmX; rw [if_neg (by rw [e]; decide)]
  rw [e, e2]
  exact bnormal_form l d ix lg gn sh h hl hil hc hf
end Go.Proofs.YtoeekjddeknmbaaGreat
