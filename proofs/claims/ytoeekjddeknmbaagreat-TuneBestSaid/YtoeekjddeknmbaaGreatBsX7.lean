/-
  Contracts of functions of the program, proved over the abstract machine of the Al texts.
-/
import Derived.Test.YtoeekjddeknmbaaGreatBaseX
import Derived.Test.YtoeekjddeknmbaaGreatRkX
set_option maxHeartbeats 4000000
set_option maxRecDepth 20000
set_option linter.unusedSimpArgs false
set_option linter.unusedVariables false
open Go Go.AL
namespace Go.Proofs.YtoeekjddeknmbaaGreat

theorem index1_spec (l : List Int) (fid : Nat) (x : AVal) (g : Int → Bool) (h : Heap) (hl : l.length ≤ 9223372036854775807) (hg : ∀ n, Does PP fid [x, .int .i64 n] h (Is (.bool (g n)) h)) :
 Does PP 75 [LI l, .clo (.func fid) [x] []] h (Is (I (findI g l)) h) := by
 obtain ⟨r, hr0⟩ : ∃ r, r = findI g l := ⟨_, rfl⟩
 rw [← hr0]
 refine wlk Tryz.f75 ?_
 unhygienic intros
 have hn := hk.lnI_nn l
 have hl := hk.lnI_le l 9223372036854775807 (by omega)
 cbv
 refine hk.loopI (loop_rule (α := Int) (fun i => [(1, .clo (.func fid) [x] []), (0, .ls (.il .i64 l) .any), (7, .int .i64 (lnI l)), (8, .int .i64 i)]) (fun i => h)
  (fun i => 0 ≤ i ∧ i ≤ lnI l ∧ ∀ j, j < i.toNat → g (l.getD j 0) = false) (fun i => (lnI l - i).toNat) 0 ⟨by omega, by omega, upto_zero⟩ ?_ ?_)
 ·exact ghT
 intro i ⟨hi, hi2, hi3⟩ Q' hb hx hr
 cbv
 split
 ·rename_i hlt
  rw [hk.c2_lss, decide_eq_true_eq] at hlt
  refine ⟨hk.idx hi hlt, hk.call1 (hg _) ?_⟩
  cbv
  split
  ·rename_i hgt
   have hgt : g (gtI l i) = true := hgt
   rw [hk.gtI_eq] at hgt
   refine hr _ ?_
   cbv
   exact hk.fin1 (congrArg _ (by rw [hr0]; exact find_some hi (hk.lt_lnI l i hi hlt) hi3 hgt))
  ·rename_i hgf
   have hgf : g (gtI l i) = false := hgf
   rw [hk.gtI_eq] at hgf
   refine hb (i + 1) _ ⟨by omega, by omega, upto_step hi hi3 hgf⟩ (by omega) ?_
   refine Gh.tm ?_
   repeat' (first | exact Holds.nil _ _ | refine Holds.cons (Wk.refl _ _) ?_ | refine Holds.cons (Wk.of_eq ?_) ?_)
   all_goals first
    | (rw [← hk.add64 i 1 (by omega) (by omega)]; rfl)
    | rfl
    | skip
 ·rename_i hge
  rw [hk.c2_lss, decide_eq_false_iff_not] at hge
  refine hx _ _ ?_
  cbv
  exact hk.fin1 (congrArg _ (by rw [hr0]; exact find_none (by rw [← hk.lnI_toNat l]; omega) hi3))
theorem contains1_spec (l : List Int) (fid : Nat) (x : AVal) (g : Int → Bool) (h : Heap) (hl : l.length ≤ 9223372036854775807) (hg : ∀ n, Does PP fid [x, .int .i64 n] h (Is (.bool (g n)) h)) :
 Does PP 36 [LI l, .clo (.func fid) [x] []] h (Is (.bool (l.any g)) h) := by
 obtain ⟨r, hr0⟩ : ∃ r, r = findI g l := ⟨_, rfl⟩
 obtain ⟨b, hb0⟩ : ∃ b, b = l.any g := ⟨_, rfl⟩
 rw [← hb0]
 refine wlk Tryz.f36 ?_
 unhygienic intros
 cbv
 refine hk.call1 (r := .int .i64 r) (by rw [hr0]; exact index1_spec l fid x g h hl hg) ?_
 cbv
 refine hk.fin1 ?_
 show AVal.bool (c2 .geq r 0) = _
 rw [hk.c2_geq, hr0, find_any, hb0]
theorem mul_hi : ∀ k : Nat, k < 65 → rI2 .add .u64 (rI2 .add .u64 (rI2 .mul .u64 (rI2 .shr .u64 1 32) (rI2 .shr .u64 (k : Int) 32)) (rI2 .shr .u64 (rI2 .add .u64 (rI2 .mul .u64 (rI2 .shr .u64 1 32) (rI2 .and .u64 (k : Int) 4294967295)) (rI2 .shr .u64 (rI2 .mul .u64 (rI2 .and .u64 1 4294967295) (rI2 .and .u64 (k : Int) 4294967295)) 32)) 32)) (rI2 .shr .u64 (rI2 .add .u64 (rI2 .and .u64 (rI2 .add .u64 (rI2 .mul .u64 (rI2 .shr .u64 1 32) (rI2 .and .u64 (k : Int) 4294967295)) (rI2 .shr .u64 (rI2 .mul .u64 (rI2 .and .u64 1 4294967295) (rI2 .and .u64 (k : Int) 4294967295)) 32)) 4294967295) (rI2 .mul .u64 (rI2 .and .u64 1 4294967295) (rI2 .shr .u64 (k : Int) 32))) 32) = 0 ∧ rI2 .mul .u64 1 (k : Int) = (k : Int) := by decide +kernel
theorem mul64_spec (n : Int) (h : Heap) (h0 : 0 ≤ n) (h1 : n ≤ 64) : Does PP 109 [.int .u64 1, .int .u64 n] h (Is (.tup [.int .u64 0, .int .u64 n]) h) := by
 obtain ⟨a, b⟩ := mul_hi n.toNat (by omega)
 rw [show ((n.toNat : Nat) : Int) = n by omega] at a b
 refine pure0 ?_ rfl rfl h
 refine wlk Tryz.f109 ?_
 unhygienic intros
 have e := hk.i2_eq
 (conv => cbv)
 repeat' (first | assumption | ((first | refine stp ?_ | refine stpB (fun _ => ?_) (fun _ => ?_)) <;> (conv => cbv)) | exact stpF | fail)
 exact hk.fin0 rfl rfl (Wk.of_eq (by rw [e, a, b]))
theorem mul_spec (n : Int) (h : Heap) (h0 : 0 ≤ n) (h1 : n ≤ 64) : Does PP 74 [.int .u64 1, .int .u64 n] h (Is (.tup [.int .u64 0, .int .u64 n]) h) := by
 have hm := fun h => mul64_spec n h h0 h1
 refine pure0 ?_ rfl rfl h
 refine wlk Tryz.f74 ?_
 unhygienic intros
 (conv => cbv)
 repeat' (first | assumption | ((first | refine stp ?_ | refine stpB (fun _ => ?_) (fun _ => ?_)) <;> (conv => cbv)) | exact stpF | fail)
 all_goals exact hk.fin0 rfl rfl (Wk.refl _ _)
def rpF (v : Int) (n k : Nat) : List Int := List.replicate k v ++ List.replicate (n - k) 0
theorem rpF_step (v : Int) (n k c : Int) (h0 : 0 ≤ k) (hc0 : 0 ≤ c) (hc : k + c ≤ n) (hc2 : c ≤ k) :
 (rSub (rpF v n.toNat k.toNat) 0 k ++ rSub (rSub (rpF v n.toNat k.toNat) 0 k) 0 c) ++ rSub (rpF v n.toNat k.toNat) (k + c) n = rpF v n.toNat (k + c).toNat := by
 have e1 : rSub (rpF v n.toNat k.toNat) 0 k = List.replicate k.toNat v := by
  simp only [rSub, rpF, Int.toNat_zero, List.drop_zero, Int.sub_zero]
  rw [List.take_append_of_le_length (by simp), List.take_of_length_le (by simp)]
 have e2 : rSub (List.replicate k.toNat v) 0 c = List.replicate c.toNat v := by
  simp only [rSub, Int.toNat_zero, List.drop_zero, Int.sub_zero, List.take_replicate]
  rw [Nat.min_eq_left (by omega)]
 have e3 : rSub (rpF v n.toNat k.toNat) (k + c) n = List.replicate (n.toNat - (k + c).toNat) 0 := by
  simp only [rSub, rpF]
  rw [List.drop_append, List.drop_eq_nil_of_le (by simp; omega), List.nil_append, List.drop_replicate, List.take_replicate, List.length_replicate]
  congr 1
  omega
 rw [e1, e2, e3, List.replicate_append_replicate, rpF]
 congr 2
 all_goals omega
theorem rpF_one (v : Int) (n : Int) (h : 1 ≤ n) : (rSub (List.replicate n.toNat 0) 0 0 ++ rSub [v] 0 1) ++ rSub (List.replicate n.toNat 0) 1 n = rpF v n.toNat 1 := by
 simp only [rSub, rpF, Int.toNat_zero, List.drop_zero, Int.sub_zero, List.take_zero, List.nil_append, List.drop_replicate, List.take_replicate]
 simp
theorem rpF_all (v : Int) (n : Int) : rpF v n.toNat n.toNat = List.replicate n.toNat v := by simp [rpF]
theorem repeatR_spec (v n : Int) (h1 : 1 ≤ n) (h2 : n ≤ 64) : Does PP 35 [LI [v], I n] [] (Is (.sl 0 0 0 n) [.rw 0 (.il .i64 (List.replicate n.toNat v))]) := by
 have hmu := fun h => mul_spec n h (by omega) h2
 obtain ⟨F, hF⟩ : ∃ F : Int → List Int, ∀ k, F k = rpF v n.toNat k.toNat := ⟨_, fun _ => rfl⟩
 have hF1 : rpF v n.toNat 1 = F 1 := (hF 1).symm
 have hFn : List.replicate n.toNat v = F n := by rw [hF, rpF_all]
 have hFl : ∀ k : Int, 0 ≤ k → k ≤ n → ((F k).length : Int) = n := fun k a b => by rw [hF, rpF]; simp; omega
 have hFs : ∀ k c : Int, 0 ≤ k → 0 ≤ c → k + c ≤ n → c ≤ k → (rSub (F k) 0 k ++ rSub (rSub (F k) 0 k) 0 c) ++ rSub (F k) (k + c) n = F (k + c) := fun k c a b d e => by
  rw [hF, hF]; exact rpF_step v n k c a b d e
 have hone := rpF_one v n h1
 rw [hF1] at hone
 rw [hFn]
 clear hF1 hFn hF
 refine wlk Tryz.f35 ?_
 unhygienic intros
 have hl1 : lnI [v] = 1 := hk.lnI_eq _
 have hc1 : cv .u64 1 = 1 := by rw [hk.cv_eq]; decide
 have hcn : cv .u64 n = n := by rw [hk.cv_eq]; show n % 18446744073709551616 = n; omega
 have hci : cv .i64 n = n := by rw [hk.cv_eq]; exact wrap64 (by omega) (by omega)
 have hmn : mn n 1 = 1 := by rw [hk.mn_eq]; omega
 have hsb : ∀ l a b, sbI l a b = rSub l a b := fun l a b => by rw [hk.sbI_eq]; rfl
 have hlr : lnI (rpI n 0) = n := by rw [hk.lnI_eq, hk.rpI_eq]; simp; omega
 have hfst : apI (apI (sbI (rpI n 0) 0 0) (sbI [v] 0 1)) (sbI (rpI n 0) 1 n) = F 1 := by
  rw [hk.apI_eq, hk.apI_eq, hsb, hsb, hsb, hk.rpI_eq, hone]
 (conv => cbv)
 repeat' (first | assumption | ((first | rw [hl1] | rw [hc1, hcn] | refine hk.callA (hmu _) ?_ | rw [hci] | rw [hmn] | rw [hlr] | rw [hfst] | refine stp ?_ | refine stpB (fun _ => ?_) (fun _ => ?_)) <;> (conv => cbv)) | exact stpF | fail)
 refine hk.loopI (loop_rule (α := Int) (fun k => [(4, .ls .nl .nil), (7, .sl 0 0 0 n), (8, .int .i64 k)]) (fun k => [.rw 0 (.il .i64 (F k))])
  (fun k => 1 ≤ k ∧ k ≤ n) (fun k => (n - k).toNat) 1 ⟨by omega, by omega⟩ ?_ ?_)
 ·exact ghT
 intro k ⟨hk1, hk2⟩ Q' hb hx hr
 have hs0 : sbt n 0 = n := by rw [hk.sb_eq]; omega
 by_cases hkn : k < n
 ·obtain ⟨c, hc⟩ : ∃ c : Int, c = if k < n - k then k else n - k := ⟨_, rfl⟩
  have hc' : 1 ≤ c ∧ k + c ≤ n ∧ c ≤ k := by split at hc <;> omega
  have hst : sbt n k = n - k := hk.sb_eq _ _
  obtain ⟨m, hm⟩ : ∃ m, m = n - k := ⟨_, rfl⟩
  rw [← hm] at hst hc
  have hmc : mn m k = c := by rw [hk.mn_eq, hc]
  have had : ad k c = k + c := hk.ad_eq _ _
  have hadd : i2 .add .i64 k c = k + c := hk.add64 _ _ (by omega) (by omega)
  obtain ⟨k1, hk10⟩ : ∃ k1, k1 = k + c := ⟨_, rfl⟩
  rw [← hk10] at had hadd
  have hlF : lnI (F k) = n := by rw [hk.lnI_eq]; exact hFl k (by omega) hk2
  have hlS : lnI (sbI (F k) 0 k) = k := by
   have := hFl k (by omega) hk2
   rw [hk.lnI_eq, hsb]; simp only [rSub, List.length_take, List.length_drop]; omega
  have hrow : apI (apI (sbI (F k) 0 k) (sbI (sbI (F k) 0 k) 0 c)) (sbI (F k) k1 n) = F k1 := by
   rw [hk.apI_eq, hk.apI_eq, hsb, hsb, hsb, hk10]; exact hFs k c (by omega) (by omega) (by omega) (by omega)
  clear hc
  (conv => cbv)
  repeat' (first | assumption | ((first | rw [hs0] | rw [hst] | rw [hlS] | rw [hmc] | rw [had] | rw [hlF] | rw [hrow] | rw [hadd] | refine stp ?_ | refine stpB (fun _ => ?_) (fun _ => ?_)) <;> (conv => cbv)) | exact stpF | fail)
  refine hb k1 _ ⟨by omega, by omega⟩ (by omega) ?_
  refine Gh.tm ?_
  repeat' (first | exact Holds.nil _ _ | refine Holds.cons (Wk.refl _ _) ?_ | refine Holds.cons (Wk.of_eq ?_) ?_)
 ·have : k = n := by omega
  subst this
  (conv => cbv)
  repeat' (first | assumption | ((first | rw [hs0] | refine hx _ _ ?_ | refine stp ?_ | refine stpB (fun _ => ?_) (fun _ => ?_)) <;> (conv => cbv)) | exact stpF | fail)
end Go.Proofs.YtoeekjddeknmbaaGreat
