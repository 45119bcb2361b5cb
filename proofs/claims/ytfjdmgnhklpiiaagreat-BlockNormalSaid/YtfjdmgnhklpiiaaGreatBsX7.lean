/-
  Contracts of functions of the program, proved over the abstract machine of the Al texts.
-/
import Derived.Test.YtfjdmgnhklpiiaaGreatBaseX
import Derived.Test.YtfjdmgnhklpiiaaGreatBsX1
import Derived.Test.YtfjdmgnhklpiiaaGreatBsX2
import Derived.Test.YtfjdmgnhklpiiaaGreatBsX3
import Derived.Test.YtfjdmgnhklpiiaaGreatBsX4
import Derived.Test.YtfjdmgnhklpiiaaGreatBsX5
import Derived.Test.YtfjdmgnhklpiiaaGreatBsX6
import Derived.Test.YtfjdmgnhklpiiaaGreatRkX
set_option maxHeartbeats 4000000
set_option maxRecDepth 20000
set_option linter.unusedSimpArgs false
set_option linter.unusedVariables false
open Go Go.AL
namespace Go.Proofs.YtfjdmgnhklpiiaaGreat
theorem rsamples10_two (vl sh : Int) (ix : List Int) (lg gn pt : Int) (rc da : List Int) (n d : Int) (h : Heap) (h1 : 1 ≤ n) (h2 : n ≤ 1024) (h3 : 8 ≤ d) (h4 : d ≤ 26)
    (hl1 : ix.length ≤ 9223372036854775807) (hl2 : rc.length ≤ 9223372036854775807) (hl3 : da.length ≤ 9223372036854775807) (hf : formE 2 vl sh ix lg gn pt rc da n d = 0)
    (hE : onE lg gn da = 0) (hE2 : smE ix (pw d - 1) (onL lg gn da) = 0) :
    Does PP 21 [.agg [I 2, I vl, I sh, LI ix, I lg, I gn, I pt, LI rc, LI da], I n, I d] h (Is (.tup [LI (if allP (lacksP d) (nmL sh ix lg gn da d) = true then nmL sh ix lg gn da d else []), I (if allP (lacksP d) (nmL sh ix lg gn da d) = true then 0 else 9)]) h) := by
  obtain ⟨r, hr0⟩ : ∃ r, r = nmL sh ix lg gn da d := ⟨_, rfl⟩
  have hall := fun h => rall_spec (nmL sh ix lg gn da d) d h h3 h4
  obtain ⟨f1, f2, f3, f4, f5, f6, f7⟩ := form_two hf h4 h2
  have hrg := pw_range h3 h4
  obtain ⟨ho1, ho2⟩ := onL_small lg gn da
  have hd := fun h => rdepth_spec d h
  rw [decide_eq_true h3, decide_eq_true h4] at hd
  have hfm := fun h => rform_spec 2 vl sh ix lg gn pt rc da n d h hl1 hl2 hl3
  rw [hf] at hfm
  have hpw := fun h => power_spec (d - 1) h (by omega)
  rw [← pw] at hpw
  have hon := fun h => ron_spec lg gn da h f4 f5 f6
  have hsm := fun h => rsamples_spec ix (onL lg gn da) (pw d - 1) h f3 ho1 (by omega) (by omega) (by omega)
  have hln := smL_len ix (pw d - 1) (onL lg gn da)
  have hall := fun (hh : (nmL sh ix lg gn da d).length ≤ 9223372036854775807) h => hall h hh
  simp only [← hr0] at hall
  rw [← hr0]
  obtain ⟨b, hb⟩ : ∃ b, b = allP (lacksP d) r := ⟨_, rfl⟩
  simp only [← hb] at hall
  rw [← hb]
  rw [nmL] at hr0
  have hps := fun h => power_spec sh h (by omega)
  obtain ⟨ps, hps0⟩ : ∃ p : Int, p = 2 ^ sh.toNat := ⟨_, rfl⟩
  simp only [← hps0] at hps
  have hsm1 : ∀ x, shl1 sh x = W (x * ps) := fun x => by rw [hps0]; exact shl1_mul sh x f1 f2
  obtain ⟨w, hw⟩ : ∃ w, w = pw d := ⟨_, rfl⟩
  obtain ⟨t, ht⟩ : ∃ w, w = pw d - 1 := ⟨_, rfl⟩
  obtain ⟨oL, hoL⟩ : ∃ r, r = onL lg gn da := ⟨_, rfl⟩
  obtain ⟨oE, hoE⟩ : ∃ r, r = onE lg gn da := ⟨_, rfl⟩
  simp only [← hoL, ← hoE, ← ht] at hr0 hon hsm hE hE2 hln ho2
  obtain ⟨sL, hsL⟩ : ∃ r, r = smL ix t oL := ⟨_, rfl⟩
  obtain ⟨sE, hsE⟩ : ∃ r, r = smE ix t oL := ⟨_, rfl⟩
  simp only [← hsL, ← hsE] at hsm hr0 hE2 hln
  rw [← hw] at hpw ht hrg
  obtain ⟨d1, hd1⟩ : ∃ x, x = d - 1 := ⟨_, rfl⟩
  rw [← hd1] at hpw
  subst hE hE2
  simp only [ne_eq, not_true_eq_false, if_false] at hr0
  obtain ⟨m, hm⟩ : ∃ n : Int, n = (sL.length : Nat) := ⟨_, rfl⟩
  have hm1 : 0 ≤ m ∧ m ≤ 1024 := by omega
  obtain ⟨O, hO⟩ : ∃ O : Int → List Int, ∀ i, O i = (sL.take i.toNat).map (shl1 sh) := ⟨_, fun _ => rfl⟩
  have hO0 : O 0 = [] := by rw [hO]; simp
  have hOm : O m = sL.map (shl1 sh) := by rw [hO, hm]; simp
  have hOs : ∀ i : Int, 0 ≤ i → i < m → O i ++ [W (sL.getD i.toNat 0 * ps)] = O (i + 1) := fun i a b => by
    rw [← hsm1, hO, hO, show (i + 1).toNat = i.toNat + 1 by omega, List.take_add_one, List.map_append]
    simp [List.getD, show i.toNat < sL.length by omega]
  have hOl : ∀ i : Int, 0 ≤ i → i ≤ m → (O i).length = i.toNat := fun i a b => by rw [hO, List.length_map, List.length_take]; omega
  rw [← hOm] at hr0
  have hall := hall (by rw [hr0, hOl m (by omega) (by omega)]; omega)
  subst hr0
  clear hO hOm hsm1 hw hoL hsL hsE ho1 ho2 f5 hln hps0 hb
  refine pure0 ?_ rfl rfl h
  refine wlk Tryz.f21 ?_
  unhygienic intros
  have hdv : i2 .sub .i64 d 1 = d1 := by rw [hd1]; exact hk.sub64 _ _ (by omega) (by omega)
  have htv : i2 .sub .i64 w 1 = t := by rw [ht]; exact hk.sub64 _ _ (by omega) (by omega)
  have hln : lnI sL = m := by rw [hk.lnI_eq]; omega
  have hl1 : ∀ x, lnI [x] = 1 := fun x => hk.lnI_eq _
  have hlO : ∀ i : Int, 0 ≤ i → i ≤ m → lnI (O i) = i := fun i h h2 => by rw [hk.lnI_eq, hOl i h h2]; omega
  have hap : ∀ i : Int, 0 ≤ i → i < m → apI (O i) [i2 .mul .i64 (gtI sL i) ps] = O (i + 1) := fun i h h2 => by
    rw [hk.apI_eq, hk.i2_mul, hk.gtI_eq]
    exact hOs i h h2
  clear hOs hm hOl
  (conv => cbv)
  repeat' (first | assumption | ((first | refine hk.callA (hd _) ?_ | refine hk.calldA hd ?_ | refine hk.callA (hfm _) ?_ | refine hk.calldA hfm ?_ | refine hk.callA (hon _) ?_ | refine hk.calldA hon ?_ | rw [hdv] | refine hk.callA (hpw _) ?_ | refine hk.calldA hpw ?_ | rw [htv] | refine hk.callA (hsm _) ?_ | refine hk.calldA hsm ?_ | rw [hln] | refine stp ?_ | refine stpB (fun _ => ?_) (fun _ => ?_)) <;> (conv => cbv)) | exact stpF | fail)
  obtain ⟨N, hN⟩ : ∃ N, N = O m := ⟨_, rfl⟩
  rw [← hN] at hall ⊢
  have hfr : [AObj.box [.int .i64 2, .int .i64 vl, .int .i64 sh, .ls (.il .i64 ix) .any, .int .i64 lg, .int .i64 gn, .int .i64 pt, .ls (.il .i64 rc) .any, .ls (.il .i64 da) .any], .tok 0].length = 2 := rfl
  refine hk.loopI (loop_rule (α := Int) (fun i => [(1, .int .i64 n), (2, .int .i64 d), (3, .ptr 0 0), (6, .ls .nl .nil), (7, .int .i64 0), (9, .ls (.il .i64 (O i)) (.tok 1 0)), (12, .ls (.il .i64 sL) .any), (63, .int .i64 m), (64, .int .i64 i)]) (fun _ => [.box [.int .i64 2, .int .i64 vl, .int .i64 sh, .ls (.il .i64 ix) .any, .int .i64 lg, .int .i64 gn, .int .i64 pt, .ls (.il .i64 rc) .any, .ls (.il .i64 da) .any], .tok 0])
    (fun i => 0 ≤ i ∧ i ≤ m) (fun i => (m - i).toNat) 0 ⟨by omega, by omega⟩ ?_ ?_)
  · rw [hO0]
    refine Gh.trans (Gh.thaw 9 (.il .i64 []) rfl trivial rfl) (Gh.tm ?_)
    repeat' (first | exact Holds.nil _ _ | refine Holds.cons (Wk.refl _ _) ?_)
  intro i ⟨hi, hi2⟩ Q' hb hx hr
  have hlO := hlO i hi hi2
  (conv => cbv)
  refine hk.brLss (fun h2 => ?_) (fun h2 => ?_)
  · have hap := hap i hi h2
    obtain ⟨x, hx0⟩ : ∃ x, x = gtI sL i := ⟨_, rfl⟩
    rw [← hx0] at hap
    (conv => cbv)
    try rw [hln]
    refine hk.idxI hi h2 ?_
    (conv => cbv)
    try rw [← hx0]
    repeat' (first | assumption | ((first | rw [← hx0] | rw [hap] | rw [hlO, hl1] | refine hk.callA (hps _) ?_ | refine hk.calldA hps ?_ | refine hk.needI (by first | (simp only [rNd, hk.ad_eq, hk.sb_eq]; omega) | (simp [rNd, hk.ad_eq, hk.sb_eq]; omega)) ?_ | refine stp ?_ | refine stpB (fun _ => ?_) (fun _ => ?_)) <;> (conv => cbv)) | exact stpF | fail)
    refine hb (i + 1) _ ⟨by omega, by omega⟩ (by omega) ?_
    refine Gh.retok 1 1 rfl (Nat.le_of_ble_eq_true rfl) ?_ rfl rfl
    repeat' (first | exact HoldsT.nil _ _ _ _ | refine HoldsT.tok rfl ?_ | refine HoldsT.cons (Wk.refl _ _) rfl ?_ | refine HoldsT.cons (Wk.of_eq ?_) rfl ?_)
    all_goals first
      | (rw [← hk.add64 i 1 (by omega) (by omega)]; rfl)
      | rfl
      | skip
  · have : i = m := by omega
    subst this
    refine hx _ _ ?_
    rw [← hN]
    have hall2 : ∀ h, Does PP 56 [.ls (.il .i64 N) (.tok 1 0), I d] h (Is (.bool b) h) := fun h => by
      rename_i hall3 _
      exact (‹∀ (h : Heap), Does PP 56 [LI N, I d] h (Is (.bool b) h)› h).wk (by repeat' (first | exact WkL.nil | refine WkL.cons (Wk.refl _ _) ?_ | refine WkL.cons (Wk.any _ _ _) ?_ | refine WkL.cons (Wk.nilL _ _) ?_))
    cases b
    all_goals
      (conv => cbv)
      repeat' (first | assumption | ((first | refine stp ?_ | refine stpB (fun _ => ?_) (fun _ => ?_)) <;> (conv => cbv)) | exact stpF | fail)
      refine hk.loopI (loop_rule (α := Int) (fun i => [(1, .int .i64 n), (2, .int .i64 d), (3, .ptr 0 0), (6, .ls .nl .nil), (7, .int .i64 0), (9, .ls (.il .i64 N) (.tok 1 0)), (15, .int .i64 i)]) (fun _ => [.box [.int .i64 2, .int .i64 vl, .int .i64 sh, .ls (.il .i64 ix) .any, .int .i64 lg, .int .i64 gn, .int .i64 pt, .ls (.il .i64 rc) .any, .ls (.il .i64 da) .any], .tok 0])
        (fun i => i = 0) (fun i => i.toNat) 0 rfl ?_ ?_)
      · exact Gh.tm (by repeat (first | exact Holds.nil _ _ | refine Holds.cons (Wk.refl _ _) ?_))
      intro j hj Q3 hb3 hx3 hr3
      subst hj
      clear hb hx hr
      (conv => cbv)
      repeat' (first | assumption | ((first | refine hx3 _ _ ?_ | refine hk.callA (hall2 _) ?_ | refine hk.calldA hall2 ?_ | refine stp ?_ | refine stpB (fun _ => ?_) (fun _ => ?_)) <;> (conv => cbv)) | exact stpF | fail)
      first
        | exact hk.fin0 rfl rfl (Wk.tup ⟨Wk.any _ _ _, .refl _ _, trivial⟩)
        | exact hk.fin0 rfl rfl (Wk.tup ⟨Wk.nilL _ _, .refl _ _, trivial⟩)
        | skip
end Go.Proofs.YtfjdmgnhklpiiaaGreat
set_option maxHeartbeats 4000000
set_option maxRecDepth 20000
set_option linter.unusedSimpArgs false
set_option linter.unusedVariables false
open Go Go.AL
namespace Go.Proofs.YtfjdmgnhklpiiaaGreat
theorem rsamples10_plain (kd vl sh : Int) (ix : List Int) (lg gn pt : Int) (rc da : List Int) (n d : Int) (h : Heap) (h1 : 1 ≤ n) (h2 : n ≤ 1024) (h3 : 8 ≤ d) (h4 : d ≤ 26)
    (hl1 : ix.length ≤ 9223372036854775807) (hl2 : rc.length ≤ 9223372036854775807) (hl3 : da.length ≤ 9223372036854775807) (hf : formE kd vl sh ix lg gn pt rc da n d = 0) (hk2 : kd ≠ 2) :
    Does PP 21 [.agg [I kd, I vl, I sh, LI ix, I lg, I gn, I pt, LI rc, LI da], I n, I d] h (Is (.tup [LI (if allP (lacksP d) (outL kd vl sh ix lg gn da n d) = true then outL kd vl sh ix lg gn da n d else []), I (if allP (lacksP d) (outL kd vl sh ix lg gn da n d) = true then 0 else 9)]) h) := by
  obtain ⟨hkd, hdn⟩ := form_plain hf hk2
  have hd := fun h => rdepth_spec d h
  rw [decide_eq_true h3, decide_eq_true h4] at hd
  have hfm := fun h => rform_spec kd vl sh ix lg gn pt rc da n d h hl1 hl2 hl3
  rw [hf] at hfm
  obtain ⟨r, hr0⟩ : ∃ r, r = outL kd vl sh ix lg gn da n d := ⟨_, rfl⟩
  have hrl : (r.length : Int) = n := by
    rw [hr0, outL, if_neg hk2]
    split
    · rename_i e; exact hdn e
    · rw [List.length_replicate]; omega
  have hall := fun h => rall_spec r d h h3 h4 (by omega)
  obtain ⟨b, hb⟩ : ∃ b, b = allP (lacksP d) r := ⟨_, rfl⟩
  simp only [← hb] at hall
  rw [← hr0, ← hb]
  obtain ⟨O, hO⟩ : ∃ O : Int → List Int, ∀ i, O i = r.take i.toNat := ⟨_, fun _ => rfl⟩
  have hO0 : O 0 = [] := by rw [hO]; simp
  have hOn : O n = r := by rw [hO]; exact List.take_of_length_le (by omega)
  have hOs : ∀ i : Int, 0 ≤ i → i < n → O i ++ [r.getD i.toNat 0] = O (i + 1) := fun i a b => by
    rw [hO, hO, show (i + 1).toNat = i.toNat + 1 by omega, List.take_add_one]
    simp [List.getD, show i.toNat < r.length by omega]
  have hOl : ∀ i : Int, 0 ≤ i → i ≤ n → (O i).length = i.toNat := fun i a b => by rw [hO, List.length_take]; omega
  have hv : kd ≠ 3 → ∀ i : Int, 0 ≤ i → i < n → O i ++ [vl] = O (i + 1) := fun k i a b => by
    rw [← hOs i a b, hr0, outL, if_neg hk2, if_neg k]
    simp [List.getD, show i.toNat < n.toNat by omega]
  have hda : kd = 3 → ∀ i : Int, 0 ≤ i → i < n → O i ++ [da.getD i.toNat 0] = O (i + 1) := fun k i a b => by
    rw [← hOs i a b, hr0, outL, if_neg hk2, if_pos k]
  clear hO hr0 hb hOs hf
  refine pure0 ?_ rfl rfl h
  refine wlk Tryz.f21 ?_
  unhygienic intros
  have hl1 : ∀ x, lnI [x] = 1 := fun x => hk.lnI_eq _
  have hlO : ∀ i : Int, 0 ≤ i → i ≤ n → lnI (O i) = i := fun i h h2 => by rw [hk.lnI_eq, hOl i h h2]; omega
  have hv : kd ≠ 3 → ∀ i : Int, 0 ≤ i → i < n → apI (O i) [vl] = O (i + 1) := fun k i a b => by rw [hk.apI_eq]; exact hv k i a b
  have hda : kd = 3 → ∀ i : Int, 0 ≤ i → i < n → apI (O i) [gtI da i] = O (i + 1) := fun k i a b => by rw [hk.apI_eq, hk.gtI_eq]; exact hda k i a b
  have hdl : kd = 3 → lnI da = n := fun k => by rw [hk.lnI_eq]; exact hdn k
  clear hOl hdn hrl
  (conv => cbv)
  repeat' (first | assumption | ((first | refine hk.callA (hd _) ?_ | refine hk.calldA hd ?_ | refine hk.callA (hfm _) ?_ | refine hk.calldA hfm ?_ | refine stp ?_ | refine stpB (fun _ => ?_) (fun _ => ?_)) <;> (conv => cbv)) | exact stpF | fail)
  have hall2 : ∀ h, Does PP 56 [.ls (.il .i64 r) (.tok 1 0), I d] h (Is (.bool b) h) := fun h => (hall h).wk (by repeat' (first | exact WkL.nil | refine WkL.cons (Wk.refl _ _) ?_ | refine WkL.cons (Wk.any _ _ _) ?_ | refine WkL.cons (Wk.nilL _ _) ?_))
  refine hk.loopI (loop_rule (α := Int) (fun i => [(1, .int .i64 n), (2, .int .i64 d), (3, .ptr 0 0), (6, .ls .nl .nil), (7, .int .i64 0), (9, .ls (.il .i64 (O i)) (.tok 1 0)), (15, .int .i64 i)]) (fun _ => [.box [.int .i64 kd, .int .i64 vl, .int .i64 sh, .ls (.il .i64 ix) .any, .int .i64 lg, .int .i64 gn, .int .i64 pt, .ls (.il .i64 rc) .any, .ls (.il .i64 da) .any], .tok 0])
    (fun i => 0 ≤ i ∧ i ≤ n) (fun i => (n - i).toNat) 0 ⟨by omega, by omega⟩ ?_ ?_)
  · rw [hO0]
    refine Gh.trans (Gh.thaw 9 (.il .i64 []) rfl trivial rfl) (Gh.tm ?_)
    repeat' (first | exact Holds.nil _ _ | refine Holds.cons (Wk.refl _ _) ?_)
  intro i ⟨hi, hi2⟩ Q' hb hx hr
  have hlO := hlO i hi hi2
  by_cases hin : i < n
  · by_cases k3 : kd = 3
    · have hap := hda k3 i hi hin
      have hdl := hdl k3
      (conv => cbv)
      repeat' (first | assumption | ((first | rw [hap] | rw [hlO, hl1] | rw [hdl] | refine hk.idxI hi hin ?_ | refine hk.needI (by first | (simp only [rNd, hk.ad_eq, hk.sb_eq]; omega) | (simp [rNd, hk.ad_eq, hk.sb_eq]; omega)) ?_ | refine stp ?_ | refine stpB (fun _ => ?_) (fun _ => ?_)) <;> (conv => cbv)) | exact stpF | fail)
      refine hb (i + 1) _ ⟨by omega, by omega⟩ (by omega) ?_
      refine Gh.retok 1 1 rfl (Nat.le_of_ble_eq_true rfl) ?_ rfl rfl
      repeat' (first | exact HoldsT.nil _ _ _ _ | refine HoldsT.tok rfl ?_ | refine HoldsT.cons (Wk.refl _ _) rfl ?_ | refine HoldsT.cons (Wk.of_eq ?_) rfl ?_)
      all_goals first
        | (rw [← hk.add64 i 1 (by omega) (by omega)]; rfl)
        | rfl
        | skip
    · have hap := hv k3 i hi hin
      (conv => cbv)
      repeat' (first | assumption | ((first | rw [hap] | rw [hlO, hl1] | refine hk.needI (by first | (simp only [rNd, hk.ad_eq, hk.sb_eq]; omega) | (simp [rNd, hk.ad_eq, hk.sb_eq]; omega)) ?_ | refine stp ?_ | refine stpB (fun _ => ?_) (fun _ => ?_)) <;> (conv => cbv)) | exact stpF | fail)
      refine hb (i + 1) _ ⟨by omega, by omega⟩ (by omega) ?_
      refine Gh.retok 1 1 rfl (Nat.le_of_ble_eq_true rfl) ?_ rfl rfl
      repeat' (first | exact HoldsT.nil _ _ _ _ | refine HoldsT.tok rfl ?_ | refine HoldsT.cons (Wk.refl _ _) rfl ?_ | refine HoldsT.cons (Wk.of_eq ?_) rfl ?_)
      all_goals first
        | (rw [← hk.add64 i 1 (by omega) (by omega)]; rfl)
        | rfl
        | skip
  · have hie : i = n := by omega
    clear hin hb hr hlO hv hda hdl hkd
    rw [hie, hOn]
    cases b
    all_goals
      (conv => cbv)
      repeat' (first | assumption | ((first | refine hx _ _ ?_ | refine hk.callA (hall2 _) ?_ | refine hk.calldA hall2 ?_ | refine stp ?_ | refine stpB (fun _ => ?_) (fun _ => ?_)) <;> (conv => cbv)) | exact stpF | fail)
      first
        | exact hk.fin0 rfl rfl (Wk.tup ⟨Wk.any _ _ _, .refl _ _, trivial⟩)
        | exact hk.fin0 rfl rfl (Wk.tup ⟨Wk.nilL _ _, .refl _ _, trivial⟩)
        | skip
end Go.Proofs.YtfjdmgnhklpiiaaGreat
set_option maxHeartbeats 4000000
set_option maxRecDepth 20000
set_option linter.unusedSimpArgs false
set_option linter.unusedVariables false
open Go Go.AL
namespace Go.Proofs.YtfjdmgnhklpiiaaGreat
theorem index1_spec (l : List Int) (fid : Nat) (x : AVal) (g : Int → Bool) (h : Heap) (hl : l.length ≤ 9223372036854775807) (hg : ∀ n, Does PP fid [x, .int .i64 n] h (Is (.bool (g n)) h)) :
   Does PP 85 [LI l, .clo (.func fid) [x] []] h (Is (I (findI g l)) h) := by
  obtain ⟨r, hr0⟩ : ∃ r, r = findI g l := ⟨_, rfl⟩
  rw [← hr0]
  refine wlk Tryz.f85 ?_
  unhygienic intros
  have hn := hk.lnI_nn l
  have hl := hk.lnI_le l 9223372036854775807 (by omega)
  cbv
  refine hk.loopI (loop_rule (α := Int) (fun i => [(1, .clo (.func fid) [x] []), (0, .ls (.il .i64 l) .any), (7, .int .i64 (lnI l)), (8, .int .i64 i)]) (fun i => h)
    (fun i => 0 ≤ i ∧ i ≤ lnI l ∧ ∀ j, j < i.toNat → g (l.getD j 0) = false) (fun i => (lnI l - i).toNat) 0 ⟨by omega, by omega, upto_zero⟩ ?_ ?_)
  · exact Gh.tm (by repeat (first | exact Holds.nil _ _ | refine Holds.cons (Wk.refl _ _) ?_))
  intro i ⟨hi, hi2, hi3⟩ Q' hb hx hr
  cbv
  split
  · rename_i hlt
    rw [hk.c2_lss, decide_eq_true_eq] at hlt
    refine ⟨hk.idx hi hlt, hk.call1 (hg _) ?_⟩
    cbv
    split
    · rename_i hgt
      have hgt : g (gtI l i) = true := hgt
      rw [hk.gtI_eq] at hgt
      refine hr _ ?_
      cbv
      exact hk.fin1 (congrArg _ (by rw [hr0]; exact find_some hi (hk.lt_lnI l i hi hlt) hi3 hgt))
    · rename_i hgf
      have hgf : g (gtI l i) = false := hgf
      rw [hk.gtI_eq] at hgf
      refine hb (i + 1) _ ⟨by omega, by omega, upto_step hi hi3 hgf⟩ (by omega) ?_
      refine Gh.tm ?_
      repeat' (first | exact Holds.nil _ _ | refine Holds.cons (Wk.refl _ _) ?_ | refine Holds.cons (Wk.of_eq ?_) ?_)
      all_goals first
        | (rw [← hk.add64 i 1 (by omega) (by omega)]; rfl)
        | rfl
        | skip
  · rename_i hge
    rw [hk.c2_lss, decide_eq_false_iff_not] at hge
    refine hx _ _ ?_
    cbv
    exact hk.fin1 (congrArg _ (by rw [hr0]; exact find_none (by rw [← hk.lnI_toNat l]; omega) hi3))
theorem contains1_spec (l : List Int) (fid : Nat) (x : AVal) (g : Int → Bool) (h : Heap) (hl : l.length ≤ 9223372036854775807) (hg : ∀ n, Does PP fid [x, .int .i64 n] h (Is (.bool (g n)) h)) :
   Does PP 49 [LI l, .clo (.func fid) [x] []] h (Is (.bool (l.any g)) h) := by
  obtain ⟨r, hr0⟩ : ∃ r, r = findI g l := ⟨_, rfl⟩
  obtain ⟨b, hb0⟩ : ∃ b, b = l.any g := ⟨_, rfl⟩
  rw [← hb0]
  refine wlk Tryz.f49 ?_
  unhygienic intros
  cbv
  refine hk.call1 (r := .int .i64 r) (by rw [hr0]; exact index1_spec l fid x g h hl hg) ?_
  cbv
  refine hk.fin1 ?_
  show AVal.bool (c2 .geq r 0) = _
  rw [hk.c2_geq, hr0, find_any, hb0]
end Go.Proofs.YtfjdmgnhklpiiaaGreat
set_option maxHeartbeats 4000000
set_option maxRecDepth 20000
set_option linter.unusedSimpArgs false
set_option linter.unusedVariables false
open Go Go.AL
namespace Go.Proofs.YtfjdmgnhklpiiaaGreat
end Go.Proofs.YtfjdmgnhklpiiaaGreat
set_option maxHeartbeats 4000000
set_option maxRecDepth 20000
set_option linter.unusedSimpArgs false
set_option linter.unusedVariables false
open Go Go.AL
namespace Go.Proofs.YtfjdmgnhklpiiaaGreat
noncomputable def mulRun (n : Nat) : Bool := match (ex PP T M (fun _ => true) 400).F 105 [.int .u64 1, .int .u64 (n : Nat)] [] with
  | some (.tup [.int .u64 a, .int .u64 b], []) => a == 0 && b == (n : Int)
  | _ => false
theorem mul_all : (List.range 65).all mulRun = true := by kernel_rfl
theorem mul_spec (n : Int) (h : Heap) (h0 : 0 ≤ n) (h1 : n ≤ 64) : Does PP 105 [.int .u64 1, .int .u64 n] h (Is (.tup [.int .u64 0, .int .u64 n]) h) := by
  obtain ⟨k, rfl⟩ : ∃ k : Nat, n = k := ⟨n.toNat, by omega⟩
  have ha := List.all_eq_true.1 mul_all k (List.mem_range.2 (by omega))
  have : (ex PP T M (fun _ => true) 400).F 105 [.int .u64 1, .int .u64 (k : Nat)] [] = some (.tup [.int .u64 0, .int .u64 (k : Nat)], []) := by
    unfold mulRun at ha
    revert ha
    split
    · rename_i a b e
      intro ha
      rw [Bool.and_eq_true, beq_iff_eq, beq_iff_eq] at ha
      rw [e, ha.1, ha.2]
    · intro ha; cases ha
  exact pure0 (ex_does P_ok 400 this) rfl rfl h
end Go.Proofs.YtfjdmgnhklpiiaaGreat
set_option maxHeartbeats 4000000
set_option maxRecDepth 20000
set_option linter.unusedSimpArgs false
set_option linter.unusedVariables false
open Go Go.AL
namespace Go.Proofs.YtfjdmgnhklpiiaaGreat
def rpF (v : Int) (n k : Nat) : List Int := List.replicate k v ++ List.replicate (n - k) 0
theorem rpF_step (v : Int) (n k c : Int) (h0 : 0 ≤ k) (hc0 : 0 ≤ c) (hc : k + c ≤ n) (hc2 : c ≤ k) :
    (rSub (rpF v n.toNat k.toNat) 0 k ++ rSub (rSub (rpF v n.toNat k.toNat) 0 k) 0 c) ++ rSub (rpF v n.toNat k.toNat) (k + c) n = rpF v n.toNat (k + c).toNat := by
  have e1 : rSub (rpF v n.toNat k.toNat) 0 k = List.replicate k.toNat v := by
    simp only [rSub, rpF, Int.toNat_zero, List.drop_zero, Int.sub_zero]
    rw [List.take_append_of_le_length (by simp), List.take_of_length_le (by simp)]
  have e2 : rSub (List.replicate k.toNat v) 0 c = List.replicate c.toNat v := by
    simp only [rSub, Int.toNat_zero, List.drop_zero, Int.sub_zero, List.take_replicate]
    rw [Nat.min_eq_left (by omega)]
  have e3 : rSub (rpF v n.toNat k.toNat) (k + c) n = List.replicate (n.toNat - (k + c).toNat) 0 := by
    simp only [rSub, rpF]
    rw [List.drop_append, List.drop_eq_nil_of_le (by simp; omega), List.nil_append, List.drop_replicate, List.take_replicate, List.length_replicate]
    congr 1
    omega
  rw [e1, e2, e3, List.replicate_append_replicate, rpF]
  congr 2
  all_goals omega
theorem rpF_one (v : Int) (n : Int) (h : 1 ≤ n) : (rSub (List.replicate n.toNat 0) 0 0 ++ rSub [v] 0 1) ++ rSub (List.replicate n.toNat 0) 1 n = rpF v n.toNat 1 := by
  simp only [rSub, rpF, Int.toNat_zero, List.drop_zero, Int.sub_zero, List.take_zero, List.nil_append, List.drop_replicate, List.take_replicate]
  simp
theorem rpF_all (v : Int) (n : Int) : rpF v n.toNat n.toNat = List.replicate n.toNat v := by simp [rpF]
theorem repeatR_spec (v n : Int) (h1 : 1 ≤ n) (h2 : n ≤ 64) : Does PP 67 [LI [v], I n] [] (Is (.sl 0 0 0 n) [.rw 0 (.il .i64 (List.replicate n.toNat v))]) := by
  have hmu := fun h => mul_spec n h (by omega) h2
  obtain ⟨F, hF⟩ : ∃ F : Int → List Int, ∀ k, F k = rpF v n.toNat k.toNat := ⟨_, fun _ => rfl⟩
  have hF1 : rpF v n.toNat 1 = F 1 := (hF 1).symm
  have hFn : List.replicate n.toNat v = F n := by rw [hF, rpF_all]
  have hFl : ∀ k : Int, 0 ≤ k → k ≤ n → ((F k).length : Int) = n := fun k a b => by rw [hF, rpF]; simp; omega
  have hFs : ∀ k c : Int, 0 ≤ k → 0 ≤ c → k + c ≤ n → c ≤ k → (rSub (F k) 0 k ++ rSub (rSub (F k) 0 k) 0 c) ++ rSub (F k) (k + c) n = F (k + c) := fun k c a b d e => by
    rw [hF, hF]; exact rpF_step v n k c a b d e
  have hone := rpF_one v n h1
  rw [hF1] at hone
  rw [hFn]
  clear hF1 hFn hF
  refine wlk Tryz.f67 ?_
  unhygienic intros
  have hl1 : lnI [v] = 1 := hk.lnI_eq _
  have hc1 : cv .u64 1 = 1 := by rw [hk.cv_eq]; decide
  have hcn : cv .u64 n = n := by rw [hk.cv_eq]; show n % 18446744073709551616 = n; omega
  have hci : cv .i64 n = n := by rw [hk.cv_eq]; exact wrap64 (by omega) (by omega)
  have hmn : mn n 1 = 1 := by rw [hk.mn_eq]; omega
  have hsb : ∀ l a b, sbI l a b = rSub l a b := fun l a b => by rw [hk.sbI_eq]; rfl
  have hlr : lnI (rpI n 0) = n := by rw [hk.lnI_eq, hk.rpI_eq]; simp; omega
  have hfst : apI (apI (sbI (rpI n 0) 0 0) (sbI [v] 0 1)) (sbI (rpI n 0) 1 n) = F 1 := by
    rw [hk.apI_eq, hk.apI_eq, hsb, hsb, hsb, hk.rpI_eq, hone]
  (conv => cbv)
  repeat' (first | assumption | ((first | rw [hl1] | rw [hc1, hcn] | refine hk.callA (hmu _) ?_ | rw [hci] | rw [hmn] | rw [hlr] | rw [hfst] | refine stp ?_ | refine stpB (fun _ => ?_) (fun _ => ?_)) <;> (conv => cbv)) | exact stpF | fail)
  refine hk.loopI (loop_rule (α := Int) (fun k => [(4, .ls .nl .nil), (7, .sl 0 0 0 n), (8, .int .i64 k)]) (fun k => [.rw 0 (.il .i64 (F k))])
    (fun k => 1 ≤ k ∧ k ≤ n) (fun k => (n - k).toNat) 1 ⟨by omega, by omega⟩ ?_ ?_)
  · exact Gh.tm (by repeat (first | exact Holds.nil _ _ | refine Holds.cons (Wk.refl _ _) ?_))
  intro k ⟨hk1, hk2⟩ Q' hb hx hr
  have hs0 : sbt n 0 = n := by rw [hk.sb_eq]; omega
  by_cases hkn : k < n
  · obtain ⟨c, hc⟩ : ∃ c : Int, c = if k < n - k then k else n - k := ⟨_, rfl⟩
    have hc' : 1 ≤ c ∧ k + c ≤ n ∧ c ≤ k := by split at hc <;> omega
    have hst : sbt n k = n - k := hk.sb_eq _ _
    obtain ⟨m, hm⟩ : ∃ m, m = n - k := ⟨_, rfl⟩
    rw [← hm] at hst hc
    have hmc : mn m k = c := by rw [hk.mn_eq, hc]
    have had : ad k c = k + c := hk.ad_eq _ _
    have hadd : i2 .add .i64 k c = k + c := hk.add64 _ _ (by omega) (by omega)
    obtain ⟨k1, hk10⟩ : ∃ k1, k1 = k + c := ⟨_, rfl⟩
    rw [← hk10] at had hadd
    have hlF : lnI (F k) = n := by rw [hk.lnI_eq]; exact hFl k (by omega) hk2
    have hlS : lnI (sbI (F k) 0 k) = k := by
      have := hFl k (by omega) hk2
      rw [hk.lnI_eq, hsb]; simp only [rSub, List.length_take, List.length_drop]; omega
    have hrow : apI (apI (sbI (F k) 0 k) (sbI (sbI (F k) 0 k) 0 c)) (sbI (F k) k1 n) = F k1 := by
      rw [hk.apI_eq, hk.apI_eq, hsb, hsb, hsb, hk10]; exact hFs k c (by omega) (by omega) (by omega) (by omega)
    clear hc
    (conv => cbv)
    repeat' (first | assumption | ((first | rw [hs0] | rw [hst] | rw [hlS] | rw [hmc] | rw [had] | rw [hlF] | rw [hrow] | rw [hadd] | refine stp ?_ | refine stpB (fun _ => ?_) (fun _ => ?_)) <;> (conv => cbv)) | exact stpF | fail)
    refine hb k1 _ ⟨by omega, by omega⟩ (by omega) ?_
    refine Gh.tm ?_
    repeat' (first | exact Holds.nil _ _ | refine Holds.cons (Wk.refl _ _) ?_ | refine Holds.cons (Wk.of_eq ?_) ?_)
  · have : k = n := by omega
    subst this
    (conv => cbv)
    repeat' (first | assumption | ((first | rw [hs0] | refine hx _ _ ?_ | refine stp ?_ | refine stpB (fun _ => ?_) (fun _ => ?_)) <;> (conv => cbv)) | exact stpF | fail)
end Go.Proofs.YtfjdmgnhklpiiaaGreat
