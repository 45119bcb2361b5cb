/-
  Contracts of functions of the program, proved over the abstract machine of the Al texts.
-/
import Derived.Test.YtnnpookoencpnaaTryTab
import Derived.Test.YtnnpookoencpnaaAl4
import Derived.Test.YtnnpookoencpnaaBase
import Derived.Test.YtnnpookoencpnaaRkX
import Derived.Test.YtnnpookoencpnaaBsX1
import Derived.Test.YtnnpookoencpnaaBsX2
import Derived.Test.YtnnpookoencpnaaBsX3
import Derived.Test.YtnnpookoencpnaaRkY
set_option maxHeartbeats 4000000
set_option maxRecDepth 20000
set_option linter.unusedSimpArgs false
set_option linter.unusedVariables false
open Go Go.AL
namespace Go.Proofs.Ytnnpookoencpnaa
theorem clone_spec (l : List Int) (h : Heap) (h1 : l.length ≠ 0) (h2 : l.length ≤ 1024) : Does PP 51 [LI l] h (Is (LI l) h) := by
  refine pure0 ?_ rfl rfl h
  refine doesF P_ok Try.f51 (by kernel_rfl) (by kernel_rfl) ?_
  intro i2 c2 u1 cv mx mn ad sbt bn bq ba lnI gtI apI sbI stI rpI lnG gtG apG sbG stG rpG fi fb fs fl fg fc sln sgt sap ssb sc b2s s2b nd call calld callv callvd loop rfun fin hk
  (conv => cbv)
  repeat' (first
    | assumption
    | (refine hk.brLssT (by omega) ?_; (conv => cbv))
    | (refine hk.brLssF (by omega) ?_; (conv => cbv))
    | (refine hk.brLeqT (by omega) ?_; (conv => cbv))
    | (refine hk.brLeqF (by omega) ?_; (conv => cbv))
    | (refine hk.brGtrT (by omega) ?_; (conv => cbv))
    | (refine hk.brGtrF (by omega) ?_; (conv => cbv))
    | (refine hk.brGeqT (by omega) ?_; (conv => cbv))
    | (refine hk.brGeqF (by omega) ?_; (conv => cbv))
    | (refine hk.brEqlT (by omega) ?_; (conv => cbv))
    | (refine hk.brEqlF (by omega) ?_; (conv => cbv))
    | (refine hk.brNeqT (by omega) ?_; (conv => cbv))
    | (refine hk.brNeqF (by omega) ?_; (conv => cbv))
    | (refine hk.brLss (fun _ => ?_) (fun _ => ?_) <;> (conv => cbv))
    | (refine hk.brLeq (fun _ => ?_) (fun _ => ?_) <;> (conv => cbv))
    | (refine hk.brGtr (fun _ => ?_) (fun _ => ?_) <;> (conv => cbv))
    | (refine hk.brGeq (fun _ => ?_) (fun _ => ?_) <;> (conv => cbv))
    | (refine hk.brEql (fun _ => ?_) (fun _ => ?_) <;> (conv => cbv))
    | (refine hk.brNeq (fun _ => ?_) (fun _ => ?_) <;> (conv => cbv))
    | (refine hk.brNotT ?_; (conv => cbv))
    | (refine hk.brNotF ?_; (conv => cbv))
    | (refine hk.brNotS _ (by simp [hk.c2_lss, hk.c2_leq, hk.c2_gtr, hk.c2_geq, hk.c2_eql, hk.c2_neq, hk.bn_eq, hk.bq_eq]; rfl) ?_; (conv => cbv))
    | (refine hk.brBqS _ (by simp [hk.c2_lss, hk.c2_leq, hk.c2_gtr, hk.c2_geq, hk.c2_eql, hk.c2_neq, hk.bn_eq, hk.bq_eq]; rfl) ?_; (conv => cbv))
    | (refine hk.idxI (by first | omega | assumption) (by first | omega | assumption) ?_; (conv => cbv))
    | (refine hk.nzI (by first | omega | assumption | decide) ?_; (conv => cbv))
    | (refine hk.ge0I (by first | omega | assumption) ?_; (conv => cbv))
    | (refine hk.needI (by first | (simp only [rNd, hk.sb_eq, hk.ad_eq]; omega) | (simp [rNd, hk.sb_eq, hk.ad_eq]; omega)) ?_; (conv => cbv))
    | (refine hk.callA (by assumption) ?_; (conv => cbv))
    | (refine hk.calldA (by assumption) ?_; (conv => cbv))
    | (rw [hk.sb0]; (conv => cbv))
    | (rw [hk.ad0]; (conv => cbv))
    | exact hk.finB (by first | rfl | (simp [hk.c2_lss, hk.c2_leq, hk.c2_gtr, hk.c2_geq, hk.c2_eql, hk.c2_neq, hk.bn_eq, hk.bq_eq]; done) | assumption)
    | exact hk.fin1 rfl)
  have hln := hk.lnI_eq l
  obtain ⟨n, hn⟩ : ∃ n, n = lnI l := ⟨_, rfl⟩
  rw [← hn] at hln ⊢
  refine hk.needI (by simp only [rNd]; omega) ?_
  refine hk.needI (by simp only [rNd]; omega) ?_
  exact hk.fin0 rfl rfl (Wk.any _ _ _)
end Go.Proofs.Ytnnpookoencpnaa
set_option maxHeartbeats 4000000
set_option maxRecDepth 20000
set_option linter.unusedSimpArgs false
set_option linter.unusedVariables false
open Go Go.AL
namespace Go.Proofs.Ytnnpookoencpnaa
theorem stp_spec (l : List Int) (hx : IxOK l) : Does PP 142 [LI l] [] (Is (.clo (.func 160) [] [.ptr 0 0]) [.box [LI l]]) := by
  refine doesF P_ok Try.f142 (by kernel_rfl) (by kernel_rfl) ?_
  intro i2 c2 u1 cv mx mn ad sbt bn bq ba lnI gtI apI sbI stI rpI lnG gtG apG sbG stG rpG fi fb fs fl fg fc sln sgt sap ssb sc b2s s2b nd call calld callv callvd loop rfun fin hk
  (conv => cbv)
  repeat' (first
    | assumption
    | (refine hk.brLssT (by omega) ?_; (conv => cbv))
    | (refine hk.brLssF (by omega) ?_; (conv => cbv))
    | (refine hk.brLeqT (by omega) ?_; (conv => cbv))
    | (refine hk.brLeqF (by omega) ?_; (conv => cbv))
    | (refine hk.brGtrT (by omega) ?_; (conv => cbv))
    | (refine hk.brGtrF (by omega) ?_; (conv => cbv))
    | (refine hk.brGeqT (by omega) ?_; (conv => cbv))
    | (refine hk.brGeqF (by omega) ?_; (conv => cbv))
    | (refine hk.brEqlT (by omega) ?_; (conv => cbv))
    | (refine hk.brEqlF (by omega) ?_; (conv => cbv))
    | (refine hk.brNeqT (by omega) ?_; (conv => cbv))
    | (refine hk.brNeqF (by omega) ?_; (conv => cbv))
    | (refine hk.brLss (fun _ => ?_) (fun _ => ?_) <;> (conv => cbv))
    | (refine hk.brLeq (fun _ => ?_) (fun _ => ?_) <;> (conv => cbv))
    | (refine hk.brGtr (fun _ => ?_) (fun _ => ?_) <;> (conv => cbv))
    | (refine hk.brGeq (fun _ => ?_) (fun _ => ?_) <;> (conv => cbv))
    | (refine hk.brEql (fun _ => ?_) (fun _ => ?_) <;> (conv => cbv))
    | (refine hk.brNeq (fun _ => ?_) (fun _ => ?_) <;> (conv => cbv))
    | (refine hk.brNotT ?_; (conv => cbv))
    | (refine hk.brNotF ?_; (conv => cbv))
    | (refine hk.brNotS _ (by simp [hk.c2_lss, hk.c2_leq, hk.c2_gtr, hk.c2_geq, hk.c2_eql, hk.c2_neq, hk.bn_eq, hk.bq_eq]; rfl) ?_; (conv => cbv))
    | (refine hk.brBqS _ (by simp [hk.c2_lss, hk.c2_leq, hk.c2_gtr, hk.c2_geq, hk.c2_eql, hk.c2_neq, hk.bn_eq, hk.bq_eq]; rfl) ?_; (conv => cbv))
    | (refine hk.idxI (by first | omega | assumption) (by first | omega | assumption) ?_; (conv => cbv))
    | (refine hk.nzI (by first | omega | assumption | decide) ?_; (conv => cbv))
    | (refine hk.ge0I (by first | omega | assumption) ?_; (conv => cbv))
    | (refine hk.needI (by first | (simp only [rNd, hk.sb_eq, hk.ad_eq]; omega) | (simp [rNd, hk.sb_eq, hk.ad_eq]; omega)) ?_; (conv => cbv))
    | (refine hk.callA (by assumption) ?_; (conv => cbv))
    | (refine hk.calldA (by assumption) ?_; (conv => cbv))
    | (rw [hk.sb0]; (conv => cbv))
    | (rw [hk.ad0]; (conv => cbv))
    | exact hk.finB (by first | rfl | (simp [hk.c2_lss, hk.c2_leq, hk.c2_gtr, hk.c2_geq, hk.c2_eql, hk.c2_neq, hk.bn_eq, hk.bq_eq]; done) | assumption)
    | exact hk.fin1 rfl)
theorem DoesV.wk {P : Program} {f : AVal} {args args' : List AVal} {h : Heap} {R : AVal → Heap → Prop} (hd : DoesV P f args' h R) (hw : WkL h args args') : DoesV P f args h R :=
  fun e c cs hg he hv ha => hd e c cs hg he hv ⟨hw.len.symm.trans ha.len, fun i hi => hw.get i e _ hg he (ha.rel i (by rw [hw.len]; exact hi))⟩
theorem rfL_get (l : List Int) : ∀ (n i : Nat), i < n → (rfL l n).getD i 0 = refl_ (i : Nat) (l.getD i 0)
  | 0, i, h => absurd h (by omega)
  | n + 1, i, h => by
    simp only [rfL]
    by_cases h2 : i < n
    · rw [← rfL_get l n i h2, List.getD_eq_getElem?_getD, List.getElem?_append_left (by rw [rfL_len]; exact h2), ← List.getD_eq_getElem?_getD]
    · have : i = n := by omega
      subst this
      rw [List.getD_eq_getElem?_getD, List.getElem?_append_right (by rw [rfL_len]; omega), rfL_len]
      simp
theorem step1_spec (l : List Int) (hx : IxOK l) (Of Bf : Nat → AObj) (Gf : Nat → Heap) (hy : ∀ k : Nat, k ≤ l.length → DoesV PP (.yld 3) [I (k : Nat), LI (cf l k)] (Of k :: Bf k :: .box [LI l] :: Gf k) (Is (.bool true) (Of (k + 1) :: Bf (k + 1) :: .box [LI l] :: Gf (k + 1)))) :
    Does PP 160 [.yld 3, .ptr 2 0] (Of 0 :: Bf 0 :: .box [LI l] :: Gf 0) (Is (.tup []) (Of (l.length + 1) :: Bf (l.length + 1) :: .box [LI l] :: Gf (l.length + 1))) := by
  have hrf := fun h => lreflect_spec l h hx
  obtain ⟨n, hn⟩ : ∃ n : Int, n = (l.length : Nat) := ⟨_, rfl⟩
  obtain ⟨R, hR⟩ : ∃ R, R = rfL l l.length := ⟨_, rfl⟩
  obtain ⟨A, hA⟩ : ∃ A : Int → List Int, ∀ i, A i = cf l i.toNat := ⟨_, fun _ => rfl⟩
  obtain ⟨H, hH⟩ : ∃ H : Int → Heap, ∀ i, H i = Gf i.toNat := ⟨_, fun _ => rfl⟩
  obtain ⟨O, hO⟩ : ∃ H : Int → AObj, ∀ i, H i = Of i.toNat := ⟨_, fun _ => rfl⟩
  obtain ⟨B, hB⟩ : ∃ H : Int → AObj, ∀ i, H i = Bf i.toNat := ⟨_, fun _ => rfl⟩
  have hA0 : A 0 = [] := by rw [hA]; rfl
  have hAs : ∀ i : Int, 0 ≤ i → i < n → A (i + 1) = upL (A i) (R.getD i.toNat 0) := fun i h h2 => by
    rw [hA, hA, hR, show (i + 1).toNat = i.toNat + 1 by omega, rfL_get _ _ _ (by omega)]
    simp only [cf]
  have hAl : ∀ i : Int, (A i).length = i.toNat := fun i => by rw [hA, cf_len]
  have hyI : ∀ i : Int, 0 ≤ i → i ≤ n → DoesV PP (.yld 3) [I i, LI (A i)] (O i :: B i :: .box [LI l] :: H i) (Is (.bool true) (O (i + 1) :: B (i + 1) :: .box [LI l] :: H (i + 1))) := fun i h h2 => by
    have := hy i.toNat (by omega)
    rw [hH, hH, hO, hO, hB, hB, hA, show (i + 1).toNat = i.toNat + 1 by omega]
    rw [show ((i.toNat : Nat) : Int) = i by omega] at this
    exact this
  have hup : ∀ (i : Int) h, 0 ≤ i → i < n → Does PP 162 [LI (A i), I (R.getD i.toNat 0)] h (Is (LI (A (i + 1))) h) := fun i h h0 h1 => by
    rw [hAs i h0 h1]; exact up_spec _ _ h (by rw [hAl]; have := hx.1; omega)
  have hcl : ∀ (i : Int) h, 0 ≤ i → i < n → Does PP 51 [LI (A (i + 1))] h (Is (LI (A (i + 1))) h) := fun i h h0 h1 =>
    clone_spec _ h (by rw [hAl]; omega) (by rw [hAl]; have := hx.1; omega)
  have hy0 : DoesV PP (.yld 3) [I 0, .ls .nl .nil] (O 0 :: B 0 :: .box [LI l] :: H 0) (Is (.bool true) (O 1 :: B 1 :: .box [LI l] :: H 1)) := by
    have h00 := hyI 0 (by omega) (by omega)
    rw [hA0] at h00
    exact DoesV.wk h00 (by repeat' (first | exact WkL.nil | refine WkL.cons (Wk.refl _ _) ?_ | refine WkL.cons (Wk.any _ _ _) ?_ | refine WkL.cons (Wk.nilL _ _) ?_))
  have hRl : (R.length : Int) = n := by rw [hR, rfL_len, hn]
  have hn16 : 0 ≤ n ∧ n ≤ 16 := by have := hx.1; omega
  rw [show Gf 0 = H 0 by rw [hH]; rfl, show Gf (l.length + 1) = H (n + 1) by rw [hH, hn]; rfl, show Of 0 = O 0 by rw [hO]; rfl, show Of (l.length + 1) = O (n + 1) by rw [hO, hn]; rfl, show Bf 0 = B 0 by rw [hB]; rfl, show Bf (l.length + 1) = B (n + 1) by rw [hB, hn]; rfl]
  rw [← hR] at hrf
  clear hR hA hH hO hB hAs hAl hx hy hn
  refine doesF P_ok Try.f160 (by kernel_rfl) (by kernel_rfl) ?_
  intro i2 c2 u1 cv mx mn ad sbt bn bq ba lnI gtI apI sbI stI rpI lnG gtG apG sbG stG rpG fi fb fs fl fg fc sln sgt sap ssb sc b2s s2b nd call calld callv callvd loop rfun fin hk
  have hln : lnI R = n := by rw [hk.lnI_eq]; exact hRl
  simp only [← hk.gtI_eq] at hup
  clear hRl
  (conv => cbv)
  refine hk.callvI hy0 fun r h' ⟨e1, e2⟩ => ?_
  subst e1
  subst e2
  have hbt : bn true = false := by rw [hk.bn_eq]; rfl
  repeat' (first
    | assumption
    | (rw [hbt]; (conv => cbv))
    | (refine hk.callA (hrf _) ?_; (conv => cbv))
    | (refine hk.calldA hrf ?_; (conv => cbv))
    | (rw [hln]; (conv => cbv))
    | (refine hk.brLssT (by omega) ?_; (conv => cbv))
    | (refine hk.brLssF (by omega) ?_; (conv => cbv))
    | (refine hk.brLeqT (by omega) ?_; (conv => cbv))
    | (refine hk.brLeqF (by omega) ?_; (conv => cbv))
    | (refine hk.brGtrT (by omega) ?_; (conv => cbv))
    | (refine hk.brGtrF (by omega) ?_; (conv => cbv))
    | (refine hk.brGeqT (by omega) ?_; (conv => cbv))
    | (refine hk.brGeqF (by omega) ?_; (conv => cbv))
    | (refine hk.brEqlT (by omega) ?_; (conv => cbv))
    | (refine hk.brEqlF (by omega) ?_; (conv => cbv))
    | (refine hk.brNeqT (by omega) ?_; (conv => cbv))
    | (refine hk.brNeqF (by omega) ?_; (conv => cbv))
    | (refine hk.brLss (fun _ => ?_) (fun _ => ?_) <;> (conv => cbv))
    | (refine hk.brLeq (fun _ => ?_) (fun _ => ?_) <;> (conv => cbv))
    | (refine hk.brGtr (fun _ => ?_) (fun _ => ?_) <;> (conv => cbv))
    | (refine hk.brGeq (fun _ => ?_) (fun _ => ?_) <;> (conv => cbv))
    | (refine hk.brEql (fun _ => ?_) (fun _ => ?_) <;> (conv => cbv))
    | (refine hk.brNeq (fun _ => ?_) (fun _ => ?_) <;> (conv => cbv))
    | (refine hk.brNotT ?_; (conv => cbv))
    | (refine hk.brNotF ?_; (conv => cbv))
    | (refine hk.brNotS _ (by simp [hk.c2_lss, hk.c2_leq, hk.c2_gtr, hk.c2_geq, hk.c2_eql, hk.c2_neq, hk.bn_eq, hk.bq_eq]; rfl) ?_; (conv => cbv))
    | (refine hk.brBqS _ (by simp [hk.c2_lss, hk.c2_leq, hk.c2_gtr, hk.c2_geq, hk.c2_eql, hk.c2_neq, hk.bn_eq, hk.bq_eq]; rfl) ?_; (conv => cbv))
    | (refine hk.idxI (by first | omega | assumption) (by first | omega | assumption) ?_; (conv => cbv))
    | (refine hk.nzI (by first | omega | assumption | decide) ?_; (conv => cbv))
    | (refine hk.ge0I (by first | omega | assumption) ?_; (conv => cbv))
    | (refine hk.needI (by first | (simp only [rNd, hk.sb_eq, hk.ad_eq]; omega) | (simp [rNd, hk.sb_eq, hk.ad_eq]; omega)) ?_; (conv => cbv))
    | (refine hk.callA (by assumption) ?_; (conv => cbv))
    | (refine hk.calldA (by assumption) ?_; (conv => cbv))
    | (rw [hk.sb0]; (conv => cbv))
    | (rw [hk.ad0]; (conv => cbv))
    | exact hk.finB (by first | rfl | (simp [hk.c2_lss, hk.c2_leq, hk.c2_gtr, hk.c2_geq, hk.c2_eql, hk.c2_neq, hk.bn_eq, hk.bq_eq]; done) | assumption)
    | exact hk.fin1 rfl)
  refine hk.loopI (loop_rule (α := Int) (fun i => [(0, .yld 3), (3, .ls (.il .i64 (A i)) .any), (10, .ls (.il .i64 R) .any), (11, .int .i64 n), (12, .int .i64 i)]) (fun i => O (i + 1) :: B (i + 1) :: .box [.ls (.il .i64 l) .any] :: H (i + 1))
    (fun i => 0 ≤ i ∧ i ≤ n) (fun i => (n - i).toNat) 0 ⟨by omega, by omega⟩ ?_ ?_)
  · rw [hA0]
    exact Gh.tm (by repeat (first | exact Holds.nil _ _ | refine Holds.cons (Wk.refl _ _) ?_ | refine Holds.cons (Wk.nilL _ _) ?_))
  intro i ⟨hi, hi2⟩ Q' hb hx hr
  (conv => cbv)
  refine hk.brLss (fun h2 => ?_) (fun h2 => ?_)
  · have hup := fun h => hup i h hi h2
    have hcl := fun h => hcl i h hi h2
    have hyI := hyI (i + 1) (by omega) (by omega)
    have had : i2 .add .i64 i 1 = i + 1 := hk.add64 _ _ (by omega) (by omega)
    obtain ⟨i1, hi1⟩ : ∃ i1, i1 = i + 1 := ⟨_, rfl⟩
    rw [← hi1] at hup hcl hyI had
    obtain ⟨H2, hH2⟩ : ∃ H2, H2 = H (i1 + 1) := ⟨_, rfl⟩
    obtain ⟨O2, hO2⟩ : ∃ H2, H2 = O (i1 + 1) := ⟨_, rfl⟩
    obtain ⟨B2, hB2⟩ : ∃ H2, H2 = B (i1 + 1) := ⟨_, rfl⟩
    rw [← hH2, ← hO2, ← hB2] at hyI
    try rw [← hi1]
    (conv => cbv)
    try rw [hln]
    refine hk.idxI hi h2 ?_
    (conv => cbv)
    repeat' (first
      | assumption
      | (rw [had]; (conv => cbv))
      | (refine hk.callA (hup _) ?_; (conv => cbv))
      | (refine hk.calldA hup ?_; (conv => cbv))
      | (refine hk.callA (hcl _) ?_; (conv => cbv))
      | (refine hk.calldA hcl ?_; (conv => cbv))
      | (refine hk.brLssT (by omega) ?_; (conv => cbv))
      | (refine hk.brLssF (by omega) ?_; (conv => cbv))
      | (refine hk.brLeqT (by omega) ?_; (conv => cbv))
      | (refine hk.brLeqF (by omega) ?_; (conv => cbv))
      | (refine hk.brGtrT (by omega) ?_; (conv => cbv))
      | (refine hk.brGtrF (by omega) ?_; (conv => cbv))
      | (refine hk.brGeqT (by omega) ?_; (conv => cbv))
      | (refine hk.brGeqF (by omega) ?_; (conv => cbv))
      | (refine hk.brEqlT (by omega) ?_; (conv => cbv))
      | (refine hk.brEqlF (by omega) ?_; (conv => cbv))
      | (refine hk.brNeqT (by omega) ?_; (conv => cbv))
      | (refine hk.brNeqF (by omega) ?_; (conv => cbv))
      | (refine hk.brLss (fun _ => ?_) (fun _ => ?_) <;> (conv => cbv))
      | (refine hk.brLeq (fun _ => ?_) (fun _ => ?_) <;> (conv => cbv))
      | (refine hk.brGtr (fun _ => ?_) (fun _ => ?_) <;> (conv => cbv))
      | (refine hk.brGeq (fun _ => ?_) (fun _ => ?_) <;> (conv => cbv))
      | (refine hk.brEql (fun _ => ?_) (fun _ => ?_) <;> (conv => cbv))
      | (refine hk.brNeq (fun _ => ?_) (fun _ => ?_) <;> (conv => cbv))
      | (refine hk.brNotT ?_; (conv => cbv))
      | (refine hk.brNotF ?_; (conv => cbv))
      | (refine hk.brNotS _ (by simp [hk.c2_lss, hk.c2_leq, hk.c2_gtr, hk.c2_geq, hk.c2_eql, hk.c2_neq, hk.bn_eq, hk.bq_eq]; rfl) ?_; (conv => cbv))
      | (refine hk.brBqS _ (by simp [hk.c2_lss, hk.c2_leq, hk.c2_gtr, hk.c2_geq, hk.c2_eql, hk.c2_neq, hk.bn_eq, hk.bq_eq]; rfl) ?_; (conv => cbv))
      | (refine hk.idxI (by first | omega | assumption) (by first | omega | assumption) ?_; (conv => cbv))
      | (refine hk.nzI (by first | omega | assumption | decide) ?_; (conv => cbv))
      | (refine hk.ge0I (by first | omega | assumption) ?_; (conv => cbv))
      | (refine hk.needI (by first | (simp only [rNd, hk.sb_eq, hk.ad_eq]; omega) | (simp [rNd, hk.sb_eq, hk.ad_eq]; omega)) ?_; (conv => cbv))
      | (refine hk.callA (by assumption) ?_; (conv => cbv))
      | (refine hk.calldA (by assumption) ?_; (conv => cbv))
      | (rw [hk.sb0]; (conv => cbv))
      | (rw [hk.ad0]; (conv => cbv))
      | exact hk.finB (by first | rfl | (simp [hk.c2_lss, hk.c2_leq, hk.c2_gtr, hk.c2_geq, hk.c2_eql, hk.c2_neq, hk.bn_eq, hk.bq_eq]; done) | assumption)
      | exact hk.fin1 rfl)
    refine hk.callvI hyI fun r h' ⟨e1, e2⟩ => ?_
    subst e1
    subst e2
    repeat' (first
      | assumption
      | (rw [hbt]; (conv => cbv))
      | (refine hk.brLssT (by omega) ?_; (conv => cbv))
      | (refine hk.brLssF (by omega) ?_; (conv => cbv))
      | (refine hk.brLeqT (by omega) ?_; (conv => cbv))
      | (refine hk.brLeqF (by omega) ?_; (conv => cbv))
      | (refine hk.brGtrT (by omega) ?_; (conv => cbv))
      | (refine hk.brGtrF (by omega) ?_; (conv => cbv))
      | (refine hk.brGeqT (by omega) ?_; (conv => cbv))
      | (refine hk.brGeqF (by omega) ?_; (conv => cbv))
      | (refine hk.brEqlT (by omega) ?_; (conv => cbv))
      | (refine hk.brEqlF (by omega) ?_; (conv => cbv))
      | (refine hk.brNeqT (by omega) ?_; (conv => cbv))
      | (refine hk.brNeqF (by omega) ?_; (conv => cbv))
      | (refine hk.brLss (fun _ => ?_) (fun _ => ?_) <;> (conv => cbv))
      | (refine hk.brLeq (fun _ => ?_) (fun _ => ?_) <;> (conv => cbv))
      | (refine hk.brGtr (fun _ => ?_) (fun _ => ?_) <;> (conv => cbv))
      | (refine hk.brGeq (fun _ => ?_) (fun _ => ?_) <;> (conv => cbv))
      | (refine hk.brEql (fun _ => ?_) (fun _ => ?_) <;> (conv => cbv))
      | (refine hk.brNeq (fun _ => ?_) (fun _ => ?_) <;> (conv => cbv))
      | (refine hk.brNotT ?_; (conv => cbv))
      | (refine hk.brNotF ?_; (conv => cbv))
      | (refine hk.brNotS _ (by simp [hk.c2_lss, hk.c2_leq, hk.c2_gtr, hk.c2_geq, hk.c2_eql, hk.c2_neq, hk.bn_eq, hk.bq_eq]; rfl) ?_; (conv => cbv))
      | (refine hk.brBqS _ (by simp [hk.c2_lss, hk.c2_leq, hk.c2_gtr, hk.c2_geq, hk.c2_eql, hk.c2_neq, hk.bn_eq, hk.bq_eq]; rfl) ?_; (conv => cbv))
      | (refine hk.idxI (by first | omega | assumption) (by first | omega | assumption) ?_; (conv => cbv))
      | (refine hk.nzI (by first | omega | assumption | decide) ?_; (conv => cbv))
      | (refine hk.ge0I (by first | omega | assumption) ?_; (conv => cbv))
      | (refine hk.needI (by first | (simp only [rNd, hk.sb_eq, hk.ad_eq]; omega) | (simp [rNd, hk.sb_eq, hk.ad_eq]; omega)) ?_; (conv => cbv))
      | (refine hk.callA (by assumption) ?_; (conv => cbv))
      | (refine hk.calldA (by assumption) ?_; (conv => cbv))
      | (rw [hk.sb0]; (conv => cbv))
      | (rw [hk.ad0]; (conv => cbv))
      | exact hk.finB (by first | rfl | (simp [hk.c2_lss, hk.c2_leq, hk.c2_gtr, hk.c2_geq, hk.c2_eql, hk.c2_neq, hk.bn_eq, hk.bq_eq]; done) | assumption)
      | exact hk.fin1 rfl)
    have hb := hb (i + 1)
    rw [← hi1] at hb
    rw [← hH2, ← hO2, ← hB2] at hb
    refine hb _ ⟨by omega, by omega⟩ (by omega) ?_
    rw [had]
    exact Gh.tm (by repeat (first | exact Holds.nil _ _ | refine Holds.cons (Wk.refl _ _) ?_))
  · have : i = n := by omega
    subst this
    refine hx _ _ ?_
    (conv => cbv)
    exact hk.fin1 rfl
end Go.Proofs.Ytnnpookoencpnaa
set_option maxHeartbeats 4000000
set_option maxRecDepth 20000
set_option linter.unusedSimpArgs false
set_option linter.unusedVariables false
open Go Go.AL
namespace Go.Proofs.Ytnnpookoencpnaa
theorem index1_spec (l : List Int) (fid : Nat) (x : AVal) (g : Int → Bool) (h : Heap) (hl : l.length ≤ 9223372036854775807) (hg : ∀ n, Does PP fid [x, .int .i64 n] h (Is (.bool (g n)) h)) :
   Does PP 98 [LI l, .clo (.func fid) [x] []] h (Is (I (findI g l)) h) := by
  obtain ⟨r, hr0⟩ : ∃ r, r = findI g l := ⟨_, rfl⟩
  rw [← hr0]
  refine doesF P_ok Try.f98 (by kernel_rfl) (by kernel_rfl) ?_
  intro i2 c2 u1 cv mx mn ad sbt bn bq ba lnI gtI apI sbI stI rpI lnG gtG apG sbG stG rpG fi fb fs fl fg fc sln sgt sap ssb sc b2s s2b nd call calld callv callvd loop rfun fin hk
  have hn := hk.lnI_nn l
  have hl := hk.lnI_le l 9223372036854775807 (by omega)
  cbv
  refine hk.loopI (loop_rule (α := Int) (fun i => [(1, .clo (.func fid) [x] []), (0, .ls (.il .i64 l) .any), (7, .int .i64 (lnI l)), (8, .int .i64 i)]) (fun i => h)
    (fun i => 0 ≤ i ∧ i ≤ lnI l ∧ ∀ j, j < i.toNat → g (l.getD j 0) = false) (fun i => (lnI l - i).toNat) 0 ⟨by omega, by omega, upto_zero⟩ ?_ ?_)
  · exact Gh.tm (by repeat (first | exact Holds.nil _ _ | refine Holds.cons (Wk.refl _ _) ?_))
  intro i ⟨hi, hi2, hi3⟩ Q' hb hx hr
  cbv
  split
  · rename_i hlt
    rw [hk.c2_lss, decide_eq_true_eq] at hlt
    refine ⟨hk.idx hi hlt, hk.call1 (hg _) ?_⟩
    cbv
    split
    · rename_i hgt
      have hgt : g (gtI l i) = true := hgt
      rw [hk.gtI_eq] at hgt
      refine hr _ ?_
      cbv
      exact hk.fin1 (congrArg _ (by rw [hr0]; exact find_some hi (hk.lt_lnI l i hi hlt) hi3 hgt))
    · rename_i hgf
      have hgf : g (gtI l i) = false := hgf
      rw [hk.gtI_eq] at hgf
      refine hb (i + 1) _ ⟨by omega, by omega, upto_step hi hi3 hgf⟩ (by omega) ?_
      refine Gh.tm ?_
      repeat' (first | exact Holds.nil _ _ | refine Holds.cons (Wk.refl _ _) ?_ | refine Holds.cons (Wk.of_eq ?_) ?_)
      all_goals first
        | (rw [← hk.add64 i 1 (by omega) (by omega)]; rfl)
        | rfl
        | skip
  · rename_i hge
    rw [hk.c2_lss, decide_eq_false_iff_not] at hge
    refine hx _ _ ?_
    cbv
    exact hk.fin1 (congrArg _ (by rw [hr0]; exact find_none (by rw [← hk.lnI_toNat l]; omega) hi3))
theorem contains1_spec (l : List Int) (fid : Nat) (x : AVal) (g : Int → Bool) (h : Heap) (hl : l.length ≤ 9223372036854775807) (hg : ∀ n, Does PP fid [x, .int .i64 n] h (Is (.bool (g n)) h)) :
   Does PP 53 [LI l, .clo (.func fid) [x] []] h (Is (.bool (l.any g)) h) := by
  obtain ⟨r, hr0⟩ : ∃ r, r = findI g l := ⟨_, rfl⟩
  obtain ⟨b, hb0⟩ : ∃ b, b = l.any g := ⟨_, rfl⟩
  rw [← hb0]
  refine doesF P_ok Try.f53 (by kernel_rfl) (by kernel_rfl) ?_
  intro i2 c2 u1 cv mx mn ad sbt bn bq ba lnI gtI apI sbI stI rpI lnG gtG apG sbG stG rpG fi fb fs fl fg fc sln sgt sap ssb sc b2s s2b nd call calld callv callvd loop rfun fin hk
  cbv
  refine hk.call1 (r := .int .i64 r) (by rw [hr0]; exact index1_spec l fid x g h hl hg) ?_
  cbv
  refine hk.fin1 ?_
  show AVal.bool (c2 .geq r 0) = _
  rw [hk.c2_geq, hr0, find_any, hb0]
end Go.Proofs.Ytnnpookoencpnaa
