/-
  Contracts of functions of the program, proved over the abstract machine of the Al texts.
-/
import Derived.Test.YtnnpookoencpnaaTryTab
import Derived.Test.YtnnpookoencpnaaAl4
import Derived.Test.YtnnpookoencpnaaBase
import Derived.Test.YtnnpookoencpnaaRkX
import Derived.Test.YtnnpookoencpnaaRkY
set_option maxHeartbeats 4000000
set_option maxRecDepth 20000
set_option linter.unusedSimpArgs false
set_option linter.unusedVariables false
open Go Go.AL
namespace Go.Proofs.Ytnnpookoencpnaa
noncomputable def mulRun (n : Nat) : Bool := match (ex PP T M (fun _ => true) 400).F 97 [.int .u64 1, .int .u64 (n : Nat)] [] with
  | some (.tup [.int .u64 a, .int .u64 b], []) => a == 0 && b == (n : Int)
  | _ => false
theorem mul_all : (List.range 65).all mulRun = true := by kernel_rfl
theorem mul_spec (n : Int) (h : Heap) (h0 : 0 ≤ n) (h1 : n ≤ 64) : Does PP 97 [.int .u64 1, .int .u64 n] h (Is (.tup [.int .u64 0, .int .u64 n]) h) := by
  obtain ⟨k, rfl⟩ : ∃ k : Nat, n = k := ⟨n.toNat, by omega⟩
  have ha := List.all_eq_true.1 mul_all k (List.mem_range.2 (by omega))
  have : (ex PP T M (fun _ => true) 400).F 97 [.int .u64 1, .int .u64 (k : Nat)] [] = some (.tup [.int .u64 0, .int .u64 (k : Nat)], []) := by
    unfold mulRun at ha
    revert ha
    split
    · rename_i a b e
      intro ha
      rw [Bool.and_eq_true, beq_iff_eq, beq_iff_eq] at ha
      rw [e, ha.1, ha.2]
    · intro ha; cases ha
  exact pure0 (ex_does P_ok 400 this) rfl rfl h
end Go.Proofs.Ytnnpookoencpnaa
set_option maxHeartbeats 4000000
set_option maxRecDepth 20000
set_option linter.unusedSimpArgs false
set_option linter.unusedVariables false
open Go Go.AL
namespace Go.Proofs.Ytnnpookoencpnaa
/-- A row that is half done. -/
def rpF (v : Int) (n k : Nat) : List Int := List.replicate k v ++ List.replicate (n - k) 0
theorem rpF_step (v : Int) (n k c : Int) (h0 : 0 ≤ k) (hc0 : 0 ≤ c) (hc : k + c ≤ n) (hc2 : c ≤ k) :
    (rSub (rpF v n.toNat k.toNat) 0 k ++ rSub (rSub (rpF v n.toNat k.toNat) 0 k) 0 c) ++ rSub (rpF v n.toNat k.toNat) (k + c) n = rpF v n.toNat (k + c).toNat := by
  have e1 : rSub (rpF v n.toNat k.toNat) 0 k = List.replicate k.toNat v := by
    simp only [rSub, rpF, Int.toNat_zero, List.drop_zero, Int.sub_zero]
    rw [List.take_append_of_le_length (by simp), List.take_of_length_le (by simp)]
  have e2 : rSub (List.replicate k.toNat v) 0 c = List.replicate c.toNat v := by
    simp only [rSub, Int.toNat_zero, List.drop_zero, Int.sub_zero, List.take_replicate]
    rw [Nat.min_eq_left (by omega)]
  have e3 : rSub (rpF v n.toNat k.toNat) (k + c) n = List.replicate (n.toNat - (k + c).toNat) 0 := by
    simp only [rSub, rpF]
    rw [List.drop_append, List.drop_eq_nil_of_le (by simp; omega), List.nil_append, List.drop_replicate, List.take_replicate, List.length_replicate]
    congr 1
    omega
  rw [e1, e2, e3, List.replicate_append_replicate, rpF]
  congr 2
  all_goals omega
theorem rpF_one (v : Int) (n : Int) (h : 1 ≤ n) : (rSub (List.replicate n.toNat 0) 0 0 ++ rSub [v] 0 1) ++ rSub (List.replicate n.toNat 0) 1 n = rpF v n.toNat 1 := by
  simp only [rSub, rpF, Int.toNat_zero, List.drop_zero, Int.sub_zero, List.take_zero, List.nil_append, List.drop_replicate, List.take_replicate]
  simp
theorem rpF_all (v : Int) (n : Int) : rpF v n.toNat n.toNat = List.replicate n.toNat v := by simp [rpF]
theorem repeatR_spec (v n : Int) (h1 : 1 ≤ n) (h2 : n ≤ 64) : Does PP 52 [LI [v], I n] [] (Is (.sl 0 0 0 n) [.rw 0 (.il .i64 (List.replicate n.toNat v))]) := by
  have hmu := fun h => mul_spec n h (by omega) h2
  obtain ⟨F, hF⟩ : ∃ F : Int → List Int, ∀ k, F k = rpF v n.toNat k.toNat := ⟨_, fun _ => rfl⟩
  have hF1 : rpF v n.toNat 1 = F 1 := (hF 1).symm
  have hFn : List.replicate n.toNat v = F n := by rw [hF, rpF_all]
  have hFl : ∀ k : Int, 0 ≤ k → k ≤ n → ((F k).length : Int) = n := fun k a b => by rw [hF, rpF]; simp; omega
  have hFs : ∀ k c : Int, 0 ≤ k → 0 ≤ c → k + c ≤ n → c ≤ k → (rSub (F k) 0 k ++ rSub (rSub (F k) 0 k) 0 c) ++ rSub (F k) (k + c) n = F (k + c) := fun k c a b d e => by
    rw [hF, hF]; exact rpF_step v n k c a b d e
  have hone := rpF_one v n h1
  rw [hF1] at hone
  rw [hFn]
  clear hF1 hFn hF
  refine doesF P_ok Try.f52 (by kernel_rfl) (by kernel_rfl) ?_
  intro i2 c2 u1 cv mx mn ad sbt bn bq ba lnI gtI apI sbI stI rpI lnG gtG apG sbG stG rpG fi fb fs fl fg fc sln sgt sap ssb sc b2s s2b nd call calld callv callvd loop rfun fin hk
  have hl1 : lnI [v] = 1 := hk.lnI_eq _
  have hc1 : cv .u64 1 = 1 := by rw [hk.cv_eq]; decide
  have hcn : cv .u64 n = n := by rw [hk.cv_eq]; show n % 18446744073709551616 = n; omega
  have hci : cv .i64 n = n := by rw [hk.cv_eq]; exact wrap64 (by omega) (by omega)
  have hmn : mn n 1 = 1 := by rw [hk.mn_eq]; omega
  have hsb : ∀ l a b, sbI l a b = rSub l a b := fun l a b => by rw [hk.sbI_eq]; rfl
  have hlr : lnI (rpI n 0) = n := by rw [hk.lnI_eq, hk.rpI_eq]; simp; omega
  have hfst : apI (apI (sbI (rpI n 0) 0 0) (sbI [v] 0 1)) (sbI (rpI n 0) 1 n) = F 1 := by
    rw [hk.apI_eq, hk.apI_eq, hsb, hsb, hsb, hk.rpI_eq, hone]
  (conv => cbv)
  repeat' (first
    | assumption
    | (rw [hl1]; (conv => cbv))
    | (rw [hc1, hcn]; (conv => cbv))
    | (refine hk.callA (hmu _) ?_; (conv => cbv))
    | (rw [hci]; (conv => cbv))
    | (rw [hmn]; (conv => cbv))
    | (rw [hlr]; (conv => cbv))
    | (rw [hfst]; (conv => cbv))
    | (refine hk.brLssT (by omega) ?_; (conv => cbv))
    | (refine hk.brLssF (by omega) ?_; (conv => cbv))
    | (refine hk.brLeqT (by omega) ?_; (conv => cbv))
    | (refine hk.brLeqF (by omega) ?_; (conv => cbv))
    | (refine hk.brGtrT (by omega) ?_; (conv => cbv))
    | (refine hk.brGtrF (by omega) ?_; (conv => cbv))
    | (refine hk.brGeqT (by omega) ?_; (conv => cbv))
    | (refine hk.brGeqF (by omega) ?_; (conv => cbv))
    | (refine hk.brEqlT (by omega) ?_; (conv => cbv))
    | (refine hk.brEqlF (by omega) ?_; (conv => cbv))
    | (refine hk.brNeqT (by omega) ?_; (conv => cbv))
    | (refine hk.brNeqF (by omega) ?_; (conv => cbv))
    | (refine hk.brLss (fun _ => ?_) (fun _ => ?_) <;> (conv => cbv))
    | (refine hk.brLeq (fun _ => ?_) (fun _ => ?_) <;> (conv => cbv))
    | (refine hk.brGtr (fun _ => ?_) (fun _ => ?_) <;> (conv => cbv))
    | (refine hk.brGeq (fun _ => ?_) (fun _ => ?_) <;> (conv => cbv))
    | (refine hk.brEql (fun _ => ?_) (fun _ => ?_) <;> (conv => cbv))
    | (refine hk.brNeq (fun _ => ?_) (fun _ => ?_) <;> (conv => cbv))
    | (refine hk.brNotT ?_; (conv => cbv))
    | (refine hk.brNotF ?_; (conv => cbv))
    | (refine hk.brNotS _ (by simp [hk.c2_lss, hk.c2_leq, hk.c2_gtr, hk.c2_geq, hk.c2_eql, hk.c2_neq, hk.bn_eq, hk.bq_eq]; rfl) ?_; (conv => cbv))
    | (refine hk.brBqS _ (by simp [hk.c2_lss, hk.c2_leq, hk.c2_gtr, hk.c2_geq, hk.c2_eql, hk.c2_neq, hk.bn_eq, hk.bq_eq]; rfl) ?_; (conv => cbv))
    | (refine hk.idxI (by first | omega | assumption) (by first | omega | assumption) ?_; (conv => cbv))
    | (refine hk.nzI (by first | omega | assumption | decide) ?_; (conv => cbv))
    | (refine hk.ge0I (by first | omega | assumption) ?_; (conv => cbv))
    | (refine hk.needI (by first | (simp only [rNd, hk.sb_eq, hk.ad_eq]; omega) | (simp [rNd, hk.sb_eq, hk.ad_eq]; omega)) ?_; (conv => cbv))
    | (refine hk.callA (by assumption) ?_; (conv => cbv))
    | (refine hk.calldA (by assumption) ?_; (conv => cbv))
    | (rw [hk.sb0]; (conv => cbv))
    | (rw [hk.ad0]; (conv => cbv))
    | exact hk.finB (by first | rfl | (simp [hk.c2_lss, hk.c2_leq, hk.c2_gtr, hk.c2_geq, hk.c2_eql, hk.c2_neq, hk.bn_eq, hk.bq_eq]; done) | assumption)
    | exact hk.fin1 rfl)
  refine hk.loopI (loop_rule (α := Int) (fun k => [(4, .ls .nl .nil), (7, .sl 0 0 0 n), (8, .int .i64 k)]) (fun k => [.rw 0 (.il .i64 (F k))])
    (fun k => 1 ≤ k ∧ k ≤ n) (fun k => (n - k).toNat) 1 ⟨by omega, by omega⟩ ?_ ?_)
  · exact Gh.tm (by repeat (first | exact Holds.nil _ _ | refine Holds.cons (Wk.refl _ _) ?_))
  intro k ⟨hk1, hk2⟩ Q' hb hx hr
  have hs0 : sbt n 0 = n := by rw [hk.sb_eq]; omega
  by_cases hkn : k < n
  · obtain ⟨c, hc⟩ : ∃ c : Int, c = if k < n - k then k else n - k := ⟨_, rfl⟩
    have hc' : 1 ≤ c ∧ k + c ≤ n ∧ c ≤ k := by split at hc <;> omega
    have hst : sbt n k = n - k := hk.sb_eq _ _
    obtain ⟨m, hm⟩ : ∃ m, m = n - k := ⟨_, rfl⟩
    rw [← hm] at hst hc
    have hmc : mn m k = c := by rw [hk.mn_eq, hc]
    have had : ad k c = k + c := hk.ad_eq _ _
    have hadd : i2 .add .i64 k c = k + c := hk.add64 _ _ (by omega) (by omega)
    obtain ⟨k1, hk10⟩ : ∃ k1, k1 = k + c := ⟨_, rfl⟩
    rw [← hk10] at had hadd
    have hlF : lnI (F k) = n := by rw [hk.lnI_eq]; exact hFl k (by omega) hk2
    have hlS : lnI (sbI (F k) 0 k) = k := by
      have := hFl k (by omega) hk2
      rw [hk.lnI_eq, hsb]; simp only [rSub, List.length_take, List.length_drop]; omega
    have hrow : apI (apI (sbI (F k) 0 k) (sbI (sbI (F k) 0 k) 0 c)) (sbI (F k) k1 n) = F k1 := by
      rw [hk.apI_eq, hk.apI_eq, hsb, hsb, hsb, hk10]; exact hFs k c (by omega) (by omega) (by omega) (by omega)
    clear hc
    (conv => cbv)
    repeat' (first
      | assumption
      | (rw [hs0]; (conv => cbv))
      | (rw [hst]; (conv => cbv))
      | (rw [hlS]; (conv => cbv))
      | (rw [hmc]; (conv => cbv))
      | (rw [had]; (conv => cbv))
      | (rw [hlF]; (conv => cbv))
      | (rw [hrow]; (conv => cbv))
      | (rw [hadd]; (conv => cbv))
      | (refine hk.brLssT (by omega) ?_; (conv => cbv))
      | (refine hk.brLssF (by omega) ?_; (conv => cbv))
      | (refine hk.brLeqT (by omega) ?_; (conv => cbv))
      | (refine hk.brLeqF (by omega) ?_; (conv => cbv))
      | (refine hk.brGtrT (by omega) ?_; (conv => cbv))
      | (refine hk.brGtrF (by omega) ?_; (conv => cbv))
      | (refine hk.brGeqT (by omega) ?_; (conv => cbv))
      | (refine hk.brGeqF (by omega) ?_; (conv => cbv))
      | (refine hk.brEqlT (by omega) ?_; (conv => cbv))
      | (refine hk.brEqlF (by omega) ?_; (conv => cbv))
      | (refine hk.brNeqT (by omega) ?_; (conv => cbv))
      | (refine hk.brNeqF (by omega) ?_; (conv => cbv))
      | (refine hk.brLss (fun _ => ?_) (fun _ => ?_) <;> (conv => cbv))
      | (refine hk.brLeq (fun _ => ?_) (fun _ => ?_) <;> (conv => cbv))
      | (refine hk.brGtr (fun _ => ?_) (fun _ => ?_) <;> (conv => cbv))
      | (refine hk.brGeq (fun _ => ?_) (fun _ => ?_) <;> (conv => cbv))
      | (refine hk.brEql (fun _ => ?_) (fun _ => ?_) <;> (conv => cbv))
      | (refine hk.brNeq (fun _ => ?_) (fun _ => ?_) <;> (conv => cbv))
      | (refine hk.brNotT ?_; (conv => cbv))
      | (refine hk.brNotF ?_; (conv => cbv))
      | (refine hk.brNotS _ (by simp [hk.c2_lss, hk.c2_leq, hk.c2_gtr, hk.c2_geq, hk.c2_eql, hk.c2_neq, hk.bn_eq, hk.bq_eq]; rfl) ?_; (conv => cbv))
      | (refine hk.brBqS _ (by simp [hk.c2_lss, hk.c2_leq, hk.c2_gtr, hk.c2_geq, hk.c2_eql, hk.c2_neq, hk.bn_eq, hk.bq_eq]; rfl) ?_; (conv => cbv))
      | (refine hk.idxI (by first | omega | assumption) (by first | omega | assumption) ?_; (conv => cbv))
      | (refine hk.nzI (by first | omega | assumption | decide) ?_; (conv => cbv))
      | (refine hk.ge0I (by first | omega | assumption) ?_; (conv => cbv))
      | (refine hk.needI (by first | (simp only [rNd, hk.sb_eq, hk.ad_eq]; omega) | (simp [rNd, hk.sb_eq, hk.ad_eq]; omega)) ?_; (conv => cbv))
      | (refine hk.callA (by assumption) ?_; (conv => cbv))
      | (refine hk.calldA (by assumption) ?_; (conv => cbv))
      | (rw [hk.sb0]; (conv => cbv))
      | (rw [hk.ad0]; (conv => cbv))
      | exact hk.finB (by first | rfl | (simp [hk.c2_lss, hk.c2_leq, hk.c2_gtr, hk.c2_geq, hk.c2_eql, hk.c2_neq, hk.bn_eq, hk.bq_eq]; done) | assumption)
      | exact hk.fin1 rfl)
    refine hb k1 _ ⟨by omega, by omega⟩ (by omega) ?_
    refine Gh.tm ?_
    repeat' (first | exact Holds.nil _ _ | refine Holds.cons (Wk.refl _ _) ?_ | refine Holds.cons (Wk.of_eq ?_) ?_)
  · have : k = n := by omega
    subst this
    (conv => cbv)
    repeat' (first
      | assumption
      | (rw [hs0]; (conv => cbv))
      | (refine hx _ _ ?_; (conv => cbv))
      | (refine hk.brLssT (by omega) ?_; (conv => cbv))
      | (refine hk.brLssF (by omega) ?_; (conv => cbv))
      | (refine hk.brLeqT (by omega) ?_; (conv => cbv))
      | (refine hk.brLeqF (by omega) ?_; (conv => cbv))
      | (refine hk.brGtrT (by omega) ?_; (conv => cbv))
      | (refine hk.brGtrF (by omega) ?_; (conv => cbv))
      | (refine hk.brGeqT (by omega) ?_; (conv => cbv))
      | (refine hk.brGeqF (by omega) ?_; (conv => cbv))
      | (refine hk.brEqlT (by omega) ?_; (conv => cbv))
      | (refine hk.brEqlF (by omega) ?_; (conv => cbv))
      | (refine hk.brNeqT (by omega) ?_; (conv => cbv))
      | (refine hk.brNeqF (by omega) ?_; (conv => cbv))
      | (refine hk.brLss (fun _ => ?_) (fun _ => ?_) <;> (conv => cbv))
      | (refine hk.brLeq (fun _ => ?_) (fun _ => ?_) <;> (conv => cbv))
      | (refine hk.brGtr (fun _ => ?_) (fun _ => ?_) <;> (conv => cbv))
      | (refine hk.brGeq (fun _ => ?_) (fun _ => ?_) <;> (conv => cbv))
      | (refine hk.brEql (fun _ => ?_) (fun _ => ?_) <;> (conv => cbv))
      | (refine hk.brNeq (fun _ => ?_) (fun _ => ?_) <;> (conv => cbv))
      | (refine hk.brNotT ?_; (conv => cbv))
      | (refine hk.brNotF ?_; (conv => cbv))
      | (refine hk.brNotS _ (by simp [hk.c2_lss, hk.c2_leq, hk.c2_gtr, hk.c2_geq, hk.c2_eql, hk.c2_neq, hk.bn_eq, hk.bq_eq]; rfl) ?_; (conv => cbv))
      | (refine hk.brBqS _ (by simp [hk.c2_lss, hk.c2_leq, hk.c2_gtr, hk.c2_geq, hk.c2_eql, hk.c2_neq, hk.bn_eq, hk.bq_eq]; rfl) ?_; (conv => cbv))
      | (refine hk.idxI (by first | omega | assumption) (by first | omega | assumption) ?_; (conv => cbv))
      | (refine hk.nzI (by first | omega | assumption | decide) ?_; (conv => cbv))
      | (refine hk.ge0I (by first | omega | assumption) ?_; (conv => cbv))
      | (refine hk.needI (by first | (simp only [rNd, hk.sb_eq, hk.ad_eq]; omega) | (simp [rNd, hk.sb_eq, hk.ad_eq]; omega)) ?_; (conv => cbv))
      | (refine hk.callA (by assumption) ?_; (conv => cbv))
      | (refine hk.calldA (by assumption) ?_; (conv => cbv))
      | (rw [hk.sb0]; (conv => cbv))
      | (rw [hk.ad0]; (conv => cbv))
      | exact hk.finB (by first | rfl | (simp [hk.c2_lss, hk.c2_leq, hk.c2_gtr, hk.c2_geq, hk.c2_eql, hk.c2_neq, hk.bn_eq, hk.bq_eq]; done) | assumption)
      | exact hk.fin1 rfl)
end Go.Proofs.Ytnnpookoencpnaa
set_option maxHeartbeats 4000000
set_option maxRecDepth 20000
set_option linter.unusedSimpArgs false
set_option linter.unusedVariables false
open Go Go.AL
namespace Go.Proofs.Ytnnpookoencpnaa
theorem cloneR_spec (l : List Int) (n : Int) (hn : n = (l.length : Nat)) (h1 : 1 ≤ n) (h2 : n ≤ 1024) : Does PP 51 [LI l] [] (Is (.sl 0 1 0 n) [.rw 1 (.il .i64 l)]) := by
  refine doesFr (fun i => Nat.ble 64 i) P_ok Try.f51 (by kernel_rfl) (by kernel_rfl) ?_
  intro i2 c2 u1 cv mx mn ad sbt bn bq ba lnI gtI apI sbI stI rpI lnG gtG apG sbG stG rpG fi fb fs fl fg fc sln sgt sap ssb sc b2s s2b nd call calld callv callvd loop rfun fin hk
  have hln : lnI l = n := by rw [hk.lnI_eq]; omega
  have hl0 : lnI [] = 0 := hk.lnI_eq _
  have hap : apI [] l = l := hk.apI_eq _ _
  have had : ad 0 n = n := by rw [hk.ad_eq]; omega
  have hnd : nd (.appn 0 0 0 n 8) := hk.ndI ⟨rfl, rfl, by omega, by simp; omega, by omega⟩
  (conv => cbv)
  rw [hap, hln, hl0, had]
  exact ⟨hk.ndI (by simp only [rNd]; omega), hnd, hk.fin1 rfl⟩
theorem indexR_spec (l : List Int) (g : Nat) (n : Int) (fid : Nat) (d : Int) (gg : Int → Bool) (hn : n = (l.length : Nat)) (hn2 : n ≤ 1024) (hg : ∀ n h, Does PP fid [I d, .int .i64 n] h (Is (.bool (gg n)) h)) :
   Does PP 98 [.sl 0 g 0 n, .clo (.func fid) [I d] []] [.rw g (.il .i64 l)] (Is (I (findI gg l)) [.rw g (.il .i64 l)]) := by
  obtain ⟨r, hr0⟩ : ∃ r, r = findI gg l := ⟨_, rfl⟩
  rw [← hr0]
  obtain ⟨h0, hh0⟩ : ∃ h0 : Heap, h0 = [.rw g (.il .i64 l)] := ⟨_, rfl⟩
  have hg' := fun n => hg n [.rw g (.il .i64 l)]
  refine doesF P_ok Try.f98 (by kernel_rfl) (by kernel_rfl) ?_
  intro i2 c2 u1 cv mx mn ad sbt bn bq ba lnI gtI apI sbI stI rpI lnG gtG apG sbG stG rpG fi fb fs fl fg fc sln sgt sap ssb sc b2s s2b nd call calld callv callvd loop rfun fin hk
  have hln : lnI l = n := by rw [hk.lnI_eq]; omega
  have hgl := hk.gtI_eq l
  have hbq : Nat.beq g g = true := Nat.beq_refl g
  conv at hbq => cbv
  (conv => cbv)
  repeat' (first
    | assumption
    | (rw [hbq]; (conv => cbv))
    | (rw [hln]; (conv => cbv))
    | (refine hk.brLssT (by omega) ?_; (conv => cbv))
    | (refine hk.brLssF (by omega) ?_; (conv => cbv))
    | (refine hk.brLeqT (by omega) ?_; (conv => cbv))
    | (refine hk.brLeqF (by omega) ?_; (conv => cbv))
    | (refine hk.brGtrT (by omega) ?_; (conv => cbv))
    | (refine hk.brGtrF (by omega) ?_; (conv => cbv))
    | (refine hk.brGeqT (by omega) ?_; (conv => cbv))
    | (refine hk.brGeqF (by omega) ?_; (conv => cbv))
    | (refine hk.brEqlT (by omega) ?_; (conv => cbv))
    | (refine hk.brEqlF (by omega) ?_; (conv => cbv))
    | (refine hk.brNeqT (by omega) ?_; (conv => cbv))
    | (refine hk.brNeqF (by omega) ?_; (conv => cbv))
    | (refine hk.brLss (fun _ => ?_) (fun _ => ?_) <;> (conv => cbv))
    | (refine hk.brLeq (fun _ => ?_) (fun _ => ?_) <;> (conv => cbv))
    | (refine hk.brGtr (fun _ => ?_) (fun _ => ?_) <;> (conv => cbv))
    | (refine hk.brGeq (fun _ => ?_) (fun _ => ?_) <;> (conv => cbv))
    | (refine hk.brEql (fun _ => ?_) (fun _ => ?_) <;> (conv => cbv))
    | (refine hk.brNeq (fun _ => ?_) (fun _ => ?_) <;> (conv => cbv))
    | (refine hk.brNotT ?_; (conv => cbv))
    | (refine hk.brNotF ?_; (conv => cbv))
    | (refine hk.brNotS _ (by simp [hk.c2_lss, hk.c2_leq, hk.c2_gtr, hk.c2_geq, hk.c2_eql, hk.c2_neq, hk.bn_eq, hk.bq_eq]; rfl) ?_; (conv => cbv))
    | (refine hk.brBqS _ (by simp [hk.c2_lss, hk.c2_leq, hk.c2_gtr, hk.c2_geq, hk.c2_eql, hk.c2_neq, hk.bn_eq, hk.bq_eq]; rfl) ?_; (conv => cbv))
    | (refine hk.idxI (by first | omega | assumption) (by first | omega | assumption) ?_; (conv => cbv))
    | (refine hk.nzI (by first | omega | assumption | decide) ?_; (conv => cbv))
    | (refine hk.ge0I (by first | omega | assumption) ?_; (conv => cbv))
    | (refine hk.needI (by first | (simp only [rNd, hk.sb_eq, hk.ad_eq]; omega) | (simp [rNd, hk.sb_eq, hk.ad_eq]; omega)) ?_; (conv => cbv))
    | (refine hk.callA (by assumption) ?_; (conv => cbv))
    | (refine hk.calldA (by assumption) ?_; (conv => cbv))
    | (rw [hk.sb0]; (conv => cbv))
    | (rw [hk.ad0]; (conv => cbv))
    | exact hk.finB (by first | rfl | (simp [hk.c2_lss, hk.c2_leq, hk.c2_gtr, hk.c2_geq, hk.c2_eql, hk.c2_neq, hk.bn_eq, hk.bq_eq]; done) | assumption)
    | exact hk.fin1 rfl)
  refine hk.loopI (loop_rule (α := Int) (fun i => [(1, .clo (.func fid) [.int .i64 d] []), (0, .sl 0 g 0 n), (7, .int .i64 n), (8, .int .i64 i)]) (fun i => [.rw g (.il .i64 l)])
    (fun i => 0 ≤ i ∧ i ≤ n ∧ ∀ j, j < i.toNat → gg (l.getD j 0) = false) (fun i => (n - i).toNat) 0 ⟨by omega, by omega, upto_zero⟩ ?_ ?_)
  · exact Gh.tm (by repeat (first | exact Holds.nil _ _ | refine Holds.cons (Wk.refl _ _) ?_))
  intro i ⟨hi, hi2, hi3⟩ Q' hb hx hr
  (conv => cbv)
  refine hk.brLss (fun hlt => ?_) (fun hge => ?_)
  · obtain ⟨y, hy⟩ : ∃ y, y = gtI l i := ⟨_, rfl⟩
    obtain ⟨b, hb0⟩ : ∃ b, b = gg y := ⟨_, rfl⟩
    have hg'' := hg' y
    rw [← hb0] at hg''
    have hyl := hy
    rw [hgl] at hyl
    (conv => cbv)
    repeat' (first
      | assumption
      | (rw [hbq]; (conv => cbv))
      | (rw [hln]; (conv => cbv))
      | (refine hk.idxI hi hlt ?_; (conv => cbv))
      | (rw [← hy]; (conv => cbv))
      | (refine hk.callA hg'' ?_; (conv => cbv))
      | (refine hk.calldA (fun h => by have := hg y h; rw [← hb0] at this; exact this) ?_; (conv => cbv))
      | (refine hk.brLssT (by omega) ?_; (conv => cbv))
      | (refine hk.brLssF (by omega) ?_; (conv => cbv))
      | (refine hk.brLeqT (by omega) ?_; (conv => cbv))
      | (refine hk.brLeqF (by omega) ?_; (conv => cbv))
      | (refine hk.brGtrT (by omega) ?_; (conv => cbv))
      | (refine hk.brGtrF (by omega) ?_; (conv => cbv))
      | (refine hk.brGeqT (by omega) ?_; (conv => cbv))
      | (refine hk.brGeqF (by omega) ?_; (conv => cbv))
      | (refine hk.brEqlT (by omega) ?_; (conv => cbv))
      | (refine hk.brEqlF (by omega) ?_; (conv => cbv))
      | (refine hk.brNeqT (by omega) ?_; (conv => cbv))
      | (refine hk.brNeqF (by omega) ?_; (conv => cbv))
      | (refine hk.brLss (fun _ => ?_) (fun _ => ?_) <;> (conv => cbv))
      | (refine hk.brLeq (fun _ => ?_) (fun _ => ?_) <;> (conv => cbv))
      | (refine hk.brGtr (fun _ => ?_) (fun _ => ?_) <;> (conv => cbv))
      | (refine hk.brGeq (fun _ => ?_) (fun _ => ?_) <;> (conv => cbv))
      | (refine hk.brEql (fun _ => ?_) (fun _ => ?_) <;> (conv => cbv))
      | (refine hk.brNeq (fun _ => ?_) (fun _ => ?_) <;> (conv => cbv))
      | (refine hk.brNotT ?_; (conv => cbv))
      | (refine hk.brNotF ?_; (conv => cbv))
      | (refine hk.brNotS _ (by simp [hk.c2_lss, hk.c2_leq, hk.c2_gtr, hk.c2_geq, hk.c2_eql, hk.c2_neq, hk.bn_eq, hk.bq_eq]; rfl) ?_; (conv => cbv))
      | (refine hk.brBqS _ (by simp [hk.c2_lss, hk.c2_leq, hk.c2_gtr, hk.c2_geq, hk.c2_eql, hk.c2_neq, hk.bn_eq, hk.bq_eq]; rfl) ?_; (conv => cbv))
      | (refine hk.idxI (by first | omega | assumption) (by first | omega | assumption) ?_; (conv => cbv))
      | (refine hk.nzI (by first | omega | assumption | decide) ?_; (conv => cbv))
      | (refine hk.ge0I (by first | omega | assumption) ?_; (conv => cbv))
      | (refine hk.needI (by first | (simp only [rNd, hk.sb_eq, hk.ad_eq]; omega) | (simp [rNd, hk.sb_eq, hk.ad_eq]; omega)) ?_; (conv => cbv))
      | (refine hk.callA (by assumption) ?_; (conv => cbv))
      | (refine hk.calldA (by assumption) ?_; (conv => cbv))
      | (rw [hk.sb0]; (conv => cbv))
      | (rw [hk.ad0]; (conv => cbv))
      | exact hk.finB (by first | rfl | (simp [hk.c2_lss, hk.c2_leq, hk.c2_gtr, hk.c2_geq, hk.c2_eql, hk.c2_neq, hk.bn_eq, hk.bq_eq]; done) | assumption)
      | exact hk.fin1 rfl)
    cases b
    · (conv => cbv)
      repeat' (first
        | assumption
        | (refine hk.brLssT (by omega) ?_; (conv => cbv))
        | (refine hk.brLssF (by omega) ?_; (conv => cbv))
        | (refine hk.brLeqT (by omega) ?_; (conv => cbv))
        | (refine hk.brLeqF (by omega) ?_; (conv => cbv))
        | (refine hk.brGtrT (by omega) ?_; (conv => cbv))
        | (refine hk.brGtrF (by omega) ?_; (conv => cbv))
        | (refine hk.brGeqT (by omega) ?_; (conv => cbv))
        | (refine hk.brGeqF (by omega) ?_; (conv => cbv))
        | (refine hk.brEqlT (by omega) ?_; (conv => cbv))
        | (refine hk.brEqlF (by omega) ?_; (conv => cbv))
        | (refine hk.brNeqT (by omega) ?_; (conv => cbv))
        | (refine hk.brNeqF (by omega) ?_; (conv => cbv))
        | (refine hk.brLss (fun _ => ?_) (fun _ => ?_) <;> (conv => cbv))
        | (refine hk.brLeq (fun _ => ?_) (fun _ => ?_) <;> (conv => cbv))
        | (refine hk.brGtr (fun _ => ?_) (fun _ => ?_) <;> (conv => cbv))
        | (refine hk.brGeq (fun _ => ?_) (fun _ => ?_) <;> (conv => cbv))
        | (refine hk.brEql (fun _ => ?_) (fun _ => ?_) <;> (conv => cbv))
        | (refine hk.brNeq (fun _ => ?_) (fun _ => ?_) <;> (conv => cbv))
        | (refine hk.brNotT ?_; (conv => cbv))
        | (refine hk.brNotF ?_; (conv => cbv))
        | (refine hk.brNotS _ (by simp [hk.c2_lss, hk.c2_leq, hk.c2_gtr, hk.c2_geq, hk.c2_eql, hk.c2_neq, hk.bn_eq, hk.bq_eq]; rfl) ?_; (conv => cbv))
        | (refine hk.brBqS _ (by simp [hk.c2_lss, hk.c2_leq, hk.c2_gtr, hk.c2_geq, hk.c2_eql, hk.c2_neq, hk.bn_eq, hk.bq_eq]; rfl) ?_; (conv => cbv))
        | (refine hk.idxI (by first | omega | assumption) (by first | omega | assumption) ?_; (conv => cbv))
        | (refine hk.nzI (by first | omega | assumption | decide) ?_; (conv => cbv))
        | (refine hk.ge0I (by first | omega | assumption) ?_; (conv => cbv))
        | (refine hk.needI (by first | (simp only [rNd, hk.sb_eq, hk.ad_eq]; omega) | (simp [rNd, hk.sb_eq, hk.ad_eq]; omega)) ?_; (conv => cbv))
        | (refine hk.callA (by assumption) ?_; (conv => cbv))
        | (refine hk.calldA (by assumption) ?_; (conv => cbv))
        | (rw [hk.sb0]; (conv => cbv))
        | (rw [hk.ad0]; (conv => cbv))
        | exact hk.finB (by first | rfl | (simp [hk.c2_lss, hk.c2_leq, hk.c2_gtr, hk.c2_geq, hk.c2_eql, hk.c2_neq, hk.bn_eq, hk.bq_eq]; done) | assumption)
        | exact hk.fin1 rfl)
      refine hb (i + 1) _ ⟨by omega, by omega, upto_step hi hi3 (by rw [← hyl]; exact hb0.symm)⟩ (by omega) ?_
      refine Gh.tm ?_
      repeat' (first | exact Holds.nil _ _ | refine Holds.cons (Wk.refl _ _) ?_ | refine Holds.cons (Wk.of_eq ?_) ?_)
      all_goals first
        | (rw [← hk.add64 i 1 (by omega) (by omega)]; rfl)
        | rfl
        | skip
    · refine hr _ ?_
      (conv => cbv)
      exact hk.fin1 (congrArg _ (by rw [hr0]; exact find_some hi (by omega) hi3 (by rw [← hyl]; exact hb0.symm)))
  · refine hx _ _ ?_
    (conv => cbv)
    exact hk.fin1 (congrArg _ (by rw [hr0]; exact find_none (by omega) hi3))
end Go.Proofs.Ytnnpookoencpnaa
set_option maxHeartbeats 4000000
set_option maxRecDepth 20000
set_option linter.unusedSimpArgs false
set_option linter.unusedVariables false
open Go Go.AL
namespace Go.Proofs.Ytnnpookoencpnaa
theorem containsR_spec (l : List Int) (g : Nat) (n : Int) (fid : Nat) (d : Int) (gg : Int → Bool) (hn : n = (l.length : Nat)) (hn2 : n ≤ 1024) (hg : ∀ n h, Does PP fid [I d, .int .i64 n] h (Is (.bool (gg n)) h)) :
   Does PP 53 [.sl 0 g 0 n, .clo (.func fid) [I d] []] [.rw g (.il .i64 l)] (Is (.bool (l.any gg)) [.rw g (.il .i64 l)]) := by
  have hix := indexR_spec l g n fid d gg hn hn2 hg
  have hfa := find_any gg l
  obtain ⟨r, hr0⟩ : ∃ r, r = findI gg l := ⟨_, rfl⟩
  obtain ⟨b, hb0⟩ : ∃ b, b = l.any gg := ⟨_, rfl⟩
  rw [← hr0] at hix
  rw [← hr0, ← hb0] at hfa
  rw [← hb0]
  refine doesF P_ok Try.f53 (by kernel_rfl) (by kernel_rfl) ?_
  intro i2 c2 u1 cv mx mn ad sbt bn bq ba lnI gtI apI sbI stI rpI lnG gtG apG sbG stG rpG fi fb fs fl fg fc sln sgt sap ssb sc b2s s2b nd call calld callv callvd loop rfun fin hk
  (conv => cbv)
  refine hk.callA hix ?_
  (conv => cbv)
  refine hk.fin1 ?_
  show AVal.bool (c2 .geq r 0) = _
  rw [hk.c2_geq, hfa]
theorem sameR_spec (a b : List Int) (g : Nat) (n : Int) (hn : n = (a.length : Nat)) (hn2 : n ≤ 1024) (hb : b.length ≤ 9223372036854775807) :
    Does PP 16 [.sl 0 g 0 n, LI b] [.rw g (.il .i64 a)] (Is (.bool (decide (a = b))) [.rw g (.il .i64 a)]) := by
  obtain ⟨r, hr0⟩ : ∃ r, r = decide (a = b) := ⟨_, rfl⟩
  rw [← hr0]
  obtain ⟨m, hm⟩ : ∃ m : Int, m = (b.length : Nat) := ⟨_, rfl⟩
  refine doesF P_ok Try.f16 (by kernel_rfl) (by kernel_rfl) ?_
  intro i2 c2 u1 cv mx mn ad sbt bn bq ba lnI gtI apI sbI stI rpI lnG gtG apG sbG stG rpG fi fb fs fl fg fc sln sgt sap ssb sc b2s s2b nd call calld callv callvd loop rfun fin hk
  have hlna : lnI a = n := by rw [hk.lnI_eq]; omega
  have hlnb : lnI b = m := by rw [hk.lnI_eq]; omega
  have hga := hk.gtI_eq a
  have hgb := hk.gtI_eq b
  have hbq : Nat.beq g g = true := Nat.beq_refl g
  conv at hbq => cbv
  have hs0 : sbt n 0 = n := by rw [hk.sb_eq]; omega
  (conv => cbv)
  repeat' (first
    | assumption
    | (rw [hbq]; (conv => cbv))
    | (rw [hs0]; (conv => cbv))
    | (rw [hlna]; (conv => cbv))
    | (rw [hlnb]; (conv => cbv))
    | (refine hk.brLssT (by omega) ?_; (conv => cbv))
    | (refine hk.brLssF (by omega) ?_; (conv => cbv))
    | (refine hk.brLeqT (by omega) ?_; (conv => cbv))
    | (refine hk.brLeqF (by omega) ?_; (conv => cbv))
    | (refine hk.brGtrT (by omega) ?_; (conv => cbv))
    | (refine hk.brGtrF (by omega) ?_; (conv => cbv))
    | (refine hk.brGeqT (by omega) ?_; (conv => cbv))
    | (refine hk.brGeqF (by omega) ?_; (conv => cbv))
    | (refine hk.brEqlT (by omega) ?_; (conv => cbv))
    | (refine hk.brEqlF (by omega) ?_; (conv => cbv))
    | (refine hk.brNeqT (by omega) ?_; (conv => cbv))
    | (refine hk.brNeqF (by omega) ?_; (conv => cbv))
    | (refine hk.brLss (fun _ => ?_) (fun _ => ?_) <;> (conv => cbv))
    | (refine hk.brLeq (fun _ => ?_) (fun _ => ?_) <;> (conv => cbv))
    | (refine hk.brGtr (fun _ => ?_) (fun _ => ?_) <;> (conv => cbv))
    | (refine hk.brGeq (fun _ => ?_) (fun _ => ?_) <;> (conv => cbv))
    | (refine hk.brEql (fun _ => ?_) (fun _ => ?_) <;> (conv => cbv))
    | (refine hk.brNeq (fun _ => ?_) (fun _ => ?_) <;> (conv => cbv))
    | (refine hk.brNotT ?_; (conv => cbv))
    | (refine hk.brNotF ?_; (conv => cbv))
    | (refine hk.brNotS _ (by simp [hk.c2_lss, hk.c2_leq, hk.c2_gtr, hk.c2_geq, hk.c2_eql, hk.c2_neq, hk.bn_eq, hk.bq_eq]; rfl) ?_; (conv => cbv))
    | (refine hk.brBqS _ (by simp [hk.c2_lss, hk.c2_leq, hk.c2_gtr, hk.c2_geq, hk.c2_eql, hk.c2_neq, hk.bn_eq, hk.bq_eq]; rfl) ?_; (conv => cbv))
    | (refine hk.idxI (by first | omega | assumption) (by first | omega | assumption) ?_; (conv => cbv))
    | (refine hk.nzI (by first | omega | assumption | decide) ?_; (conv => cbv))
    | (refine hk.ge0I (by first | omega | assumption) ?_; (conv => cbv))
    | (refine hk.needI (by first | (simp only [rNd, hk.sb_eq, hk.ad_eq]; omega) | (simp [rNd, hk.sb_eq, hk.ad_eq]; omega)) ?_; (conv => cbv))
    | (refine hk.callA (by assumption) ?_; (conv => cbv))
    | (refine hk.calldA (by assumption) ?_; (conv => cbv))
    | (rw [hk.sb0]; (conv => cbv))
    | (rw [hk.ad0]; (conv => cbv))
    | exact hk.finB (by first | rfl | (simp [hk.c2_lss, hk.c2_leq, hk.c2_gtr, hk.c2_geq, hk.c2_eql, hk.c2_neq, hk.bn_eq, hk.bq_eq]; done) | assumption)
    | exact hk.fin1 rfl)
  · exact hk.fin1 (congrArg _ (by rw [hr0, eq_comm, decide_eq_false_iff_not]; intro e; rw [e] at hn; omega))
  · have hnm : n = m := by omega
    refine hk.loopI (loop_rule (α := Int) (fun i => [(0, .sl 0 g 0 n), (1, .ls (.il .i64 b) .any), (4, .bool false), (12, .int .i64 n), (13, .int .i64 i)]) (fun i => [.rw g (.il .i64 a)])
      (fun i => 0 ≤ i ∧ i ≤ n ∧ ∀ j, j < i.toNat → a.getD j 0 = b.getD j 0) (fun i => (n - i).toNat) 0 ⟨by omega, by omega, upto_zero⟩ ?_ ?_)
    · exact Gh.tm (by repeat (first | exact Holds.nil _ _ | refine Holds.cons (Wk.refl _ _) ?_))
    intro i ⟨hi, hi2, hi3⟩ Q' hb hx hr
    (conv => cbv)
    refine hk.brLss (fun hlt => ?_) (fun hge => ?_)
    · obtain ⟨x, hx0⟩ : ∃ x, x = gtI a i := ⟨_, rfl⟩
      obtain ⟨y, hy0⟩ : ∃ y, y = gtI b i := ⟨_, rfl⟩
      have hxl := hx0
      have hyl := hy0
      rw [hga] at hxl
      rw [hgb] at hyl
      have had : ad 0 i = i := by rw [hk.ad_eq]; omega
      (conv => cbv)
      repeat' (first
        | assumption
        | (rw [hbq]; (conv => cbv))
        | (rw [hs0]; (conv => cbv))
        | (rw [had]; (conv => cbv))
        | (rw [hlna]; (conv => cbv))
        | (rw [hlnb]; (conv => cbv))
        | (refine hk.idxI hi hlt ?_; (conv => cbv))
        | (refine hk.idxI hi (by omega) ?_; (conv => cbv))
        | (rw [← hx0]; (conv => cbv))
        | (rw [← hy0]; (conv => cbv))
        | (refine hk.brLssT (by omega) ?_; (conv => cbv))
        | (refine hk.brLssF (by omega) ?_; (conv => cbv))
        | (refine hk.brLeqT (by omega) ?_; (conv => cbv))
        | (refine hk.brLeqF (by omega) ?_; (conv => cbv))
        | (refine hk.brGtrT (by omega) ?_; (conv => cbv))
        | (refine hk.brGtrF (by omega) ?_; (conv => cbv))
        | (refine hk.brGeqT (by omega) ?_; (conv => cbv))
        | (refine hk.brGeqF (by omega) ?_; (conv => cbv))
        | (refine hk.brEqlT (by omega) ?_; (conv => cbv))
        | (refine hk.brEqlF (by omega) ?_; (conv => cbv))
        | (refine hk.brNeqT (by omega) ?_; (conv => cbv))
        | (refine hk.brNeqF (by omega) ?_; (conv => cbv))
        | (refine hk.brLss (fun _ => ?_) (fun _ => ?_) <;> (conv => cbv))
        | (refine hk.brLeq (fun _ => ?_) (fun _ => ?_) <;> (conv => cbv))
        | (refine hk.brGtr (fun _ => ?_) (fun _ => ?_) <;> (conv => cbv))
        | (refine hk.brGeq (fun _ => ?_) (fun _ => ?_) <;> (conv => cbv))
        | (refine hk.brEql (fun _ => ?_) (fun _ => ?_) <;> (conv => cbv))
        | (refine hk.brNeq (fun _ => ?_) (fun _ => ?_) <;> (conv => cbv))
        | (refine hk.brNotT ?_; (conv => cbv))
        | (refine hk.brNotF ?_; (conv => cbv))
        | (refine hk.brNotS _ (by simp [hk.c2_lss, hk.c2_leq, hk.c2_gtr, hk.c2_geq, hk.c2_eql, hk.c2_neq, hk.bn_eq, hk.bq_eq]; rfl) ?_; (conv => cbv))
        | (refine hk.brBqS _ (by simp [hk.c2_lss, hk.c2_leq, hk.c2_gtr, hk.c2_geq, hk.c2_eql, hk.c2_neq, hk.bn_eq, hk.bq_eq]; rfl) ?_; (conv => cbv))
        | (refine hk.idxI (by first | omega | assumption) (by first | omega | assumption) ?_; (conv => cbv))
        | (refine hk.nzI (by first | omega | assumption | decide) ?_; (conv => cbv))
        | (refine hk.ge0I (by first | omega | assumption) ?_; (conv => cbv))
        | (refine hk.needI (by first | (simp only [rNd, hk.sb_eq, hk.ad_eq]; omega) | (simp [rNd, hk.sb_eq, hk.ad_eq]; omega)) ?_; (conv => cbv))
        | (refine hk.callA (by assumption) ?_; (conv => cbv))
        | (refine hk.calldA (by assumption) ?_; (conv => cbv))
        | (rw [hk.sb0]; (conv => cbv))
        | (rw [hk.ad0]; (conv => cbv))
        | exact hk.finB (by first | rfl | (simp [hk.c2_lss, hk.c2_leq, hk.c2_gtr, hk.c2_geq, hk.c2_eql, hk.c2_neq, hk.bn_eq, hk.bq_eq]; done) | assumption)
        | exact hk.fin1 rfl)
      · refine hr _ ?_
        (conv => cbv)
        exact hk.fin1 (congrArg _ (by rw [hr0, eq_comm, decide_eq_false_iff_not]; intro e; rw [e] at hxl; exact (‹¬ x = y›) (hxl.trans hyl.symm)))
      · refine hb (i + 1) _ ⟨by omega, by omega, upto_step hi hi3 (by rw [← hxl, ← hyl]; assumption)⟩ (by omega) ?_
        refine Gh.tm ?_
        repeat' (first | exact Holds.nil _ _ | refine Holds.cons (Wk.refl _ _) ?_ | refine Holds.cons (Wk.of_eq ?_) ?_)
        all_goals first
          | (rw [← hk.add64 i 1 (by omega) (by omega)]; rfl)
          | rfl
          | skip
    · refine hx _ _ ?_
      (conv => cbv)
      exact hk.fin1 (congrArg _ (by
        rw [hr0, eq_comm, decide_eq_true_eq]
        exact list_ext (by omega) fun j hj => hi3 j (by omega)))
end Go.Proofs.Ytnnpookoencpnaa
