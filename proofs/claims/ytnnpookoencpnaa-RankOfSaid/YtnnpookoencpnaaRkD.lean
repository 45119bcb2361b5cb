/-
  Contracts of functions of the program, proved over the abstract machine of the Al texts.
-/
import Derived.Test.YtnnpookoencpnaaRkC
set_option maxHeartbeats 4000000
set_option maxRecDepth 20000
set_option linter.unusedSimpArgs false
set_option linter.unusedVariables false
open Go Go.AL
namespace Go.Proofs.Ytnnpookoencpnaa
theorem values_spec (l : List Int) (lp : LoopA) (Hf : Nat → Heap) (n : Nat) (hn : n = l.length) (hl8 : l.length ≤ 8) (h0 : Hf 0 = [.box [LI l], .box [.ls .nl .nil], .loop lp])
    (hy : ∀ k : Nat, k < n → DoesV PP (.yld 2) [I (l.getD k 0)] (Hf k) (Is (.bool true) (Hf (k + 1)))) :
    Does PP 108 [.yld 2, .ptr 0 0] [.box [LI l], .box [.ls .nl .nil], .loop lp] (Is (.tup []) (Hf n)) := by
  refine doesF P_ok Try.f108 (by kernel_rfl) (by kernel_rfl) ?_
  intro i2 c2 u1 cv mx mn ad sbt bn bq ba lnI gtI apI sbI stI rpI lnG gtG apG sbG stG rpG fi fb fs fl fg fc sln sgt sap ssb sc b2s s2b nd call calld callv callvd loop rfun fin hk
  have hlen := hk.lnI_toNat l
  have hnn := hk.lnI_nn l
  have h8 : lnI l ≤ 8 := hk.lnI_le l 8 (by omega)
  cbv
  refine hk.loopI (loop_rule (α := Nat × Int) (fun x => [(0, .yld 2), (5, .ls (.il .i64 l) .any), (6, .int .i64 (lnI l)), (7, .int .i64 x.2)]) (fun x => Hf x.1)
    (fun x => 0 ≤ x.2 ∧ x.2.toNat = x.1 ∧ x.1 ≤ n) (fun x => n - x.1) (0, 0) ⟨by omega, rfl, by simp⟩ ?_ ?_)
  · rw [h0]
    exact Gh.tm (by repeat (first | exact Holds.nil _ _ | refine Holds.cons (Wk.refl _ _) ?_))
  intro ⟨k, i⟩ ⟨hi, hik, hkn⟩ Q' hb hx hr
  simp only at hi hik hkn
  cbv
  split
  · rename_i hlt
    rw [hk.c2_lss, decide_eq_true_eq] at hlt
    refine ⟨hk.idx hi hlt, ?_⟩
    cbv
    have hgi := hk.gtI_eq l i
    rw [hik] at hgi
    have hkl : k < n := by omega
    rw [hgi]
    refine hk.callvI (hy k hkl) fun r h' ⟨e1, e2⟩ => ?_
    subst e1
    subst e2
    have hbt : bn true = false := by rw [hk.bn_eq]; rfl
    cbv
    rw [hbt]
    cbv
    refine hb (k + 1, i + 1) _ ⟨by simp only; omega, by simp only; omega, by simp only; omega⟩ (by simp only; omega) ?_
    refine Gh.tm ?_
    repeat' (first | exact Holds.nil _ _ | refine Holds.cons (Wk.refl _ _) ?_ | refine Holds.cons (Wk.of_eq ?_) ?_)
    all_goals first
      | (rw [← hk.add64 i 1 (by omega) (by omega)]; rfl)
      | rfl
      | skip
  · rename_i hge
    rw [hk.c2_lss, decide_eq_false_iff_not] at hge
    have hkn2 : k = n := by omega
    subst hkn2
    refine hx _ _ ?_
    cbv
    exact hk.fin1 rfl
/-- The heap ahead of round k. -/
def hfA (l : List Int) (lp : LoopA) : Nat → Heap
  | 0 => [.box [LI l], .box [.ls .nl .nil], .loop lp]
  | k + 1 => [.box [LI l], .box [.sl 4 (k + 1) 0 ((k + 1 : Nat) : Int)], .loop lp, .tok 0, .rw (k + 1) (.il .i64 (l.take (k + 1)))]
theorem appendSeq_spec (l : List Int) (n : Nat) (z : Int) (hn : l.length = n + 1) (hz : z = ((n + 1 : Nat) : Int)) (hl8 : l.length ≤ 8) : Does PP 133 [.ls .nl .nil, .clo (.func 108) [] [.ptr 0 0]] [.box [LI l]]
    (Is (.sl 4 (n + 1) 0 z) [.box [LI l], .box [.sl 4 (n + 1) 0 z], .dead 0, .tok 0, .rw (n + 1) (.il .i64 l)]) := by
  refine doesFr (fun _ => true) P_ok Try.f133 (by kernel_rfl) (by kernel_rfl) ?_
  intro i2 c2 u1 cv mx mn ad sbt bn bq ba lnI gtI apI sbI stI rpI lnG gtG apG sbG stG rpG fi fb fs fl fg fc sln sgt sap ssb sc b2s s2b nd call calld callv callvd loop rfun fin hk
  have hlt : l.take (n + 1) = l := by rw [← hn]; exact List.take_length
  cbv
  refine hk.rfunI ⟨108, [], [.ptr 0 0], [(2, .ptr 1 0), (4, .ls .nl .nil)], rfl, ?_, ?_⟩
  · exact fun t e c hg he hv => (Holds.get (by repeat (first | exact Holds.nil _ _ | refine Holds.cons (Wk.refl _ _) ?_)) t) e c hg he hv
  · refine (values_spec l _ (hfA l _) (n + 1) hn.symm hl8 rfl (fun k hk' => ?_)).mono fun r h ⟨e1, e2⟩ => ?_
    · clear hk
      have hkl : k < l.length := by omega
      have htk : l.take (k + 1) = l.take k ++ [l.getD k 0] := by
        rw [List.take_add_one]
        simp [List.getD, hkl]
      cases k with
      | zero =>
        simp only [hfA]
        obtain ⟨x, hx⟩ : ∃ x, x = l.getD 0 0 := ⟨_, rfl⟩
        rw [List.take_zero, List.nil_append, ← hx] at htk
        rw [Nat.zero_add] at htk ⊢
        rw [htk, ← hx]
        refine doesYr P_ok (fun _ => true) 2 _ rfl rfl (by kernel_rfl) ?_
        intro i2 c2 u1 cv mx mn ad sbt bn bq ba lnI gtI apI sbI stI rpI lnG gtG apG sbG stG rpG fi fb fs fl fg fc sln sgt sap ssb sc b2s s2b nd call calld callv callvd loop rfun fin hk
        have ha1 : apI [] [x] = [x] := by rw [hk.apI_eq]; rfl
        have hl1 : lnI [x] = 1 := hk.lnI_eq _
        have hr1 : nd (.room (ad 0 1) 8) := hk.ndI (by rw [hk.ad_eq]; simp [rNd])
        cbv
        rw [ha1, hl1]
        exact ⟨hr1, rfl⟩
      | succ k =>
        simp only [hfA]
        obtain ⟨x, hx⟩ : ∃ x, x = l.getD (k + 1) 0 := ⟨_, rfl⟩
        obtain ⟨K, hK⟩ : ∃ K, K = l.take (k + 1) := ⟨_, rfl⟩
        obtain ⟨i, hi⟩ : ∃ i : Int, i = ((k + 1 : Nat) : Int) := ⟨_, rfl⟩
        have hi2 : ((k + 1 + 1 : Nat) : Int) = i + 1 := by omega
        obtain ⟨i1, hi1⟩ : ∃ i1, i1 = i + 1 := ⟨_, rfl⟩
        have hKl : (K.length : Int) = i := by rw [hK, List.length_take]; omega
        have hi8 : 0 ≤ i ∧ i ≤ 8 := by omega
        rw [htk, hi2, ← hi1, ← hi, ← hK, ← hx]
        clear hi hi2
        obtain ⟨R, hR⟩ : ∃ R : LoopA → AVal → Heap → Prop, R = fun lp r h' => rFin 5 (Is (.bool true) [.box [LI l], .box [.sl 4 (k + 1 + 1) 0 i1], .loop lp, .tok 0, .rw (k + 1 + 1) (.il .i64 (K ++ [x]))]) r h' := ⟨_, rfl⟩
        refine DoesV.fin (R := R _) ?_ (fun r h' h => by rw [hR] at h; exact h)
        refine doesYr P_ok (fun _ => true) 2 _ rfl rfl (by kernel_rfl) ?_
        intro i2 c2 u1 cv mx mn ad sbt bn bq ba lnI gtI apI sbI stI rpI lnG gtG apG sbG stG rpG fi fb fs fl fg fc sln sgt sap ssb sc b2s s2b nd call calld callv callvd loop rfun fin hk
        have hbq : Nat.beq (k + 1) (k + 1) = true := Nat.beq_refl _
        cbv at hbq
        have hlK : lnI K = i := by rw [hk.lnI_eq]; exact hKl
        have hlx : lnI [x] = 1 := hk.lnI_eq _
        have hap : apI K [x] = K ++ [x] := hk.apI_eq _ _
        obtain ⟨K1, hK1⟩ : ∃ K1, K1 = K ++ [x] := ⟨_, rfl⟩
        have hlK1 : lnI K1 = i1 := by rw [hk.lnI_eq, hK1, List.length_append, hi1, ← hKl]; rfl
        have hnd : nd (.appn 0 i i (ad i 1) 8) := hk.ndI (by rw [hk.ad_eq]; exact ⟨rfl, rfl, by omega, by simp; omega, by omega⟩)
        rw [← hK1] at hap
        clear hKl
        cbv
        rw [hbq]
        cbv
        rw [hap, hlK, hlx, hlK1]
        refine ⟨hnd, ?_⟩
        rw [hR]
        exact fin_low (.refl _ _) rfl rfl ⟨rfl, by rw [hK1]; rfl⟩
    · have hfe : ∀ lp, hfA l lp (n + 1) = [.box [LI l], .box [.sl 4 (n + 1) 0 z], .loop lp, .tok 0, .rw (n + 1) (.il .i64 l)] := fun lp => by rw [hz]; simp [hfA, hlt]
      rw [hfe] at e2
      subst e2
      unfold rAfter
      cbv
      exact ⟨fun h => (nomatch h), hk.fin1 rfl⟩
end Go.Proofs.Ytnnpookoencpnaa
