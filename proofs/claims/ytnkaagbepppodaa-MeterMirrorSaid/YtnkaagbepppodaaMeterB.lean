/-
  Contracts of functions of the program, proved over the abstract machine of the Al texts.
-/
import Derived.Test.YtnkaagbepppodaaMeterA
set_option maxHeartbeats 1000000
open Go Go.AL
namespace Go.Proofs.Ytnkaagbepppodaa
theorem any_true {l : List Int} {g : Int → Bool} {i : Nat} (h : i < l.length) (hg : g (l.getD i 0) = true) : l.any g = true := by
  rw [List.getD_eq_getElem?_getD, List.getElem?_eq_getElem h] at hg
  exact List.any_eq_true.2 ⟨l[i], List.getElem_mem h, hg⟩
theorem any_false {l : List Int} {g : Int → Bool} {i : Nat} (h : l.length ≤ i) (hg : ∀ j, j < i → g (l.getD j 0) = false) : l.any g = false := by
  rw [List.any_eq_false]
  intro x hx
  obtain ⟨j, hj, rfl⟩ := List.mem_iff_getElem.1 hx
  have := hg j (by omega)
  rw [List.getD_eq_getElem?_getD, List.getElem?_eq_getElem hj] at this
  simpa using this
theorem loudf_t1 {n : Int} (h : n > 67108864) : loudf n = true := by simp [loudf, h]
theorem loudf_t2 {n : Int} (h : n < -67108864) : loudf n = true := by simp [loudf, h]
theorem loudf_f {n : Int} (h : ¬ n > 67108864) (h2 : ¬ n < -67108864) : loudf n = false := by simp [loudf]; omega
theorem rcheck_spec (l : List Int) (h : Heap) (hl : l.length < 4611686018427387904) : Does PP 14 [.ls (.il .i64 l) .any] h (Is (.int .i64 (chk l)) h) := by
  obtain ⟨r, hr0⟩ : ∃ r, r = chk l := ⟨_, rfl⟩
  rw [← hr0]
  refine doesF P_ok Try.f14 (by kernel_rfl) (by kernel_rfl) ?_
  intro i2 c2 u1 cv mx mn ad sbt bn bq ba lnI gtI apI sbI stI rpI lnG gtG apG sbG stG rpG fi fb fs fl fg fc sln sgt sap ssb sc b2s s2b nd call calld callv callvd loop rfun fin hk
  have h65 : lnI l > 65536 ↔ l.length > 65536 := by rw [hk.lnI_eq]; omega
  have hn := hk.lnI_nn l
  have hl := hk.lnI_lt l 4611686018427387904 (by omega)
  cbv
  split <;> cbv
  · rename_i h1
    rw [hk.c2_gtr, decide_eq_true_eq] at h1
    exact hk.fin1 (by rw [hr0, chk, if_pos (h65.1 h1)])
  · rename_i h1
    rw [hk.c2_gtr, decide_eq_false_iff_not] at h1
    have h1 := fun h => h1 (h65.2 h)
    refine hk.loopI (loop_rule (α := Int) (fun i => [(0, .ls (.il .i64 l) .any), (8, .int .i64 (lnI l)), (9, .int .i64 i)]) (fun i => h)
      (fun i => 0 ≤ i ∧ i ≤ lnI l ∧ ∀ j, j < i.toNat → loudf (l.getD j 0) = false) (fun i => (lnI l - i).toNat) 0 ⟨by omega, by omega, upto_zero⟩ ?_ ?_)
    · exact Gh.tm (by repeat (first | exact Holds.nil _ _ | refine Holds.cons (Wk.refl _ _) ?_))
    intro i ⟨hi, hi2, hi3⟩ Q' hb hx hr
    cbv
    split
    · rename_i hlt
      rw [hk.c2_lss, decide_eq_true_eq] at hlt
      refine ⟨hk.idx hi hlt, ?_⟩
      cbv
      have hlen := hk.lt_lnI l i hi hlt
      have back : loudf (l.getD i.toNat 0) = false → 0 ≤ i + 1 ∧ i + 1 ≤ lnI l ∧ ∀ j, j < (i + 1).toNat → loudf (l.getD j 0) = false := fun h => ⟨by omega, by omega, upto_step hi hi3 h⟩
      have hadd := hk.add64 i 1 (by omega) (by omega)
      split <;> cbv
      · rename_i hg1
        rw [hk.c2_gtr, hk.gtI_eq, decide_eq_true_eq] at hg1
        refine hr _ ?_
        cbv
        exact hk.fin1 (by rw [hr0, chk, if_neg h1, any_true hlen (loudf_t1 hg1)]; rfl)
      · rename_i hg1
        rw [hk.c2_gtr, hk.gtI_eq, decide_eq_false_iff_not] at hg1
        refine ⟨hk.idx hi hlt, ?_⟩
        cbv
        split <;> cbv
        · rename_i hg2
          rw [hk.c2_lss, hk.gtI_eq, decide_eq_true_eq] at hg2
          refine hr _ ?_
          cbv
          exact hk.fin1 (by rw [hr0, chk, if_neg h1, any_true hlen (loudf_t2 hg2)]; rfl)
        · rename_i hg2
          rw [hk.c2_lss, hk.gtI_eq, decide_eq_false_iff_not] at hg2
          refine hb (i + 1) _ (back (loudf_f hg1 hg2)) (by omega) (Gh.tm ?_)
          refine Holds.cons (Wk.refl _ _) <| Holds.cons (Wk.refl _ _) <| Holds.cons (Wk.of_eq ?_) <| Holds.nil _ _
          rw [← hadd]
          rfl
    · rename_i hge
      rw [hk.c2_lss, decide_eq_false_iff_not] at hge
      refine hx _ _ ?_
      cbv
      exact hk.fin1 (by rw [hr0, chk, if_neg h1, any_false (by rw [← hk.lnI_toNat l]; omega) hi3]; rfl)
end Go.Proofs.Ytnkaagbepppodaa
