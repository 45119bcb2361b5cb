/-
  Contracts of functions of the program, proved over the abstract machine of the Al texts.
-/
import Derived.Test.YtnkaagbepppodaaMeterD
import Derived.Test.YtnkaagbepppodaaAlArgs
set_option maxHeartbeats 4000000
open Go Go.AL
namespace Go.Proofs.Ytnkaagbepppodaa
theorem awake_spec (h : Heap) : Does PP 12 [] h (Is (.bool true) h) := by
  refine pure0 (doesF P_ok Try.f12 (by kernel_rfl) (by kernel_rfl) ?_) rfl rfl h
  have e1 : ofA [3, -4, 0] = .tup [.agg [.int .i64 4, .int .i64 (-1), .int .i64 25, .int .i64 2], .int .i64 0] := by kernel_rfl
  have hof := of_spec [3, -4, 0]
  rw [e1] at hof
  intro i2 c2 u1 cv mx mn ad sbt bn bq ba lnI gtI apI sbI stI rpI lnG gtG apG sbG stG rpG fi fb fs fl fg fc sln sgt sap ssb sc b2s s2b nd call calld callv callvd loop rfun fin hk
  cbv
  refine hk.call1 ((hof _ (by decide)).wk (.cons (.any _ _ _) .nil)) ?_
  cbv
  split <;> cbv
  · exact hk.fin0 rfl rfl (Wk.of_eq (by simp [hk.ba_eq, hk.c2_eql]))
  · rename_i h1
    exact absurd h1 (by rw [hk.c2_eql]; decide)
theorem chk_zero {l : List Int} (h : chk l = 0) : l.length ≤ 65536 ∧ ∀ j, j < l.length → loudf (l.getD j 0) = false := by
  unfold chk at h
  split at h
  · cases h
  · rename_i h1
    split at h
    · cases h
    · rename_i h2
      refine ⟨by omega, fun j hj => ?_⟩
      have h2 : l.any loudf = false := by simpa using h2
      rw [List.any_eq_false] at h2
      rw [List.getD_eq_getElem?_getD, List.getElem?_eq_getElem hj]
      simpa using h2 l[j] (List.getElem_mem hj)
theorem size_eq {n : Int} (h : loudf n = false) : wsize n = rsize n := by
  simp only [loudf, Bool.or_eq_false_iff, decide_eq_false_iff_not] at h
  rw [wsize, rsize, wrap64 (by omega) (by omega)]
  split <;> split <;> omega
theorem turn_eq (l : List Int) (k : Nat) : turnP l k = turnB l k := by
  unfold turnP turnB
  generalize l.getD k 0 = a
  generalize l.getD (k - 1) 0 = b
  by_cases h1 : a < 0
  · by_cases h2 : b < 0
    · have h3 : ¬ a ≥ 0 := by omega
      have h4 : ¬ b ≥ 0 := by omega
      simp only [h1, h2, h3, h4, decide_true, decide_false]; rfl
    · have h3 : ¬ a ≥ 0 := by omega
      have h4 : b ≥ 0 := by omega
      simp only [h1, h2, h3, h4, decide_true, decide_false]; rfl
  · by_cases h2 : b < 0
    · have h3 : a ≥ 0 := by omega
      have h4 : ¬ b ≥ 0 := by omega
      simp only [h1, h2, h3, h4, decide_true, decide_false]; rfl
    · have h3 : a ≥ 0 := by omega
      have h4 : b ≥ 0 := by omega
      simp only [h1, h2, h3, h4, decide_true, decide_false]; rfl
theorem plevs_eq {l : List Int} (h : chk l = 0) : ∀ k, k ≤ l.length → plevs l k = levs l k ∧ 0 ≤ (levs l k).2.2.2 ∧ (levs l k).2.2.2 ≤ k
  | 0, _ => ⟨rfl, Int.le_refl 0, Int.le_refl 0⟩
  | k + 1, hk => by
    obtain ⟨h1, h2⟩ := chk_zero h
    obtain ⟨e, e0, e1⟩ := plevs_eq h k (by omega)
    have w0 : IntKind.wrap .i64 ((levs l k).2.2.2 + 0) = (levs l k).2.2.2 := by rw [wrap64 (by omega) (by omega)]; omega
    have w1 : IntKind.wrap .i64 ((levs l k).2.2.2 + 1) = (levs l k).2.2.2 + 1 := wrap64 (by omega) (by omega)
    refine ⟨?_, ?_, ?_⟩
    · rw [plevs, levs, e, pstep, lstep, size_eq (h2 k (by omega)), turn_eq, w0]
    · rw [levs, lstep]
      simp only []
      split
      · rw [w1]; omega
      · exact e0
    · rw [levs, lstep]
      simp only []
      split
      · rw [w1]; omega
      · omega
theorem levels_spec (l : List Int) (h : Heap) : Does PP 3 [.ls (.il .i64 l) .any] h (Is (.bool true) h) := by
  refine pure0 (doesF P_ok Try.f3 (by kernel_rfl) (by kernel_rfl) ?_) rfl rfl h
  intro i2 c2 u1 cv mx mn ad sbt bn bq ba lnI gtI apI sbI stI rpI lnG gtG apG sbG stG rpG fi fb fs fl fg fc sln sgt sap ssb sc b2s s2b nd call calld callv callvd loop rfun fin hk
  obtain ⟨c, hc⟩ : ∃ c, c = chk l := ⟨_, rfl⟩
  have hof := of_spec l
  have hchk := rcheck_spec l
  have hrof := rof_spec l
  have hlen : ¬ lnI l > 200 → l.length < 4611686018427387904 := by rw [hk.lnI_eq]; omega
  rw [← hc] at hchk
  cbv
  refine hk.call1 (awake_spec _) ?_
  cbv
  split <;> cbv
  · rename_i h1
    exact absurd h1 (by rw [hk.bn_eq]; decide)
  split <;> cbv
  · refine hk.call1 (awake_spec _) ?_
    cbv
    exact hk.fin0 rfl rfl (Wk.refl _ _)
  · rename_i h200
    have hl := hlen (by rw [hk.c2_gtr, decide_eq_false_iff_not] at h200; exact h200)
    by_cases hc0 : c = 0
    · have e := (plevs_eq (hc.symm.trans hc0) l.length (Nat.le_refl _)).1
      obtain ⟨x1, hx1⟩ : ∃ x1, x1 = (levs l l.length).1 := ⟨_, rfl⟩
      obtain ⟨x2, hx2⟩ : ∃ x1, x1 = (levs l l.length).2.1 := ⟨_, rfl⟩
      obtain ⟨x3, hx3⟩ : ∃ x1, x1 = (levs l l.length).2.2.1 := ⟨_, rfl⟩
      obtain ⟨x4, hx4⟩ : ∃ x1, x1 = (levs l l.length).2.2.2 := ⟨_, rfl⟩
      have ho := fun h => hof h hl
      have hr := fun h => hrof h hl
      rw [ofA, if_pos (hc.symm.trans hc0), e] at ho
      rw [agg4, ← hx1, ← hx2, ← hx3, ← hx4] at ho hr
      refine hk.call1 (ho _) ?_
      cbv
      refine hk.call1 (hchk _ hl) ?_
      cbv
      split <;> cbv
      · rename_i h1
        exact absurd h1 (by rw [hk.c2_neq, hc0]; decide)
      · split <;> cbv
        · refine hk.calld1 (hr _) ?_
          cbv
          exact hk.fin0 rfl rfl (Wk.of_eq (by simp [hk.ba_eq, hk.c2_eql]))
        · rename_i h1
          exact absurd h1 (by rw [hk.c2_eql]; decide)
    · have ho := fun h => hof h hl
      rw [ofA, if_neg (fun h => hc0 (hc.trans h)), agg4, ← hc] at ho
      refine hk.call1 (ho _) ?_
      cbv
      refine hk.call1 (hchk _ hl) ?_
      cbv
      split <;> cbv
      · split <;> cbv
        · exact hk.fin0 rfl rfl (Wk.of_eq (by simp [hk.ba_eq, hk.c2_eql]))
        · rename_i h1
          exact absurd h1 (by rw [hk.c2_eql]; simp)
      · rename_i h1
        exact absurd h1 (by rw [hk.c2_neq]; simpa using hc0)
end Go.Proofs.Ytnkaagbepppodaa
