/-
  Contracts of functions of the program, proved over the abstract machine of the Al texts.
-/
import Derived.Test.YtnnpookoencpnaaRkN
set_option maxHeartbeats 4000000
set_option maxRecDepth 20000
set_option linter.unusedSimpArgs false
set_option linter.unusedVariables false
open Go Go.AL
namespace Go.Proofs.Ytnnpookoencpnaa
theorem mk_drop {l : List Int} {i : Nat} (h : i < l.length) : mk (l.drop i) = (cnt (l.drop (i + 1)) (l.getD i 0) : Int) :: mk (l.drop (i + 1)) := by
  rw [List.drop_eq_getElem_cons h]
  have : l[i] = l.getD i 0 := by simp [List.getD, h]
  rw [this]; rfl
theorem cnt_drop {l : List Int} {k : Nat} (h : k < l.length) (c : Int) : cnt (l.drop k) c = if l.getD k 0 < c then cnt (l.drop (k + 1)) c + 1 else cnt (l.drop (k + 1)) c := by
  rw [List.drop_eq_getElem_cons h]
  have : l[k] = l.getD k 0 := by simp [List.getD, h]
  rw [this]
  simp only [cnt, List.filter_cons]
  split <;> simp_all
theorem refMarks_spec (l : List Int) (h : Heap) (n : Int) (hn : n.toNat = l.length) (hn0 : 0 ≤ n) (hn8 : n ≤ 1000) : Does PP 31 [LI l] h (Is (LI (mk l)) h) := by
  obtain ⟨r, hr0⟩ : ∃ x, x = mk l := ⟨_, rfl⟩
  rw [← hr0]
  refine pure0 ?_ rfl rfl h
  refine doesF P_ok Try.f31 (by kernel_rfl) (by kernel_rfl) ?_
  intro i2 c2 u1 cv mx mn ad sbt bn bq ba lnI gtI apI sbI stI rpI lnG gtG apG sbG stG rpG fi fb fs fl fg fc sln sgt sap ssb sc b2s s2b nd call calld callv callvd loop rfun fin hk
  have hln : lnI l = n := by rw [hk.lnI_eq]; omega
  have hgm := hk.gtI_eq l
  have hl1 : ∀ x, lnI [x] = 1 := fun x => hk.lnI_eq _
  have hlno : ∀ (out : List Int) (i : Int), 0 ≤ i → out.length = i.toNat → lnI out = i := fun out i h h2 => by rw [hk.lnI_eq]; omega
  (conv => cbv)
  try rw [hln]
  refine hk.loopI (loop_rule (α := Int × List Int) (fun x => [(0, .ls (.il .i64 l) .any), (2, .ls .nl .nil), (3, .ls (.il .i64 x.2) (.tok 0 0)), (8, .int .i64 n), (9, .int .i64 x.1)]) (fun _ => [.tok 0])
    (fun x => 0 ≤ x.1 ∧ x.1 ≤ n ∧ x.2.length = x.1.toNat ∧ r = x.2 ++ mk (l.drop x.1.toNat)) (fun x => (n - x.1).toNat) (0, []) ⟨by omega, by simp only; omega, rfl, by simp [hr0]⟩ ?_ ?_)
  · refine Gh.trans (Gh.thaw 3 (.il .i64 []) rfl trivial rfl) (Gh.tm ?_)
    repeat' (first | exact Holds.nil _ _ | refine Holds.cons (Wk.refl _ _) ?_)
  intro ⟨i, out⟩ ⟨hi, hi2, hol, hJ⟩ Q' hb hx hr
  simp only at hi hi2 hol hJ
  have hlno := hlno out i hi hol
  obtain ⟨i1, hi1⟩ : ∃ i1, i1 = i + 1 := ⟨_, rfl⟩
  have hadd : i < n → i2 .add .i64 i 1 = i1 := fun _ => by rw [hi1]; exact hk.add64 _ _ (by omega) (by omega)
  have hcd : ∀ k : Int, 0 ≤ k → k < n → cnt (l.drop k.toNat) (gtI l i) = if gtI l k < gtI l i then cnt (l.drop (k + 1).toNat) (gtI l i) + 1 else cnt (l.drop (k + 1).toNat) (gtI l i) := fun k h0 h1 => by
    rw [show (k + 1).toNat = k.toNat + 1 by omega, hgm k]; exact cnt_drop (by omega) _
  have hce : ∀ k : Int, n ≤ k → cnt (l.drop k.toNat) (gtI l i) = 0 := fun k h0 => by rw [List.drop_eq_nil_of_le (by omega)]; rfl
  have hnext : i < n → ∀ m : Int, m.toNat = cnt (l.drop i1.toNat) (gtI l i) → 0 ≤ m → r = apI out [m] ++ mk (l.drop (i + 1).toNat) ∧ (apI out [m]).length = (i + 1).toNat := fun h m hm h0 => by
    rw [hk.apI_eq, List.length_append, hol]
    refine ⟨?_, by simp; omega⟩
    rw [hJ, mk_drop (by omega), ← hgm i, show (i + 1).toNat = i.toNat + 1 by omega]
    rw [hi1, show (i + 1).toNat = i.toNat + 1 by omega] at hm
    rw [← hm, show ((m.toNat : Nat) : Int) = m by omega]
    simp
  obtain ⟨C, hC⟩ : ∃ C : Int → Nat, ∀ k, C k = cnt (l.drop k.toNat) (gtI l i) := ⟨_, fun _ => rfl⟩
  simp only [← hC] at hcd hce hnext
  clear hC
  (conv => cbv)
  refine hk.brLss (fun h2 => ?_) (fun h2 => ?_)
  · have hadd := hadd h2
    have hnext := hnext h2
    (conv => cbv)
    rw [hadd]
    refine hk.loopI (loop_rule (α := Int × Int) (fun x => [(0, .ls (.il .i64 l) .any), (2, .ls .nl .nil), (3, .ls (.il .i64 out) (.tok 0 0)), (4, .int .i64 i), (5, .int .i64 x.2), (6, .int .i64 x.1), (8, .int .i64 n), (9, .int .i64 i)]) (fun _ => [.tok 0])
      (fun x => i1 ≤ x.1 ∧ x.1 ≤ n ∧ 0 ≤ x.2 ∧ x.2 ≤ x.1 ∧ x.2.toNat + C x.1 = C i1) (fun x => (n - x.1).toNat) (i1, 0) ⟨by simp only; omega, by simp only; omega, by simp only; omega, by simp only; omega, by simp⟩ ?_ ?_)
    · exact Gh.tm (by repeat (first | exact Holds.nil _ _ | refine Holds.cons (Wk.refl _ _) ?_))
    intro ⟨k, m⟩ ⟨hk0, hk1, hm0, hm1, hJ2⟩ Q2 hb2 hx2 hr2
    simp only at hk0 hk1 hm0 hm1 hJ2
    (conv => cbv)
    try rw [hln]
    refine hk.brLss (fun h3 => ?_) (fun h3 => ?_)
    · have hcd := hcd k (by omega) h3
      (conv => cbv)
      try rw [hln]
      refine hk.idxI (by omega) h3 (hk.idxI hi h2 ?_)
      (conv => cbv)
      refine hk.brLss (fun h4 => ?_) (fun h4 => ?_)
      · rw [if_pos h4] at hcd
        (conv => cbv)
        refine hb2 (k + 1, m + 1) _ ⟨by simp only; omega, by simp only; omega, by simp only; omega, by simp only; omega, by simp only; omega⟩ (by simp only; omega) ?_
        refine Gh.tm ?_
        repeat' (first | exact Holds.nil _ _ | refine Holds.cons (Wk.refl _ _) ?_ | refine Holds.cons (Wk.of_eq ?_) ?_)
        · rw [← hk.add64 m 1 (by omega) (by omega)]; rfl
        · rw [← hk.add64 k 1 (by omega) (by omega)]; rfl
      · rw [if_neg h4] at hcd
        (conv => cbv)
        refine hb2 (k + 1, m) _ ⟨by simp only; omega, by simp only; omega, by simp only; omega, by simp only; omega, by simp only; omega⟩ (by simp only; omega) ?_
        refine Gh.tm ?_
        repeat' (first | exact Holds.nil _ _ | refine Holds.cons (Wk.refl _ _) ?_ | refine Holds.cons (Wk.of_eq ?_) ?_)
        all_goals first
          | (rw [← hk.add64 k 1 (by omega) (by omega)]; rfl)
          | rfl
          | skip
    · have := hce k (by omega)
      obtain ⟨g1, g2⟩ := hnext m (by omega) hm0
      refine hx2 _ _ ?_
      (conv => cbv)
      rw [hlno, hl1]
      refine hk.needI (by simp only [rNd, hk.ad_eq]; omega) ?_
      (conv => cbv)
      refine hb (i + 1, apI out [m]) _ ⟨by simp only; omega, by simp only; omega, g2, g1⟩ (by simp only; omega) ?_
      refine Gh.retok 0 1 rfl (by decide) ?_ rfl rfl
      repeat' (first | exact HoldsT.nil _ _ _ _ | refine HoldsT.tok rfl ?_ | refine HoldsT.cons (Wk.refl _ _) rfl ?_ | refine HoldsT.cons (Wk.of_eq ?_) rfl ?_)
      all_goals first
        | (rw [← hk.add64 i 1 (by omega) (by omega)]; rfl)
        | rfl
        | skip
  · have : l.drop i.toNat = [] := by rw [List.drop_eq_nil_iff]; omega
    rw [this] at hJ
    simp only [mk, List.append_nil] at hJ
    subst hJ
    refine hx _ _ ?_
    (conv => cbv)
    exact hk.fin0 rfl rfl (Wk.any _ _ _)
end Go.Proofs.Ytnnpookoencpnaa
