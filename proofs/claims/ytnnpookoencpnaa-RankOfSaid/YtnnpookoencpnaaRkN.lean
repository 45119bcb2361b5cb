/-
  Contracts of functions of the program, proved over the abstract machine of the Al texts.
-/
import Derived.Test.YtnnpookoencpnaaRkM
set_option maxHeartbeats 4000000
set_option maxRecDepth 20000
set_option linter.unusedSimpArgs false
set_option linter.unusedVariables false
open Go Go.AL
namespace Go.Proofs.Ytnnpookoencpnaa
theorem refOf_spec (ms : List Int) (n : Int) (hn : n.toNat = ms.length) (hn1 : 1 ≤ n) (hn8 : n ≤ 8) (rl : List Int) (re : Bool)
    (hsome : ∀ x, ofGo (rangeI n.toNat) ms = some x → rl = x ∧ re = true) (hnone : ofGo (rangeI n.toNat) ms = none → rl = [] ∧ re = false) : Does PP 29 [LI ms] [] (Is (.tup [LI rl, .bool re]) []) := by
  obtain ⟨res, hres⟩ : ∃ x, x = ofGo (rangeI n.toNat) ms := ⟨_, rfl⟩
  rw [← hres] at hsome hnone
  refine doesF P_ok Try.f29 (by kernel_rfl) (by kernel_rfl) ?_
  intro i2 c2 u1 cv mx mn ad sbt bn bq ba lnI gtI apI sbI stI rpI lnG gtG apG sbG stG rpG fi fb fs fl fg fc sln sgt sap ssb sc b2s s2b nd call calld callv callvd loop rfun fin hk
  have hln : lnI ms = n := by rw [hk.lnI_eq]; omega
  have hgm := hk.gtI_eq ms
  have hmn : ∀ i : Int, 0 ≤ i → i < n → i.toNat < ms.length := fun i h1 h2 => by omega
  have hend : ∀ i : Int, i = n → ms.drop i.toNat = [] := fun i h => by rw [List.drop_eq_nil_iff]; omega
  have hl1 : ∀ x, lnI [x] = 1 := fun x => hk.lnI_eq _
  have hlno : ∀ (out : List Int) (i : Int), 0 ≤ i → out.length = i.toNat → lnI out = i := fun out i h h2 => by rw [hk.lnI_eq]; omega
  (conv => cbv)
  try rw [hln]
  refine hk.brLss (fun h => by omega) (fun _ => ?_)
  (conv => cbv)
  try rw [hln]
  refine hk.brGtr (fun h => by omega) (fun _ => ?_)
  (conv => cbv)
  try rw [hln]
  refine hk.loopI (loop_rule (α := Int × List Int) (fun x => [(0, .ls (.il .i64 ms) .any), (2, .ls .nl .nil), (3, .bool false), (4, .int .i64 n), (5, .ls (.il .i64 x.2) (.tok 0 0)), (18, .int .i64 n), (19, .int .i64 x.1)]) (fun _ => [.tok 0])
    (fun x => 0 ≤ x.1 ∧ x.1 ≤ n ∧ x.2.length = x.1.toNat ∧ (free n.toNat x.2).length = (n - x.1).toNat ∧ res = (ofGo (free n.toNat x.2) (ms.drop x.1.toNat)).map (x.2 ++ ·)) (fun x => (n - x.1).toNat) (0, []) ⟨by omega, by simp only; omega, rfl, by simp only; rw [free_nil, rangeI_len]; omega, by simp only; rw [free_nil]; simp [hres]⟩ ?_ ?_)
  · refine Gh.trans (Gh.thaw 5 (.il .i64 []) rfl trivial rfl) (Gh.tm ?_)
    repeat' (first | exact Holds.nil _ _ | refine Holds.cons (Wk.refl _ _) ?_)
  intro ⟨i, out⟩ ⟨hi, hi2, hol, hfl, hJ⟩ Q' hb hx hr
  simp only at hi hi2 hol hfl hJ
  (conv => cbv)
  refine hk.brLss (fun h2 => ?_) (fun h2 => ?_)
  · obtain ⟨F, hF⟩ : ∃ F, F = free n.toNat out := ⟨_, rfl⟩
    have hstep := ofGo_step F ms out i.toNat (hmn i hi h2)
    obtain ⟨m, hm⟩ : ∃ m, m = gtI ms i := ⟨_, rfl⟩
    rw [← hgm i, ← hm] at hstep
    obtain ⟨ni, hni⟩ : ∃ x, x = n - i := ⟨_, rfl⟩
    have hsub : i2 .sub .i64 n i = ni := by rw [hni]; exact hk.sub64 _ _ (by omega) (by omega)
    have hFl : F.length = ni.toNat := by rw [hF, hfl, hni]
    have hbad : ¬ (0 ≤ m ∧ m < ni) → res = none := fun h => by rw [hJ, ← hF, hstep, if_neg (by omega)]
    have hfree := fun h => free_step n.toNat out m.toNat h
    have hgood : 0 ≤ m → m < ni → ∀ c, c = F.getD m.toNat 0 → (free n.toNat (apI out [c])).length = (n - (i + 1)).toNat ∧ res = (ofGo (free n.toNat (apI out [c])) (ms.drop (i + 1).toNat)).map ((apI out [c]) ++ ·) := fun h1 h2 c hc => by
      have h3 := hfree (by rw [hfl]; omega)
      have h4 := erase_len (S := free n.toNat out) (m := m.toNat) (by rw [hfl]; omega)
      rw [hF] at hc
      rw [← hc] at h3
      rw [hk.apI_eq]
      refine ⟨by rw [← h3, h4, hfl]; omega, ?_⟩
      rw [hJ, ← hF, hstep, if_pos (by omega), hF, h3, show (i + 1).toNat = i.toNat + 1 by omega, ← hc]
    have hlno := hlno out i hi hol
    have hapl : ∀ x, (apI out [x]).length = (i + 1).toNat := fun x => by rw [hk.apI_eq, List.length_append, hol]; simp; omega
    have hhas : ∀ c h, Does PP 64 [LI out, I c] h (Is (.bool (decide (c ∈ out))) h) := fun c h => has_spec out c h (by omega)
    have hff := freeFrom_step n.toNat out
    have hfe := freeFrom_end n.toNat out
    have hfz := freeFrom_zero n.toNat out
    rw [← hF] at hfz
    clear hF hfree hfl hstep hJ
    obtain ⟨inB, hinB⟩ : ∃ inB : Int → Bool, ∀ c, inB c = decide (c ∈ out) := ⟨_, fun _ => rfl⟩
    have hhas : ∀ c h, Does PP 64 [LI out, I c] h (Is (.bool (inB c)) h) := fun c h => by rw [hinB]; exact hhas c h
    obtain ⟨G, hG⟩ : ∃ G : Nat → List Int, ∀ c, G c = freeFrom n.toNat out c := ⟨_, fun _ => rfl⟩
    have hff : ∀ c : Int, 0 ≤ c → c < n → G c.toNat = if inB c = true then G (c + 1).toNat else c :: G (c + 1).toNat := fun c h0 h1 => by
      rw [hG, hff _ (by omega), hG, show ((c.toNat : Nat) : Int) = c by omega, show (c + 1).toNat = c.toNat + 1 by omega, hinB]
      simp only [decide_eq_true_eq]
    have hfe : ∀ c : Int, n ≤ c → G c.toNat = [] := fun c h => by rw [hG]; exact hfe _ (by omega)
    have hfz : G 0 = F := by rw [hG]; exact hfz
    clear hG hinB
    (conv => cbv)
    try rw [hln]
    refine hk.idxI hi h2 ?_
    (conv => cbv)
    try rw [← hm]
    refine hk.brLss (fun h3 => ?_) (fun h3 => ?_)
    · obtain ⟨e1, e2⟩ := hnone (hbad (by omega))
      subst e1 e2
      (conv => cbv)
      refine hr _ ?_
      (conv => cbv)
      exact hk.fin0 rfl rfl (Wk.tup ⟨Wk.nilL _ _, .refl _ _, trivial⟩)
    (conv => cbv)
    try rw [hln]
    try rw [← hm]
    refine hk.idxI hi h2 ?_
    (conv => cbv)
    rw [hsub]
    refine hk.brGeq (fun h4 => ?_) (fun h4 => ?_)
    · obtain ⟨e1, e2⟩ := hnone (hbad (by omega))
      subst e1 e2
      (conv => cbv)
      refine hr _ ?_
      (conv => cbv)
      exact hk.fin0 rfl rfl (Wk.tup ⟨Wk.nilL _ _, .refl _ _, trivial⟩)
    have hgood := hgood (by omega) (by omega)
    (conv => cbv)
    try rw [hln]
    try rw [← hm]
    refine hk.idxI hi h2 ?_
    (conv => cbv)
    refine hk.loopI (loop_rule (α := Int × Int) (fun x => [(0, .ls (.il .i64 ms) .any), (2, .ls .nl .nil), (3, .bool false), (4, .int .i64 n), (5, .ls (.il .i64 out) (.tok 0 0)), (18, .int .i64 n), (19, .int .i64 i), (7, .int .i64 x.2), (8, .int .i64 x.1)]) (fun _ => [.tok 0])
      (fun x => 0 ≤ x.1 ∧ x.1 ≤ n ∧ x.2 ≤ 8 ∧ 0 ≤ x.2 ∧ x.2.toNat < (G x.1.toNat).length ∧ (G x.1.toNat).getD x.2.toNat 0 = F.getD m.toNat 0) (fun x => (n - x.1).toNat) (0, m) ⟨by omega, by simp only; omega, by simp only; omega, by simp only; omega, by simp only; rw [show (0 : Int).toNat = 0 from rfl, hfz]; omega, by simp only; rw [show (0 : Int).toNat = 0 from rfl, hfz]⟩ ?_ ?_)
    · exact Gh.tm (by repeat (first | exact Holds.nil _ _ | refine Holds.cons (Wk.refl _ _) ?_))
    intro ⟨c, left⟩ ⟨hc, hc2, hl8, hl0, hll, hJ2⟩ Q2 hb2 hx2 hr2
    simp only at hc hc2 hl8 hl0 hll hJ2
    (conv => cbv)
    refine hk.brLss (fun h5 => ?_) (fun h5 => ?_)
    · have hff := hff c hc h5
      (conv => cbv)
      refine hk.callA ((hhas c _).wk (by repeat' (first | exact WkL.nil | refine WkL.cons (Wk.refl _ _) ?_ | refine WkL.cons (Wk.any _ _ _) ?_ | refine WkL.cons (Wk.nilL _ _) ?_))) ?_
      obtain ⟨t, ht⟩ : ∃ t, t = inB c := ⟨_, rfl⟩
      rw [← ht] at hff ⊢
      cases t
      · simp only [Bool.false_eq_true, if_false] at hff
        rw [hff] at hll hJ2
        (conv => cbv)
        refine hk.brEql (fun h6 => ?_) (fun h6 => ?_)
        · subst h6
          have hcF : c = F.getD m.toNat 0 := by rw [← hJ2]; rfl
          obtain ⟨g1, g2⟩ := hgood c hcF
          (conv => cbv)
          rw [hlno, hl1]
          refine hk.needI (by simp only [rNd, hk.ad_eq]; omega) ?_
          (conv => cbv)
          refine hx2 _ _ ?_
          (conv => cbv)
          refine hb (i + 1, apI out [c]) _ ⟨by simp only; omega, by simp only; omega, hapl _, g1, g2⟩ (by simp only; omega) ?_
          refine Gh.retok 0 1 rfl (by decide) ?_ rfl rfl
          repeat' (first | exact HoldsT.nil _ _ _ _ | refine HoldsT.tok rfl ?_ | refine HoldsT.cons (Wk.refl _ _) rfl ?_ | refine HoldsT.cons (Wk.of_eq ?_) rfl ?_)
          all_goals first
            | (rw [← hk.add64 i 1 (by omega) (by omega)]; rfl)
            | rfl
            | skip
        · obtain ⟨l1, hl1⟩ : ∃ l1, l1 = left - 1 := ⟨_, rfl⟩
          have hsl : i2 .sub .i64 left 1 = l1 := by rw [hl1]; exact hk.sub64 _ _ (by omega) (by simp only [List.length_cons] at hll; omega)
          have e1 : left.toNat = l1.toNat + 1 := by omega
          rw [e1] at hll hJ2
          (conv => cbv)
          rw [hsl]
          refine hb2 (c + 1, l1) _ ⟨by simp only; omega, by simp only; omega, by simp only; omega, by simp only; simp only [List.length_cons] at hll; omega, by simp only; simpa using hll, by simp only; simpa using hJ2⟩ (by simp only; omega) ?_
          refine Gh.tm ?_
          repeat' (first | exact Holds.nil _ _ | refine Holds.cons (Wk.refl _ _) ?_ | refine Holds.cons (Wk.of_eq ?_) ?_)
          all_goals first
            | (rw [← hk.add64 c 1 (by omega) (by omega)]; rfl)
            | rfl
            | skip
      · simp only [if_true] at hff
        rw [hff] at hll hJ2
        (conv => cbv)
        refine hb2 (c + 1, left) _ ⟨by simp only; omega, by simp only; omega, hl8, hl0, hll, hJ2⟩ (by simp only; omega) ?_
        refine Gh.tm ?_
        repeat' (first | exact Holds.nil _ _ | refine Holds.cons (Wk.refl _ _) ?_ | refine Holds.cons (Wk.of_eq ?_) ?_)
        all_goals first
          | (rw [← hk.add64 c 1 (by omega) (by omega)]; rfl)
          | rfl
          | skip
    · have : G c.toNat = [] := hfe c (by omega)
      rw [this] at hll
      simp at hll
  · have : i = n := by omega
    have hx1 := hend i this
    rw [hx1] at hJ
    obtain ⟨e1, e2⟩ := hsome out (by rw [hJ]; simp [ofGo])
    subst e1 e2
    refine hx _ _ ?_
    (conv => cbv)
    exact hk.fin0 rfl rfl (Wk.tup ⟨Wk.any _ _ _, .refl _ _, trivial⟩)
end Go.Proofs.Ytnnpookoencpnaa
