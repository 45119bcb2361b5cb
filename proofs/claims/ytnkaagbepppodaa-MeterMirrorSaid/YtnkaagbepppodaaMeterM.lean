/- Samples with their signs turned. -/
import Derived.Test.YtnkaagbepppodaaMeterMp
set_option linter.unusedSimpArgs false
set_option linter.unusedVariables false
set_option maxHeartbeats 4000000
open Go Go.AL
namespace Go.Proofs.Ytnkaagbepppodaa
theorem mirror_law (l : List Int) (q : Int) (hq0 : 0 ≤ q) (hq1 : q ≤ 65535) : Does PP 7 [.ls (.il .i64 l) .any, .int .u16 q] [] (Is (.bool true) []) := by
  refine doesF P_ok Try.f7 (by kernel_rfl) (by kernel_rfl) ?_
  intro i2 c2 u1 cv mx mn ad sbt bn bq ba lnI gtI apI sbI stI rpI lnG gtG apG sbG stG rpG fi fb fs fl fg fc sln sgt sap ssb sc b2s s2b nd call calld callv callvd loop rfun fin hk
  obtain ⟨c, hc⟩ : ∃ c, c = chk l := ⟨_, rfl⟩
  have hchk := rcheck_spec l
  rw [← hc] at hchk
  have hlen : ¬ lnI l > 200 → l.length ≤ 200 := by rw [hk.lnI_eq]; omega
  have hn := hk.lnI_nn l
  have hne := hk.lnI_eq l
  obtain ⟨⟨a1, a2, a3, a4⟩, hA⟩ : ∃ x, x = xl l l.length := ⟨_, rfl⟩
  obtain ⟨⟨b1, b2, b3, b4⟩, hB⟩ : ∃ x, x = xl (negs l) l.length := ⟨_, rfl⟩
  obtain ⟨Q, hQ⟩ : ∃ Q, Q = cv .i64 q := ⟨_, rfl⟩
  obtain ⟨G, hG⟩ : ∃ G, G = gather (spans l Q 2) := ⟨_, rfl⟩
  obtain ⟨k, hkk⟩ : ∃ k, k = (spans l Q 2).length := ⟨_, rfl⟩
  obtain ⟨M, hM⟩ : ∃ M, M = negs l := ⟨_, rfl⟩
  have room : l.length ≤ 200 → ∀ (i : Int) (out : List Int), 0 ≤ i → i < lnI l → out ++ negs (l.drop i.toNat) = M → ∀ x : Int, nd (.room (ad (lnI out) (lnI [x])) 8) := fun hl i out _ _ e x => hk.ndI (by
    have := congrArg List.length e
    rw [hM] at this
    simp [negs] at this
    rw [hk.ad_eq, hk.lnI_eq, hk.lnI_eq]
    simp
    exact ⟨by omega, by omega, by omega⟩)
  have next : ∀ (i : Int) (out : List Int), 0 ≤ i → i < lnI l → out ++ negs (l.drop i.toNat) = M → apI out [u1 .neg .i64 (gtI l i)] ++ negs (l.drop (i + 1).toNat) = M := fun i out h0 h1 e => by
    have hlt : i.toNat < l.length := by omega
    rw [List.drop_eq_getElem_cons hlt] at e
    rw [hk.apI_eq, hk.u1_neg, hk.gtI_eq, show (i + 1).toNat = i.toNat + 1 by omega, ← e]
    have hg : l.getD i.toNat 0 = l[i.toNat] := by simp [List.getD, hlt]
    rw [hg]
    simp only [negs, List.map_cons, List.append_assoc, List.cons_append, List.nil_append]
  have hl2 : l.length ≤ 200 → lnI l ≤ 200 := fun h => by omega
  have last : ∀ (i : Int) (out : List Int), 0 ≤ i → i ≤ lnI l → ¬ i < lnI l → out ++ negs (l.drop i.toNat) = M → out = M := fun i out h0 h1 h2 e => by
    rw [List.drop_eq_nil_of_le (by omega)] at e
    simpa [negs] using e
  have hchk0 : c2 .neq c 0 = false → chk l = 0 := fun h => by
    rw [hk.c2_neq, decide_eq_false_iff_not] at h
    rw [← hc]; omega
  have hof1 : c2 .neq c 0 = false → l.length ≤ 200 → ∀ h, Does PP 13 [.ls (.il .i64 l) .any] h (Is (.tup [.agg [.int .i64 a1, .int .i64 a2, .int .i64 a3, .int .i64 a4], .int .i64 0]) h) := fun h0 h1 h => by
    have := of_spec l h (by omega)
    rw [(mirror_of (hchk0 h0) h1).1, ← hA] at this
    exact this
  have hof2 : c2 .neq c 0 = false → l.length ≤ 200 → ∀ h, Does PP 13 [.ls (.il .i64 M) .any] h (Is (.tup [.agg [.int .i64 b1, .int .i64 b2, .int .i64 b3, .int .i64 b4], .int .i64 0]) h) := fun h0 h1 h => by
    have := of_spec (negs l) h (by rw [negs_len]; omega)
    rw [(mirror_of (hchk0 h0) h1).2.1, ← hB, ← hM] at this
    exact this
  have hMl : l.length ≤ 200 → M.length ≤ 200 := fun h => by rw [hM, negs_len]; exact h
  have hQ2 : Q = q := by rw [hQ, hk.cv_eq, wrap64 (by omega) (by omega)]
  have hsp : c2 .neq c 0 = false → spans M Q 2 = spans l Q 2 := fun h => by
    rw [hM]
    exact spans_negs (hchk0 h) (by omega) (by omega) 2
  have hc1 := fun hl => calls25 l Q hl
  rw [← hG, ← hkk] at hc1
  have hc2 : c2 .neq c 0 = false → l.length ≤ 200 → _ := fun h0 hl => calls26 M Q (hMl hl)
  have hc2 : c2 .neq c 0 = false → l.length ≤ 200 → ∀ a1 a2 a3 a4 b1 b2 b3 b4 : Int, Does PP 43 [.clo (.func 26) [] [.ptr 4 0], .pp [.ls (.il .i64 M) .any], .pp [.int .i64 Q], .pp [.int .i64 2]] [.tok 0, .box [.int .i64 a1, .int .i64 a2, .int .i64 a3, .int .i64 a4], .box [.int .i64 b1, .int .i64 b2, .int .i64 b3, .int .i64 b4], .box [.ls (.gl two G) (.tok 5 k)], .box [.ls .nl .nil], .tok k]
      (Is (.tup []) (h26 (a1, a2, a3, a4) (b1, b2, b3, b4) (G, k) (G, k))) := fun h0 hl a1 a2 a3 a4 b1 b2 b3 b4 => by
    have := calls26 M Q (hMl hl) a1 a2 a3 a4 b1 b2 b3 b4 G k
    rw [hsp h0, ← hG, ← hkk] at this
    exact this
  simp only [h25, h26, iv4, two] at hc1 hc2
  have hng : c2 .neq (lnG G) (lnG G) = false := by rw [hk.c2_neq]; simp
  have hgn := hk.lnG_nn G
  have hgl2 : lnG G ≤ (G.length : Int) := by rw [hk.lnG_eq]; omega
  have hgl : l.length ≤ 200 → lnG G ≤ 1000 := fun h => by
    have h1 := spans_len l Q 2
    have h2 : G.length = (spans l Q 2).length := by rw [hG, gather, List.length_map]
    omega
  have h00 : c2 .eql 0 0 = true := by rw [hk.c2_eql]; rfl
  have heq : c2 .neq c 0 = false → l.length ≤ 200 → c2 .eql a1 b1 = true ∧ c2 .eql a2 (u1 .neg .i64 b2) = true ∧ c2 .eql a3 b3 = true := fun h0 h1 => by
    obtain ⟨x1, x2, x3⟩ := xl_negs (hchk0 h0) l.length
    obtain ⟨_, _, y1, y2⟩ := mirror_of (hchk0 h0) h1
    rw [← hA] at x1 x2 x3 y1 y2
    rw [← hB] at x1 x2 x3
    simp only [] at x1 x2 x3 y1 y2
    rw [hk.c2_eql, hk.c2_eql, hk.c2_eql, hk.u1_neg, x1, x2, x3, wrap64 (by omega) (by omega)]
    refine ⟨by simp, ?_, by simp⟩
    rw [decide_eq_true_eq]; omega
  have hsame : ∀ a b : Int, bn (ba (c2 .eql a a) (ba (c2 .eql b b) true)) = false := fun a b => by
    rw [hk.bn_eq, hk.ba_eq, hk.ba_eq, hk.c2_eql, hk.c2_eql]; simp
  have hquiet := quiet_spec
  simp only [quietC] at hquiet
  cbv
  refine hk.call1 (awake_spec _) ?_
  cbv
  split <;> cbv
  · rename_i h1
    exact absurd h1 (by rw [hk.bn_eq]; decide)
  split <;> cbv
  · refine hk.call1 (awake_spec _) ?_
    cbv
    exact hk.fin0 rfl rfl (Wk.refl _ _)
  rename_i h200
  have hl := hlen (by rw [hk.c2_gtr, decide_eq_false_iff_not] at h200; exact h200)
  have hln := hl2 hl
  refine hk.call1 (hchk _ (by omega)) ?_
  cbv
  split <;> cbv
  · refine hk.call1 (awake_spec _) ?_
    cbv
    exact hk.fin0 rfl rfl (Wk.refl _ _)
  rename_i hc0
  refine hk.loopI (loop_rule (α := Int × List Int) (fun x => [(0, .ls (.il .i64 l) .any), (1, .int .u16 q), (5, .ls (.il .i64 x.2) (.tok 0 0)), (28, .ls (.il .i64 l) .any), (29, .int .i64 (lnI l)), (30, .int .i64 x.1)])
      (fun x => [.tok 0]) (fun x => 0 ≤ x.1 ∧ x.1 ≤ lnI l ∧ x.2 ++ negs (l.drop x.1.toNat) = M) (fun x => (lnI l - x.1).toNat) (0, []) ⟨by omega, by omega, hM.symm⟩ ?_ ?_)
  · refine Gh.trans (Gh.thaw 5 (.il .i64 []) rfl trivial rfl) (Gh.tm ?_)
    repeat (first | exact Holds.nil _ _ | refine Holds.cons (Wk.refl _ _) ?_)
  rintro ⟨i, out⟩ ⟨hi, hi2, ho⟩ Q' hb hx hr
  simp only [] at hi hi2 ho
  have hadd := hk.add64 i 1 (by omega) (by omega)
  cbv
  split
  · rename_i hlt
    rw [hk.c2_lss, decide_eq_true_eq] at hlt
    cbv
    refine ⟨hk.idx hi hlt, ?_⟩
    cbv
    refine ⟨room hl i out hi hlt ho _, ?_⟩
    cbv
    refine hb (i + 1, apI out [u1 .neg .i64 (gtI l i)]) _ ⟨by simp only []; omega, by simp only []; omega, next i out hi hlt ho⟩ (by simp only []; omega) (Gh.retok 0 1 rfl (Nat.le_refl _) ?_ rfl rfl)
    exact HoldsT.cons (Wk.refl _ _) rfl <| HoldsT.cons (Wk.refl _ _) rfl <| HoldsT.tok rfl <| HoldsT.cons (Wk.refl _ _) rfl <| HoldsT.cons (Wk.refl _ _) rfl <| HoldsT.cons (Wk.of_eq (by rw [← hadd]; rfl)) rfl <| HoldsT.nil _ _ _ _
  rename_i hge
  rw [hk.c2_lss, decide_eq_false_iff_not] at hge
  refine hx _ _ ?_
  cbv
  have ho := last i out hi hi2 hge ho
  subst ho
  refine hk.call1 (hof1 hc0 hl _) ?_
  cbv
  refine hk.call1 ((hof2 hc0 hl _).wk (.cons (.any _ _ _) .nil)) ?_
  cbv
  refine hk.call1 (hquiet _ _ _ _) ?_
  cbv
  rw [← hQ]
  refine hk.callI (hc1 hl _ _ _ _ _ _ _ _) ?_
  rintro _ _ ⟨rfl, rfl⟩
  cbv
  refine hk.call1 ((hquiet _ _ _ _).wk (.cons (.any _ _ _) (.cons (.refl _ _) (.cons (.refl _ _) .nil)))) ?_
  cbv
  rw [← hQ]
  refine hk.callI (hc2 hc0 hl _ _ _ _ _ _ _ _) ?_
  rintro _ _ ⟨rfl, rfl⟩
  cbv
  have hgl := hgl hl
  rw [hng]
  cbv
  refine hk.loopI (loop_rule (α := Int) (fun x => [(8, .ptr 1 0), (9, .int .i64 0), (10, .ptr 2 0), (11, .int .i64 0), (12, .ptr 3 0), (13, .ptr 4 0), (68, .int .i64 (lnG G)), (69, .int .i64 x)])
      (fun x => [.tok 0, .box [.int .i64 a1, .int .i64 a2, .int .i64 a3, .int .i64 a4], .box [.int .i64 b1, .int .i64 b2, .int .i64 b3, .int .i64 b4], .box [.ls (.gl (.rc [.int .i64, .int .i64]) G) (.tok 5 k)], .box [.ls (.gl (.rc [.int .i64, .int .i64]) G) (.tok 6 k)], .tok k, .tok k])
      (fun x => 0 ≤ x ∧ x ≤ lnG G) (fun x => (lnG G - x).toNat) 0 ⟨by omega, hgn⟩ ?_ ?_)
  · exact Gh.tm (by repeat (first | exact Holds.nil _ _ | refine Holds.cons (Wk.refl _ _) ?_))
  intro j ⟨hj, hj2⟩ Q' hb hx hr
  cbv
  split
  · rename_i hlt
    rw [hk.c2_lss, decide_eq_true_eq] at hlt
    have hadd := hk.add64 j 1 (by omega) (by omega)
    cbv
    refine ⟨hk.ndI ⟨hj, hlt⟩, ?_⟩
    cbv
    refine ⟨hk.ndI ⟨hj, hlt⟩, ?_⟩
    cbv
    rw [hsame]
    cbv
    refine hb (j + 1) _ ⟨by omega, by omega⟩ (by omega) (Gh.tm ?_)
    repeat (first | exact Holds.nil _ _ | refine Holds.cons (Wk.refl _ _) ?_ | refine Holds.cons (Wk.of_eq (by rw [← hadd]; rfl)) ?_)
  · rename_i hlt
    rw [hk.c2_lss, decide_eq_false_iff_not] at hlt
    obtain ⟨e1, e2, e3⟩ := heq hc0 hl
    cbv
    refine hx _ _ ?_
    cbv
    rw [h00]
    cbv
    rw [h00]
    cbv
    rw [e1]
    cbv
    rw [e2]
    cbv
    exact hk.fin0 rfl rfl (Wk.of_eq (by rw [e3]))
end Go.Proofs.Ytnkaagbepppodaa
