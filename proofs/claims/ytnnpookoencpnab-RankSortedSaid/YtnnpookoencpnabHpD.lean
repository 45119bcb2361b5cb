/-
  Contracts of functions of the program, proved over the abstract machine of the Al texts.
-/
import Derived.Test.YtnnpookoencpnabTryTab
import Derived.Test.YtnnpookoencpnabAl4
import Derived.Test.YtnnpookoencpnabBase
import Derived.Test.YtnnpookoencpnabRkX
import Derived.Test.YtnnpookoencpnabHpX
set_option maxHeartbeats 4000000
set_option maxRecDepth 20000
set_option linter.unusedSimpArgs false
set_option linter.unusedVariables false
open Go Go.AL
namespace Go.Proofs.Ytnnpookoencpnab
theorem down_spec (g : Nat) (n i0 m : Int) (L : List Int) (hn : n = (L.length : Nat)) (hn2 : n ≤ 100000) (h0 : 0 ≤ i0) (h1 : i0 ≤ m) (h2 : m ≤ n) :
    Does PP 32 [QI, I i0, I m] (HQ g n L) (Is (.bool (goesK ltI 0 L m.toNat i0.toNat)) (HQ g n (downL ltI 0 m.toNat L m.toNat i0.toNat))) := by
  obtain ⟨R, hR⟩ : ∃ R, R = downL ltI 0 m.toNat L m.toNat i0.toNat := ⟨_, rfl⟩
  obtain ⟨B, hB⟩ : ∃ B, B = goesK ltI 0 L m.toNat i0.toNat := ⟨_, rfl⟩
  rw [← hR, ← hB]
  have hls := fun (L : List Int) (i j : Int) (hn : n = (L.length : Nat)) a b c d => qless_spec g n i j L hn a b c d
  have hsw := fun (L : List Int) (i j : Int) (hn : n = (L.length : Nat)) a b c d => qswap_spec g n i j L hn a b c d
  refine doesF P_ok Try.f32 (by kernel_rfl) (by kernel_rfl) ?_
  intro i2 c2 u1 cv mx mn ad sbt bn bq ba lnI gtI apI sbI stI rpI lnG gtG apG sbG stG rpG fi fb fs fl fg fc sln sgt sap ssb sc b2s s2b nd call calld callv callvd loop rfun fin hk
  (conv => cbv)
  repeat' (first
    | assumption
    | (refine hk.brLssT (by omega) ?_; (conv => cbv))
    | (refine hk.brLssF (by omega) ?_; (conv => cbv))
    | (refine hk.brLeqT (by omega) ?_; (conv => cbv))
    | (refine hk.brLeqF (by omega) ?_; (conv => cbv))
    | (refine hk.brGtrT (by omega) ?_; (conv => cbv))
    | (refine hk.brGtrF (by omega) ?_; (conv => cbv))
    | (refine hk.brGeqT (by omega) ?_; (conv => cbv))
    | (refine hk.brGeqF (by omega) ?_; (conv => cbv))
    | (refine hk.brEqlT (by omega) ?_; (conv => cbv))
    | (refine hk.brEqlF (by omega) ?_; (conv => cbv))
    | (refine hk.brNeqT (by omega) ?_; (conv => cbv))
    | (refine hk.brNeqF (by omega) ?_; (conv => cbv))
    | (refine hk.brLss (fun _ => ?_) (fun _ => ?_) <;> (conv => cbv))
    | (refine hk.brLeq (fun _ => ?_) (fun _ => ?_) <;> (conv => cbv))
    | (refine hk.brGtr (fun _ => ?_) (fun _ => ?_) <;> (conv => cbv))
    | (refine hk.brGeq (fun _ => ?_) (fun _ => ?_) <;> (conv => cbv))
    | (refine hk.brEql (fun _ => ?_) (fun _ => ?_) <;> (conv => cbv))
    | (refine hk.brNeq (fun _ => ?_) (fun _ => ?_) <;> (conv => cbv))
    | (refine hk.brNotT ?_; (conv => cbv))
    | (refine hk.brNotF ?_; (conv => cbv))
    | (refine hk.brNotS _ (by simp [hk.c2_lss, hk.c2_leq, hk.c2_gtr, hk.c2_geq, hk.c2_eql, hk.c2_neq, hk.bn_eq, hk.bq_eq]; rfl) ?_; (conv => cbv))
    | (refine hk.brBqS _ (by simp [hk.c2_lss, hk.c2_leq, hk.c2_gtr, hk.c2_geq, hk.c2_eql, hk.c2_neq, hk.bn_eq, hk.bq_eq]; rfl) ?_; (conv => cbv))
    | (refine hk.idxI (by first | omega | assumption) (by first | omega | assumption) ?_; (conv => cbv))
    | (refine hk.nzI (by first | omega | assumption | decide) ?_; (conv => cbv))
    | (refine hk.ge0I (by first | omega | assumption) ?_; (conv => cbv))
    | (refine hk.needI (by first | (simp only [rNd, hk.sb_eq, hk.ad_eq]; omega) | (simp [rNd, hk.sb_eq, hk.ad_eq]; omega)) ?_; (conv => cbv))
    | (refine hk.callA (by assumption) ?_; (conv => cbv))
    | (refine hk.calldA (by assumption) ?_; (conv => cbv))
    | (rw [hk.sb0]; (conv => cbv))
    | (rw [hk.ad0]; (conv => cbv))
    | exact hk.finB (by first | rfl | (simp [hk.c2_lss, hk.c2_leq, hk.c2_gtr, hk.c2_geq, hk.c2_eql, hk.c2_neq, hk.bn_eq, hk.bq_eq]; done) | assumption)
    | exact hk.fin1 rfl)
  refine hk.loopI (loop_rule (α := Int × List Int × Nat) (fun x => [(0, .iface 39 (.ptr 0 0)), (1, .int .i64 i0), (2, .int .i64 m), (6, .bool false), (7, .int .i64 x.1)]) (fun x => [.box [.sl 1 g 0 n], .rw g (.il .i64 x.2.1)])
    (fun x => i0 ≤ x.1 ∧ x.1 ≤ m ∧ n = (x.2.1.length : Nat) ∧ m.toNat ≤ x.1.toNat + x.2.2 ∧ downL ltI 0 x.2.2 x.2.1 m.toNat x.1.toNat = R ∧ ((x.1 = i0 ∧ x.2.1 = L) ∨ (i0 < x.1 ∧ goesK ltI 0 L m.toNat i0.toNat = true))) (fun x => (m - x.1).toNat) (i0, L, m.toNat) ⟨Int.le_refl _, h1, hn, by simp only; omega, hR.symm, .inl ⟨rfl, rfl⟩⟩ ?_ ?_)
  · exact Gh.tm (by repeat (first | exact Holds.nil _ _ | refine Holds.cons (Wk.refl _ _) ?_))
  intro ⟨i, l, f⟩ ⟨hi, hi2, hl, hf, hu, hst⟩ Q' hb hx hr
  simp only at hi hi2 hl hf hu hst
  dsimp only
  obtain ⟨j1, hj1⟩ : ∃ j1 : Int, j1 = 2 * i + 1 := ⟨_, rfl⟩
  obtain ⟨j2, hj2⟩ : ∃ j2 : Int, j2 = 2 * i + 2 := ⟨_, rfl⟩
  have hm1 : i2 .mul .i64 2 i = 2 * i := hk.mul64 _ _ (by omega) (by omega)
  have ha1 : i2 .add .i64 (2 * i) 1 = j1 := by rw [hj1]; exact hk.add64 _ _ (by omega) (by omega)
  have ha2 : i2 .add .i64 j1 1 = j2 := by rw [hk.add64 _ _ (by omega) (by omega), hj1, hj2]; omega
  by_cases hjm : j1 < m
  · by_cases hjm2 : j2 < m
    · have hls1 := hls l j2 j1 hl (by omega) (by omega) (by omega) (by omega)
      obtain ⟨b1, hb1⟩ : ∃ b, b = ltI (l.getD j2.toNat 0) (l.getD j1.toNat 0) := ⟨_, rfl⟩
      rw [← hb1] at hls1
      have e1 : j1.toNat = 2 * i.toNat + 1 := by omega
      have e2 : j2.toNat = 2 * i.toNat + 2 := by omega
      cases b1
      · obtain ⟨k, hkk⟩ : ∃ k, k = j1 := ⟨_, rfl⟩
        have hkid : kid ltI 0 l m.toNat i.toNat = k.toNat := by
          rw [kid, ← e1, ← e2, ← hb1, hkk]; simp
        subst hkk
        have hg9 : goesK ltI 0 l m.toNat i.toNat = ltI (l.getD k.toNat 0) (l.getD i.toNat 0) := by rw [goesK, hkid, decide_eq_true (by omega), Bool.true_and]
        have hls2 := hls l k i hl (by omega) (by omega) (by omega) (by omega)
        have hsw2 := hsw l i k hl (by omega) (by omega) (by omega) (by omega)
        obtain ⟨b, hb0⟩ : ∃ b, b = ltI (l.getD k.toNat 0) (l.getD i.toNat 0) := ⟨_, rfl⟩
        obtain ⟨s, hs0⟩ : ∃ s, s = swpL 0 l i.toNat k.toNat := ⟨_, rfl⟩
        obtain ⟨f, rfl⟩ : ∃ f', f = f' + 1 := ⟨f - 1, by omega⟩
        rw [← hb0] at hg9
        rw [downL, hg9, hkid, ← hs0] at hu
        have hsl : n = (s.length : Nat) := by rw [hs0, swpL_len]; exact hl
        rw [← hb0] at hls2
        rw [← hs0] at hsw2
        cases b
        · simp only [Bool.false_eq_true, if_false] at hu
          subst hu
          (conv => cbv)
          repeat' (first
            | assumption
            | (rw [hm1]; (conv => cbv))
            | (rw [ha1]; (conv => cbv))
            | (rw [ha2]; (conv => cbv))
            | (refine hk.callA hls1 ?_; (conv => cbv))
            | (refine hk.callA hls2 ?_; (conv => cbv))
            | (refine hx _ _ ?_; (conv => cbv))
            | (refine hk.brLssT (by omega) ?_; (conv => cbv))
            | (refine hk.brLssF (by omega) ?_; (conv => cbv))
            | (refine hk.brLeqT (by omega) ?_; (conv => cbv))
            | (refine hk.brLeqF (by omega) ?_; (conv => cbv))
            | (refine hk.brGtrT (by omega) ?_; (conv => cbv))
            | (refine hk.brGtrF (by omega) ?_; (conv => cbv))
            | (refine hk.brGeqT (by omega) ?_; (conv => cbv))
            | (refine hk.brGeqF (by omega) ?_; (conv => cbv))
            | (refine hk.brEqlT (by omega) ?_; (conv => cbv))
            | (refine hk.brEqlF (by omega) ?_; (conv => cbv))
            | (refine hk.brNeqT (by omega) ?_; (conv => cbv))
            | (refine hk.brNeqF (by omega) ?_; (conv => cbv))
            | (refine hk.brLss (fun _ => ?_) (fun _ => ?_) <;> (conv => cbv))
            | (refine hk.brLeq (fun _ => ?_) (fun _ => ?_) <;> (conv => cbv))
            | (refine hk.brGtr (fun _ => ?_) (fun _ => ?_) <;> (conv => cbv))
            | (refine hk.brGeq (fun _ => ?_) (fun _ => ?_) <;> (conv => cbv))
            | (refine hk.brEql (fun _ => ?_) (fun _ => ?_) <;> (conv => cbv))
            | (refine hk.brNeq (fun _ => ?_) (fun _ => ?_) <;> (conv => cbv))
            | (refine hk.brNotT ?_; (conv => cbv))
            | (refine hk.brNotF ?_; (conv => cbv))
            | (refine hk.brNotS _ (by simp [hk.c2_lss, hk.c2_leq, hk.c2_gtr, hk.c2_geq, hk.c2_eql, hk.c2_neq, hk.bn_eq, hk.bq_eq]; rfl) ?_; (conv => cbv))
            | (refine hk.brBqS _ (by simp [hk.c2_lss, hk.c2_leq, hk.c2_gtr, hk.c2_geq, hk.c2_eql, hk.c2_neq, hk.bn_eq, hk.bq_eq]; rfl) ?_; (conv => cbv))
            | (refine hk.idxI (by first | omega | assumption) (by first | omega | assumption) ?_; (conv => cbv))
            | (refine hk.nzI (by first | omega | assumption | decide) ?_; (conv => cbv))
            | (refine hk.ge0I (by first | omega | assumption) ?_; (conv => cbv))
            | (refine hk.needI (by first | (simp only [rNd, hk.sb_eq, hk.ad_eq]; omega) | (simp [rNd, hk.sb_eq, hk.ad_eq]; omega)) ?_; (conv => cbv))
            | (refine hk.callA (by assumption) ?_; (conv => cbv))
            | (refine hk.calldA (by assumption) ?_; (conv => cbv))
            | (rw [hk.sb0]; (conv => cbv))
            | (rw [hk.ad0]; (conv => cbv))
            | exact hk.finB (by first | rfl | (simp [hk.c2_lss, hk.c2_leq, hk.c2_gtr, hk.c2_geq, hk.c2_eql, hk.c2_neq, hk.bn_eq, hk.bq_eq]; done) | assumption)
            | exact hk.fin1 rfl)
          all_goals first
            | (refine hk.fin1 (congrArg _ ?_)
               rw [hk.c2_gtr, hB]
               rcases hst with ⟨e1, e2⟩ | ⟨e1, e2⟩
               · rw [← e2, ← e1, hg9, decide_eq_false (by omega)]
               · rw [e2, decide_eq_true (by omega)])
            | skip
        · simp only [if_true] at hu
          (conv => cbv)
          repeat' (first
            | assumption
            | (rw [hm1]; (conv => cbv))
            | (rw [ha1]; (conv => cbv))
            | (rw [ha2]; (conv => cbv))
            | (refine hk.callA hls1 ?_; (conv => cbv))
            | (refine hk.callA hls2 ?_; (conv => cbv))
            | (refine hk.callA hsw2 ?_; (conv => cbv))
            | (refine hk.brLssT (by omega) ?_; (conv => cbv))
            | (refine hk.brLssF (by omega) ?_; (conv => cbv))
            | (refine hk.brLeqT (by omega) ?_; (conv => cbv))
            | (refine hk.brLeqF (by omega) ?_; (conv => cbv))
            | (refine hk.brGtrT (by omega) ?_; (conv => cbv))
            | (refine hk.brGtrF (by omega) ?_; (conv => cbv))
            | (refine hk.brGeqT (by omega) ?_; (conv => cbv))
            | (refine hk.brGeqF (by omega) ?_; (conv => cbv))
            | (refine hk.brEqlT (by omega) ?_; (conv => cbv))
            | (refine hk.brEqlF (by omega) ?_; (conv => cbv))
            | (refine hk.brNeqT (by omega) ?_; (conv => cbv))
            | (refine hk.brNeqF (by omega) ?_; (conv => cbv))
            | (refine hk.brLss (fun _ => ?_) (fun _ => ?_) <;> (conv => cbv))
            | (refine hk.brLeq (fun _ => ?_) (fun _ => ?_) <;> (conv => cbv))
            | (refine hk.brGtr (fun _ => ?_) (fun _ => ?_) <;> (conv => cbv))
            | (refine hk.brGeq (fun _ => ?_) (fun _ => ?_) <;> (conv => cbv))
            | (refine hk.brEql (fun _ => ?_) (fun _ => ?_) <;> (conv => cbv))
            | (refine hk.brNeq (fun _ => ?_) (fun _ => ?_) <;> (conv => cbv))
            | (refine hk.brNotT ?_; (conv => cbv))
            | (refine hk.brNotF ?_; (conv => cbv))
            | (refine hk.brNotS _ (by simp [hk.c2_lss, hk.c2_leq, hk.c2_gtr, hk.c2_geq, hk.c2_eql, hk.c2_neq, hk.bn_eq, hk.bq_eq]; rfl) ?_; (conv => cbv))
            | (refine hk.brBqS _ (by simp [hk.c2_lss, hk.c2_leq, hk.c2_gtr, hk.c2_geq, hk.c2_eql, hk.c2_neq, hk.bn_eq, hk.bq_eq]; rfl) ?_; (conv => cbv))
            | (refine hk.idxI (by first | omega | assumption) (by first | omega | assumption) ?_; (conv => cbv))
            | (refine hk.nzI (by first | omega | assumption | decide) ?_; (conv => cbv))
            | (refine hk.ge0I (by first | omega | assumption) ?_; (conv => cbv))
            | (refine hk.needI (by first | (simp only [rNd, hk.sb_eq, hk.ad_eq]; omega) | (simp [rNd, hk.sb_eq, hk.ad_eq]; omega)) ?_; (conv => cbv))
            | (refine hk.callA (by assumption) ?_; (conv => cbv))
            | (refine hk.calldA (by assumption) ?_; (conv => cbv))
            | (rw [hk.sb0]; (conv => cbv))
            | (rw [hk.ad0]; (conv => cbv))
            | exact hk.finB (by first | rfl | (simp [hk.c2_lss, hk.c2_leq, hk.c2_gtr, hk.c2_geq, hk.c2_eql, hk.c2_neq, hk.bn_eq, hk.bq_eq]; done) | assumption)
            | exact hk.fin1 rfl)
          refine hb (k, s, f) _ ⟨by simp only; omega, by simp only; omega, hsl, by simp only; omega, hu, .inr ⟨by simp only; omega, ?_⟩⟩ (by simp only; omega) ?_
          · rcases hst with ⟨e1, e2⟩ | ⟨e1, e2⟩
            · rw [← e2, ← e1]; exact hg9
            · exact e2
          dsimp only
          refine Gh.tm ?_
          repeat' (first | exact Holds.nil _ _ | refine Holds.cons (Wk.refl _ _) ?_ | refine Holds.cons (Wk.of_eq ?_) ?_)
      · obtain ⟨k, hkk⟩ : ∃ k, k = j2 := ⟨_, rfl⟩
        have hkid : kid ltI 0 l m.toNat i.toNat = k.toNat := by
          rw [kid, ← e1, ← e2, ← hb1, hkk, if_pos ⟨by omega, rfl⟩]
        subst hkk
        have hg9 : goesK ltI 0 l m.toNat i.toNat = ltI (l.getD k.toNat 0) (l.getD i.toNat 0) := by rw [goesK, hkid, decide_eq_true (by omega), Bool.true_and]
        have hls2 := hls l k i hl (by omega) (by omega) (by omega) (by omega)
        have hsw2 := hsw l i k hl (by omega) (by omega) (by omega) (by omega)
        obtain ⟨b, hb0⟩ : ∃ b, b = ltI (l.getD k.toNat 0) (l.getD i.toNat 0) := ⟨_, rfl⟩
        obtain ⟨s, hs0⟩ : ∃ s, s = swpL 0 l i.toNat k.toNat := ⟨_, rfl⟩
        obtain ⟨f, rfl⟩ : ∃ f', f = f' + 1 := ⟨f - 1, by omega⟩
        rw [← hb0] at hg9
        rw [downL, hg9, hkid, ← hs0] at hu
        have hsl : n = (s.length : Nat) := by rw [hs0, swpL_len]; exact hl
        rw [← hb0] at hls2
        rw [← hs0] at hsw2
        cases b
        · simp only [Bool.false_eq_true, if_false] at hu
          subst hu
          (conv => cbv)
          repeat' (first
            | assumption
            | (rw [hm1]; (conv => cbv))
            | (rw [ha1]; (conv => cbv))
            | (rw [ha2]; (conv => cbv))
            | (refine hk.callA hls1 ?_; (conv => cbv))
            | (refine hk.callA hls2 ?_; (conv => cbv))
            | (refine hx _ _ ?_; (conv => cbv))
            | (refine hk.brLssT (by omega) ?_; (conv => cbv))
            | (refine hk.brLssF (by omega) ?_; (conv => cbv))
            | (refine hk.brLeqT (by omega) ?_; (conv => cbv))
            | (refine hk.brLeqF (by omega) ?_; (conv => cbv))
            | (refine hk.brGtrT (by omega) ?_; (conv => cbv))
            | (refine hk.brGtrF (by omega) ?_; (conv => cbv))
            | (refine hk.brGeqT (by omega) ?_; (conv => cbv))
            | (refine hk.brGeqF (by omega) ?_; (conv => cbv))
            | (refine hk.brEqlT (by omega) ?_; (conv => cbv))
            | (refine hk.brEqlF (by omega) ?_; (conv => cbv))
            | (refine hk.brNeqT (by omega) ?_; (conv => cbv))
            | (refine hk.brNeqF (by omega) ?_; (conv => cbv))
            | (refine hk.brLss (fun _ => ?_) (fun _ => ?_) <;> (conv => cbv))
            | (refine hk.brLeq (fun _ => ?_) (fun _ => ?_) <;> (conv => cbv))
            | (refine hk.brGtr (fun _ => ?_) (fun _ => ?_) <;> (conv => cbv))
            | (refine hk.brGeq (fun _ => ?_) (fun _ => ?_) <;> (conv => cbv))
            | (refine hk.brEql (fun _ => ?_) (fun _ => ?_) <;> (conv => cbv))
            | (refine hk.brNeq (fun _ => ?_) (fun _ => ?_) <;> (conv => cbv))
            | (refine hk.brNotT ?_; (conv => cbv))
            | (refine hk.brNotF ?_; (conv => cbv))
            | (refine hk.brNotS _ (by simp [hk.c2_lss, hk.c2_leq, hk.c2_gtr, hk.c2_geq, hk.c2_eql, hk.c2_neq, hk.bn_eq, hk.bq_eq]; rfl) ?_; (conv => cbv))
            | (refine hk.brBqS _ (by simp [hk.c2_lss, hk.c2_leq, hk.c2_gtr, hk.c2_geq, hk.c2_eql, hk.c2_neq, hk.bn_eq, hk.bq_eq]; rfl) ?_; (conv => cbv))
            | (refine hk.idxI (by first | omega | assumption) (by first | omega | assumption) ?_; (conv => cbv))
            | (refine hk.nzI (by first | omega | assumption | decide) ?_; (conv => cbv))
            | (refine hk.ge0I (by first | omega | assumption) ?_; (conv => cbv))
            | (refine hk.needI (by first | (simp only [rNd, hk.sb_eq, hk.ad_eq]; omega) | (simp [rNd, hk.sb_eq, hk.ad_eq]; omega)) ?_; (conv => cbv))
            | (refine hk.callA (by assumption) ?_; (conv => cbv))
            | (refine hk.calldA (by assumption) ?_; (conv => cbv))
            | (rw [hk.sb0]; (conv => cbv))
            | (rw [hk.ad0]; (conv => cbv))
            | exact hk.finB (by first | rfl | (simp [hk.c2_lss, hk.c2_leq, hk.c2_gtr, hk.c2_geq, hk.c2_eql, hk.c2_neq, hk.bn_eq, hk.bq_eq]; done) | assumption)
            | exact hk.fin1 rfl)
          all_goals first
            | (refine hk.fin1 (congrArg _ ?_)
               rw [hk.c2_gtr, hB]
               rcases hst with ⟨e1, e2⟩ | ⟨e1, e2⟩
               · rw [← e2, ← e1, hg9, decide_eq_false (by omega)]
               · rw [e2, decide_eq_true (by omega)])
            | skip
        · simp only [if_true] at hu
          (conv => cbv)
          repeat' (first
            | assumption
            | (rw [hm1]; (conv => cbv))
            | (rw [ha1]; (conv => cbv))
            | (rw [ha2]; (conv => cbv))
            | (refine hk.callA hls1 ?_; (conv => cbv))
            | (refine hk.callA hls2 ?_; (conv => cbv))
            | (refine hk.callA hsw2 ?_; (conv => cbv))
            | (refine hk.brLssT (by omega) ?_; (conv => cbv))
            | (refine hk.brLssF (by omega) ?_; (conv => cbv))
            | (refine hk.brLeqT (by omega) ?_; (conv => cbv))
            | (refine hk.brLeqF (by omega) ?_; (conv => cbv))
            | (refine hk.brGtrT (by omega) ?_; (conv => cbv))
            | (refine hk.brGtrF (by omega) ?_; (conv => cbv))
            | (refine hk.brGeqT (by omega) ?_; (conv => cbv))
            | (refine hk.brGeqF (by omega) ?_; (conv => cbv))
            | (refine hk.brEqlT (by omega) ?_; (conv => cbv))
            | (refine hk.brEqlF (by omega) ?_; (conv => cbv))
            | (refine hk.brNeqT (by omega) ?_; (conv => cbv))
            | (refine hk.brNeqF (by omega) ?_; (conv => cbv))
            | (refine hk.brLss (fun _ => ?_) (fun _ => ?_) <;> (conv => cbv))
            | (refine hk.brLeq (fun _ => ?_) (fun _ => ?_) <;> (conv => cbv))
            | (refine hk.brGtr (fun _ => ?_) (fun _ => ?_) <;> (conv => cbv))
            | (refine hk.brGeq (fun _ => ?_) (fun _ => ?_) <;> (conv => cbv))
            | (refine hk.brEql (fun _ => ?_) (fun _ => ?_) <;> (conv => cbv))
            | (refine hk.brNeq (fun _ => ?_) (fun _ => ?_) <;> (conv => cbv))
            | (refine hk.brNotT ?_; (conv => cbv))
            | (refine hk.brNotF ?_; (conv => cbv))
            | (refine hk.brNotS _ (by simp [hk.c2_lss, hk.c2_leq, hk.c2_gtr, hk.c2_geq, hk.c2_eql, hk.c2_neq, hk.bn_eq, hk.bq_eq]; rfl) ?_; (conv => cbv))
            | (refine hk.brBqS _ (by simp [hk.c2_lss, hk.c2_leq, hk.c2_gtr, hk.c2_geq, hk.c2_eql, hk.c2_neq, hk.bn_eq, hk.bq_eq]; rfl) ?_; (conv => cbv))
            | (refine hk.idxI (by first | omega | assumption) (by first | omega | assumption) ?_; (conv => cbv))
            | (refine hk.nzI (by first | omega | assumption | decide) ?_; (conv => cbv))
            | (refine hk.ge0I (by first | omega | assumption) ?_; (conv => cbv))
            | (refine hk.needI (by first | (simp only [rNd, hk.sb_eq, hk.ad_eq]; omega) | (simp [rNd, hk.sb_eq, hk.ad_eq]; omega)) ?_; (conv => cbv))
            | (refine hk.callA (by assumption) ?_; (conv => cbv))
            | (refine hk.calldA (by assumption) ?_; (conv => cbv))
            | (rw [hk.sb0]; (conv => cbv))
            | (rw [hk.ad0]; (conv => cbv))
            | exact hk.finB (by first | rfl | (simp [hk.c2_lss, hk.c2_leq, hk.c2_gtr, hk.c2_geq, hk.c2_eql, hk.c2_neq, hk.bn_eq, hk.bq_eq]; done) | assumption)
            | exact hk.fin1 rfl)
          refine hb (k, s, f) _ ⟨by simp only; omega, by simp only; omega, hsl, by simp only; omega, hu, .inr ⟨by simp only; omega, ?_⟩⟩ (by simp only; omega) ?_
          · rcases hst with ⟨e1, e2⟩ | ⟨e1, e2⟩
            · rw [← e2, ← e1]; exact hg9
            · exact e2
          dsimp only
          refine Gh.tm ?_
          repeat' (first | exact Holds.nil _ _ | refine Holds.cons (Wk.refl _ _) ?_ | refine Holds.cons (Wk.of_eq ?_) ?_)
    · have hls1 := True.intro
      obtain ⟨k, hkk⟩ : ∃ k, k = j1 := ⟨_, rfl⟩
      have hkid : kid ltI 0 l m.toNat i.toNat = k.toNat := by
        rw [kid, if_neg (by omega), hkk, hj1]; omega
      subst hkk
      have hg9 : goesK ltI 0 l m.toNat i.toNat = ltI (l.getD k.toNat 0) (l.getD i.toNat 0) := by rw [goesK, hkid, decide_eq_true (by omega), Bool.true_and]
      have hls2 := hls l k i hl (by omega) (by omega) (by omega) (by omega)
      have hsw2 := hsw l i k hl (by omega) (by omega) (by omega) (by omega)
      obtain ⟨b, hb0⟩ : ∃ b, b = ltI (l.getD k.toNat 0) (l.getD i.toNat 0) := ⟨_, rfl⟩
      obtain ⟨s, hs0⟩ : ∃ s, s = swpL 0 l i.toNat k.toNat := ⟨_, rfl⟩
      obtain ⟨f, rfl⟩ : ∃ f', f = f' + 1 := ⟨f - 1, by omega⟩
      rw [← hb0] at hg9
      rw [downL, hg9, hkid, ← hs0] at hu
      have hsl : n = (s.length : Nat) := by rw [hs0, swpL_len]; exact hl
      rw [← hb0] at hls2
      rw [← hs0] at hsw2
      cases b
      · simp only [Bool.false_eq_true, if_false] at hu
        subst hu
        (conv => cbv)
        repeat' (first
          | assumption
          | (rw [hm1]; (conv => cbv))
          | (rw [ha1]; (conv => cbv))
          | (rw [ha2]; (conv => cbv))
          | (refine hk.callA hls1 ?_; (conv => cbv))
          | (refine hk.callA hls2 ?_; (conv => cbv))
          | (refine hx _ _ ?_; (conv => cbv))
          | (refine hk.brLssT (by omega) ?_; (conv => cbv))
          | (refine hk.brLssF (by omega) ?_; (conv => cbv))
          | (refine hk.brLeqT (by omega) ?_; (conv => cbv))
          | (refine hk.brLeqF (by omega) ?_; (conv => cbv))
          | (refine hk.brGtrT (by omega) ?_; (conv => cbv))
          | (refine hk.brGtrF (by omega) ?_; (conv => cbv))
          | (refine hk.brGeqT (by omega) ?_; (conv => cbv))
          | (refine hk.brGeqF (by omega) ?_; (conv => cbv))
          | (refine hk.brEqlT (by omega) ?_; (conv => cbv))
          | (refine hk.brEqlF (by omega) ?_; (conv => cbv))
          | (refine hk.brNeqT (by omega) ?_; (conv => cbv))
          | (refine hk.brNeqF (by omega) ?_; (conv => cbv))
          | (refine hk.brLss (fun _ => ?_) (fun _ => ?_) <;> (conv => cbv))
          | (refine hk.brLeq (fun _ => ?_) (fun _ => ?_) <;> (conv => cbv))
          | (refine hk.brGtr (fun _ => ?_) (fun _ => ?_) <;> (conv => cbv))
          | (refine hk.brGeq (fun _ => ?_) (fun _ => ?_) <;> (conv => cbv))
          | (refine hk.brEql (fun _ => ?_) (fun _ => ?_) <;> (conv => cbv))
          | (refine hk.brNeq (fun _ => ?_) (fun _ => ?_) <;> (conv => cbv))
          | (refine hk.brNotT ?_; (conv => cbv))
          | (refine hk.brNotF ?_; (conv => cbv))
          | (refine hk.brNotS _ (by simp [hk.c2_lss, hk.c2_leq, hk.c2_gtr, hk.c2_geq, hk.c2_eql, hk.c2_neq, hk.bn_eq, hk.bq_eq]; rfl) ?_; (conv => cbv))
          | (refine hk.brBqS _ (by simp [hk.c2_lss, hk.c2_leq, hk.c2_gtr, hk.c2_geq, hk.c2_eql, hk.c2_neq, hk.bn_eq, hk.bq_eq]; rfl) ?_; (conv => cbv))
          | (refine hk.idxI (by first | omega | assumption) (by first | omega | assumption) ?_; (conv => cbv))
          | (refine hk.nzI (by first | omega | assumption | decide) ?_; (conv => cbv))
          | (refine hk.ge0I (by first | omega | assumption) ?_; (conv => cbv))
          | (refine hk.needI (by first | (simp only [rNd, hk.sb_eq, hk.ad_eq]; omega) | (simp [rNd, hk.sb_eq, hk.ad_eq]; omega)) ?_; (conv => cbv))
          | (refine hk.callA (by assumption) ?_; (conv => cbv))
          | (refine hk.calldA (by assumption) ?_; (conv => cbv))
          | (rw [hk.sb0]; (conv => cbv))
          | (rw [hk.ad0]; (conv => cbv))
          | exact hk.finB (by first | rfl | (simp [hk.c2_lss, hk.c2_leq, hk.c2_gtr, hk.c2_geq, hk.c2_eql, hk.c2_neq, hk.bn_eq, hk.bq_eq]; done) | assumption)
          | exact hk.fin1 rfl)
        all_goals first
          | (refine hk.fin1 (congrArg _ ?_)
             rw [hk.c2_gtr, hB]
             rcases hst with ⟨e1, e2⟩ | ⟨e1, e2⟩
             · rw [← e2, ← e1, hg9, decide_eq_false (by omega)]
             · rw [e2, decide_eq_true (by omega)])
          | skip
      · simp only [if_true] at hu
        (conv => cbv)
        repeat' (first
          | assumption
          | (rw [hm1]; (conv => cbv))
          | (rw [ha1]; (conv => cbv))
          | (rw [ha2]; (conv => cbv))
          | (refine hk.callA hls1 ?_; (conv => cbv))
          | (refine hk.callA hls2 ?_; (conv => cbv))
          | (refine hk.callA hsw2 ?_; (conv => cbv))
          | (refine hk.brLssT (by omega) ?_; (conv => cbv))
          | (refine hk.brLssF (by omega) ?_; (conv => cbv))
          | (refine hk.brLeqT (by omega) ?_; (conv => cbv))
          | (refine hk.brLeqF (by omega) ?_; (conv => cbv))
          | (refine hk.brGtrT (by omega) ?_; (conv => cbv))
          | (refine hk.brGtrF (by omega) ?_; (conv => cbv))
          | (refine hk.brGeqT (by omega) ?_; (conv => cbv))
          | (refine hk.brGeqF (by omega) ?_; (conv => cbv))
          | (refine hk.brEqlT (by omega) ?_; (conv => cbv))
          | (refine hk.brEqlF (by omega) ?_; (conv => cbv))
          | (refine hk.brNeqT (by omega) ?_; (conv => cbv))
          | (refine hk.brNeqF (by omega) ?_; (conv => cbv))
          | (refine hk.brLss (fun _ => ?_) (fun _ => ?_) <;> (conv => cbv))
          | (refine hk.brLeq (fun _ => ?_) (fun _ => ?_) <;> (conv => cbv))
          | (refine hk.brGtr (fun _ => ?_) (fun _ => ?_) <;> (conv => cbv))
          | (refine hk.brGeq (fun _ => ?_) (fun _ => ?_) <;> (conv => cbv))
          | (refine hk.brEql (fun _ => ?_) (fun _ => ?_) <;> (conv => cbv))
          | (refine hk.brNeq (fun _ => ?_) (fun _ => ?_) <;> (conv => cbv))
          | (refine hk.brNotT ?_; (conv => cbv))
          | (refine hk.brNotF ?_; (conv => cbv))
          | (refine hk.brNotS _ (by simp [hk.c2_lss, hk.c2_leq, hk.c2_gtr, hk.c2_geq, hk.c2_eql, hk.c2_neq, hk.bn_eq, hk.bq_eq]; rfl) ?_; (conv => cbv))
          | (refine hk.brBqS _ (by simp [hk.c2_lss, hk.c2_leq, hk.c2_gtr, hk.c2_geq, hk.c2_eql, hk.c2_neq, hk.bn_eq, hk.bq_eq]; rfl) ?_; (conv => cbv))
          | (refine hk.idxI (by first | omega | assumption) (by first | omega | assumption) ?_; (conv => cbv))
          | (refine hk.nzI (by first | omega | assumption | decide) ?_; (conv => cbv))
          | (refine hk.ge0I (by first | omega | assumption) ?_; (conv => cbv))
          | (refine hk.needI (by first | (simp only [rNd, hk.sb_eq, hk.ad_eq]; omega) | (simp [rNd, hk.sb_eq, hk.ad_eq]; omega)) ?_; (conv => cbv))
          | (refine hk.callA (by assumption) ?_; (conv => cbv))
          | (refine hk.calldA (by assumption) ?_; (conv => cbv))
          | (rw [hk.sb0]; (conv => cbv))
          | (rw [hk.ad0]; (conv => cbv))
          | exact hk.finB (by first | rfl | (simp [hk.c2_lss, hk.c2_leq, hk.c2_gtr, hk.c2_geq, hk.c2_eql, hk.c2_neq, hk.bn_eq, hk.bq_eq]; done) | assumption)
          | exact hk.fin1 rfl)
        refine hb (k, s, f) _ ⟨by simp only; omega, by simp only; omega, hsl, by simp only; omega, hu, .inr ⟨by simp only; omega, ?_⟩⟩ (by simp only; omega) ?_
        · rcases hst with ⟨e1, e2⟩ | ⟨e1, e2⟩
          · rw [← e2, ← e1]; exact hg9
          · exact e2
        dsimp only
        refine Gh.tm ?_
        repeat' (first | exact Holds.nil _ _ | refine Holds.cons (Wk.refl _ _) ?_ | refine Holds.cons (Wk.of_eq ?_) ?_)
  · have hg9 : goesK ltI 0 l m.toNat i.toNat = false := by rw [goesK, decide_eq_false (by omega), Bool.false_and]
    have e : l = R := by
      rw [← hu]
      cases f with
      | zero => rfl
      | succ f => rw [downL, hg9]; rfl
    subst e
    (conv => cbv)
    repeat' (first
      | assumption
      | (rw [hm1]; (conv => cbv))
      | (rw [ha1]; (conv => cbv))
      | (rw [ha2]; (conv => cbv))
      | (refine hx _ _ ?_; (conv => cbv))
      | (refine hk.brLssT (by omega) ?_; (conv => cbv))
      | (refine hk.brLssF (by omega) ?_; (conv => cbv))
      | (refine hk.brLeqT (by omega) ?_; (conv => cbv))
      | (refine hk.brLeqF (by omega) ?_; (conv => cbv))
      | (refine hk.brGtrT (by omega) ?_; (conv => cbv))
      | (refine hk.brGtrF (by omega) ?_; (conv => cbv))
      | (refine hk.brGeqT (by omega) ?_; (conv => cbv))
      | (refine hk.brGeqF (by omega) ?_; (conv => cbv))
      | (refine hk.brEqlT (by omega) ?_; (conv => cbv))
      | (refine hk.brEqlF (by omega) ?_; (conv => cbv))
      | (refine hk.brNeqT (by omega) ?_; (conv => cbv))
      | (refine hk.brNeqF (by omega) ?_; (conv => cbv))
      | (refine hk.brLss (fun _ => ?_) (fun _ => ?_) <;> (conv => cbv))
      | (refine hk.brLeq (fun _ => ?_) (fun _ => ?_) <;> (conv => cbv))
      | (refine hk.brGtr (fun _ => ?_) (fun _ => ?_) <;> (conv => cbv))
      | (refine hk.brGeq (fun _ => ?_) (fun _ => ?_) <;> (conv => cbv))
      | (refine hk.brEql (fun _ => ?_) (fun _ => ?_) <;> (conv => cbv))
      | (refine hk.brNeq (fun _ => ?_) (fun _ => ?_) <;> (conv => cbv))
      | (refine hk.brNotT ?_; (conv => cbv))
      | (refine hk.brNotF ?_; (conv => cbv))
      | (refine hk.brNotS _ (by simp [hk.c2_lss, hk.c2_leq, hk.c2_gtr, hk.c2_geq, hk.c2_eql, hk.c2_neq, hk.bn_eq, hk.bq_eq]; rfl) ?_; (conv => cbv))
      | (refine hk.brBqS _ (by simp [hk.c2_lss, hk.c2_leq, hk.c2_gtr, hk.c2_geq, hk.c2_eql, hk.c2_neq, hk.bn_eq, hk.bq_eq]; rfl) ?_; (conv => cbv))
      | (refine hk.idxI (by first | omega | assumption) (by first | omega | assumption) ?_; (conv => cbv))
      | (refine hk.nzI (by first | omega | assumption | decide) ?_; (conv => cbv))
      | (refine hk.ge0I (by first | omega | assumption) ?_; (conv => cbv))
      | (refine hk.needI (by first | (simp only [rNd, hk.sb_eq, hk.ad_eq]; omega) | (simp [rNd, hk.sb_eq, hk.ad_eq]; omega)) ?_; (conv => cbv))
      | (refine hk.callA (by assumption) ?_; (conv => cbv))
      | (refine hk.calldA (by assumption) ?_; (conv => cbv))
      | (rw [hk.sb0]; (conv => cbv))
      | (rw [hk.ad0]; (conv => cbv))
      | exact hk.finB (by first | rfl | (simp [hk.c2_lss, hk.c2_leq, hk.c2_gtr, hk.c2_geq, hk.c2_eql, hk.c2_neq, hk.bn_eq, hk.bq_eq]; done) | assumption)
      | exact hk.fin1 rfl)
    all_goals first
      | (refine hk.fin1 (congrArg _ ?_)
         rw [hk.c2_gtr, hB]
         rcases hst with ⟨e1, e2⟩ | ⟨e1, e2⟩
         · rw [← e2, ← e1, hg9, decide_eq_false (by omega)]
         · rw [e2, decide_eq_true (by omega)])
      | skip
end Go.Proofs.Ytnnpookoencpnab
