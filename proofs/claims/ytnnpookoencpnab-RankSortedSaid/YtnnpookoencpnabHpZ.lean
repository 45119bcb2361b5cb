/-
  Contracts of functions of the program, proved over the abstract machine of the Al texts.
-/
import Derived.Test.YtnnpookoencpnabTryTab
import Derived.Test.YtnnpookoencpnabAl4
import Derived.Test.YtnnpookoencpnabBase
import Derived.Test.YtnnpookoencpnabRkX
import Derived.Test.YtnnpookoencpnabRkY
import Derived.Test.YtnnpookoencpnabHpX
import Derived.Test.YtnnpookoencpnabHpY
set_option maxHeartbeats 4000000
set_option maxRecDepth 20000
set_option linter.unusedSimpArgs false
set_option linter.unusedVariables false
open Go Go.AL
namespace Go.Proofs.Ytnnpookoencpnab
noncomputable def srtO (ms : List Int) : Option (List Int) := if rightB ms = true then srt ms ms.length ms.length [] else none
theorem psorted_spec (ms : List Int) (h : Heap) (hl : ms.length ≤ 9223372036854775807) : Does PP 5 [LI ms] h (Is (.tup [LI ((srtO ms).getD []), I (if (srtO ms).isSome = true then 0 else 11)]) h) := by
  have hrt := fun h => right_spec ms h hl
  refine pure0 ?_ rfl rfl h
  by_cases hr : rightB ms = true
  case neg =>
    have hr : rightB ms = false := by simpa using hr
    rw [srtO, hr]
    rw [hr] at hrt
    refine doesF P_ok Try.f5 (by kernel_rfl) (by kernel_rfl) ?_
    intro i2 c2 u1 cv mx mn ad sbt bn bq ba lnI gtI apI sbI stI rpI lnG gtG apG sbG stG rpG fi fb fs fl fg fc sln sgt sap ssb sc b2s s2b nd call calld callv callvd loop rfun fin hk
    (conv => cbv)
    repeat' (first
      | assumption
      | (refine hk.callA (hrt _) ?_; (conv => cbv))
      | (refine hk.calldA hrt ?_; (conv => cbv))
      | (refine hk.brLssT (by omega) ?_; (conv => cbv))
      | (refine hk.brLssF (by omega) ?_; (conv => cbv))
      | (refine hk.brLeqT (by omega) ?_; (conv => cbv))
      | (refine hk.brLeqF (by omega) ?_; (conv => cbv))
      | (refine hk.brGtrT (by omega) ?_; (conv => cbv))
      | (refine hk.brGtrF (by omega) ?_; (conv => cbv))
      | (refine hk.brGeqT (by omega) ?_; (conv => cbv))
      | (refine hk.brGeqF (by omega) ?_; (conv => cbv))
      | (refine hk.brEqlT (by omega) ?_; (conv => cbv))
      | (refine hk.brEqlF (by omega) ?_; (conv => cbv))
      | (refine hk.brNeqT (by omega) ?_; (conv => cbv))
      | (refine hk.brNeqF (by omega) ?_; (conv => cbv))
      | (refine hk.brLss (fun _ => ?_) (fun _ => ?_) <;> (conv => cbv))
      | (refine hk.brLeq (fun _ => ?_) (fun _ => ?_) <;> (conv => cbv))
      | (refine hk.brGtr (fun _ => ?_) (fun _ => ?_) <;> (conv => cbv))
      | (refine hk.brGeq (fun _ => ?_) (fun _ => ?_) <;> (conv => cbv))
      | (refine hk.brEql (fun _ => ?_) (fun _ => ?_) <;> (conv => cbv))
      | (refine hk.brNeq (fun _ => ?_) (fun _ => ?_) <;> (conv => cbv))
      | (refine hk.brNotT ?_; (conv => cbv))
      | (refine hk.brNotF ?_; (conv => cbv))
      | (refine hk.brNotS _ (by simp [hk.c2_lss, hk.c2_leq, hk.c2_gtr, hk.c2_geq, hk.c2_eql, hk.c2_neq, hk.bn_eq, hk.bq_eq]; rfl) ?_; (conv => cbv))
      | (refine hk.brBqS _ (by simp [hk.c2_lss, hk.c2_leq, hk.c2_gtr, hk.c2_geq, hk.c2_eql, hk.c2_neq, hk.bn_eq, hk.bq_eq]; rfl) ?_; (conv => cbv))
      | (refine hk.idxI (by first | omega | assumption) (by first | omega | assumption) ?_; (conv => cbv))
      | (refine hk.nzI (by first | omega | assumption | decide) ?_; (conv => cbv))
      | (refine hk.ge0I (by first | omega | assumption) ?_; (conv => cbv))
      | (refine hk.needI (by first | (simp only [rNd, hk.sb_eq, hk.ad_eq]; omega) | (simp [rNd, hk.sb_eq, hk.ad_eq]; omega)) ?_; (conv => cbv))
      | (refine hk.callA (by assumption) ?_; (conv => cbv))
      | (refine hk.calldA (by assumption) ?_; (conv => cbv))
      | (rw [hk.sb0]; (conv => cbv))
      | (rw [hk.ad0]; (conv => cbv))
      | exact hk.finB (by first | rfl | (simp [hk.c2_lss, hk.c2_leq, hk.c2_gtr, hk.c2_geq, hk.c2_eql, hk.c2_neq, hk.bn_eq, hk.bq_eq]; done) | assumption)
      | exact hk.fin1 rfl)
    all_goals exact hk.fin0 rfl rfl (Wk.tup ⟨Wk.nilL _ _, .refl _ _, trivial⟩)
  have hR := (rightB_iff ms).1 hr
  rw [hr] at hrt
  have hst : ∀ o, o = srtO ms → srt ms ms.length (ms.length - ([] : List Int).length) [] = o := fun o e => by rw [e, srtO, if_pos hr]; rfl
  obtain ⟨S, hS⟩ : ∃ S, S = srtO ms := ⟨_, rfl⟩
  have hst := hst S hS
  rw [← hS]
  clear hS
  obtain ⟨rl, hrl⟩ : ∃ r, r = S.getD [] := ⟨_, rfl⟩
  obtain ⟨re, hre⟩ : ∃ r : Int, r = if S.isSome = true then 0 else 11 := ⟨_, rfl⟩
  rw [← hrl, ← hre]
  have hI := SrtI.start ms
  have hml : ms.length ≤ 8 := hR.2.1
  have hfr0 : Does PP 15 [.ptr 1 0, LI ms, I (-1)] [.rw 0 (.il .i64 []), .box [.sl 0 0 0 0]] (Is (.tup []) [.rw (0 + frN ms (-1) ms.length) (.il .i64 (frL ms (-1) [] ms.length)), .box [.sl 0 (0 + frN ms (-1) ms.length) 0 (0 + (frN ms (-1) ms.length : Nat))]]) :=
    (free_spec 0 0 (-1) [] ms rfl (by omega) hml).renI [1, 0] rfl (by decide) rfl ⟨rfl, rfl, trivial⟩ rfl rfl rfl rfl rfl rfl
  have hfr : ∀ g n m L o o2, n = ((L.length : Nat) : Int) → n ≤ 8 → Does PP 15 [.ptr 1 0, LI ms, I m] [.rw g (.il .i64 L), .box [.sl 0 g 0 n], o, o2] (Is (.tup []) [.rw (g + frN ms m ms.length) (.il .i64 (frL ms m L ms.length)), .box [.sl 0 (g + frN ms m ms.length) 0 (n + (frN ms m ms.length : Nat))], o, o2]) := fun g n m L o o2 a b =>
    (free_spec g n m L ms a (by omega) hml).renI [1, 0] rfl (by decide) rfl ⟨rfl, rfl, trivial⟩ rfl rfl rfl rfl rfl rfl
  have hle : ∀ g n L o, n = ((L.length : Nat) : Int) → Does PP 16 [.sl 0 g 0 n] [.rw g (.il .i64 L), .box [.sl 0 g 0 n], o] (Is (I n) [.rw g (.il .i64 L), .box [.sl 0 g 0 n], o]) := fun g n L o a =>
    (qlen_spec g n L a).renI [1, 0] rfl (by decide) rfl ⟨rfl, rfl, trivial⟩ rfl rfl rfl rfl rfl rfl
  have hpo : ∀ g n L o, n = ((L.length : Nat) : Int) → 1 ≤ n → n ≤ 8 → Does PP 17 [.iface 39 (.ptr 1 0)] [.rw g (.il .i64 L), .box [.sl 0 g 0 n], o] (Is (.iface 3 (I (L.getD 0 0))) [.rw (g + 1) (.il .i64 (popL ltI 0 L)), .box [.sl 0 (g + 1) 0 (n - 1)], o]) := fun g n L o a b c =>
    (hpop_spec g n L a b (by omega)).renI [1, 0] rfl (by decide) rfl ⟨rfl, rfl, trivial⟩ rfl rfl rfl rfl rfl rfl
  have hL0 : (0 : Int) + (frN ms (-1) ms.length : Nat) = ((frL ms (-1) [] ms.length).length : Nat) := by rw [frL_len]; simp
  rw [hL0] at hfr0
  obtain ⟨L0, hL00⟩ : ∃ L, L = frL ms (-1) [] ms.length := ⟨_, rfl⟩
  obtain ⟨g0, hg00⟩ : ∃ L, L = 0 + frN ms (-1) ms.length := ⟨_, rfl⟩
  obtain ⟨n0, hn00⟩ : ∃ n : Int, n = (L0.length : Nat) := ⟨_, rfl⟩
  rw [← hL00] at hI
  rw [← hL00, ← hg00, ← hn00] at hfr0
  clear hL0
  refine doesFr (fun i => Nat.ble 64 i) P_ok Try.f5 (by kernel_rfl) (by kernel_rfl) ?_
  intro i2 c2 u1 cv mx mn ad sbt bn bq ba lnI gtI apI sbI stI rpI lnG gtG apG sbG stG rpG fi fb fs fl fg fc sln sgt sap ssb sc b2s s2b nd call calld callv callvd loop rfun fin hk
  obtain ⟨N, hN⟩ : ∃ N : Int, N = (ms.length : Nat) := ⟨_, rfl⟩
  have hlm : lnI ms = N := by rw [hk.lnI_eq]; omega
  have hl1 : ∀ x, lnI [x] = 1 := fun x => hk.lnI_eq _
  have hln := hk.lnI_eq
  have hap := hk.apI_eq
  (conv => cbv)
  repeat' (first
    | assumption
    | (refine hk.callA (hrt _) ?_; (conv => cbv))
    | (refine hk.calldA hrt ?_; (conv => cbv))
    | (refine hk.callA hfr0 ?_; (conv => cbv))
    | (refine hk.brLssT (by omega) ?_; (conv => cbv))
    | (refine hk.brLssF (by omega) ?_; (conv => cbv))
    | (refine hk.brLeqT (by omega) ?_; (conv => cbv))
    | (refine hk.brLeqF (by omega) ?_; (conv => cbv))
    | (refine hk.brGtrT (by omega) ?_; (conv => cbv))
    | (refine hk.brGtrF (by omega) ?_; (conv => cbv))
    | (refine hk.brGeqT (by omega) ?_; (conv => cbv))
    | (refine hk.brGeqF (by omega) ?_; (conv => cbv))
    | (refine hk.brEqlT (by omega) ?_; (conv => cbv))
    | (refine hk.brEqlF (by omega) ?_; (conv => cbv))
    | (refine hk.brNeqT (by omega) ?_; (conv => cbv))
    | (refine hk.brNeqF (by omega) ?_; (conv => cbv))
    | (refine hk.brLss (fun _ => ?_) (fun _ => ?_) <;> (conv => cbv))
    | (refine hk.brLeq (fun _ => ?_) (fun _ => ?_) <;> (conv => cbv))
    | (refine hk.brGtr (fun _ => ?_) (fun _ => ?_) <;> (conv => cbv))
    | (refine hk.brGeq (fun _ => ?_) (fun _ => ?_) <;> (conv => cbv))
    | (refine hk.brEql (fun _ => ?_) (fun _ => ?_) <;> (conv => cbv))
    | (refine hk.brNeq (fun _ => ?_) (fun _ => ?_) <;> (conv => cbv))
    | (refine hk.brNotT ?_; (conv => cbv))
    | (refine hk.brNotF ?_; (conv => cbv))
    | (refine hk.brNotS _ (by simp [hk.c2_lss, hk.c2_leq, hk.c2_gtr, hk.c2_geq, hk.c2_eql, hk.c2_neq, hk.bn_eq, hk.bq_eq]; rfl) ?_; (conv => cbv))
    | (refine hk.brBqS _ (by simp [hk.c2_lss, hk.c2_leq, hk.c2_gtr, hk.c2_geq, hk.c2_eql, hk.c2_neq, hk.bn_eq, hk.bq_eq]; rfl) ?_; (conv => cbv))
    | (refine hk.idxI (by first | omega | assumption) (by first | omega | assumption) ?_; (conv => cbv))
    | (refine hk.nzI (by first | omega | assumption | decide) ?_; (conv => cbv))
    | (refine hk.ge0I (by first | omega | assumption) ?_; (conv => cbv))
    | (refine hk.needI (by first | (simp only [rNd, hk.sb_eq, hk.ad_eq]; omega) | (simp [rNd, hk.sb_eq, hk.ad_eq]; omega)) ?_; (conv => cbv))
    | (refine hk.callA (by assumption) ?_; (conv => cbv))
    | (refine hk.calldA (by assumption) ?_; (conv => cbv))
    | (rw [hk.sb0]; (conv => cbv))
    | (rw [hk.ad0]; (conv => cbv))
    | exact hk.finB (by first | rfl | (simp [hk.c2_lss, hk.c2_leq, hk.c2_gtr, hk.c2_geq, hk.c2_eql, hk.c2_neq, hk.bn_eq, hk.bq_eq]; done) | assumption)
    | exact hk.fin1 rfl)
  refine hk.loopI (loop_rule (α := Nat × Int × List Int × List Int) (fun x => [(0, .ls (.il .i64 ms) .any), (4, .ptr 1 0), (5, .ls (.il .i64 x.2.2.2) (.tok 2 0))]) (fun x => [.rw x.1 (.il .i64 x.2.2.1), .box [.sl 0 x.1 0 x.2.1], .tok 0])
    (fun x => x.2.1 = (x.2.2.1.length : Nat) ∧ SrtI ms x.2.2.2 x.2.2.1 ∧ srt ms ms.length (ms.length - x.2.2.2.length) x.2.2.2 = S) (fun x => ms.length - x.2.2.2.length) (g0, n0, L0, []) ⟨hn00, hI, hst⟩ ?_ ?_)
  · refine Gh.trans (Gh.thaw 5 (.il .i64 []) rfl trivial rfl) (Gh.tm ?_)
    repeat' (first | exact Holds.nil _ _ | refine Holds.cons (Wk.refl _ _) ?_)
  intro ⟨g, n, L, out⟩ ⟨hnL, hinv, hsS⟩ Q' hb hx hr2
  simp only at hnL hinv hsS
  dsimp only
  have hll := hinv.llen
  have hol := hinv.olen
  have hle := hle g n L (.tok 0) hnL
  by_cases hn0 : 1 ≤ n
  · have hpo := hpo g n L (.tok 0) hnL hn0 (by omega)
    obtain ⟨ht1, ht2⟩ := hinv.top (by omega)
    obtain ⟨hs1, hs2⟩ := hinv.srt (by omega)
    have hnx := hinv.step (by omega)
    obtain ⟨c, hc⟩ : ∃ c, c = L.getD 0 0 := ⟨_, rfl⟩
    have hPl : n - 1 = ((popL ltI 0 L).length : Nat) := by rw [popL_len]; omega
    obtain ⟨P, hP⟩ : ∃ c, c = popL ltI 0 L := ⟨_, rfl⟩
    rw [← hc] at hpo hs1 hnx
    rw [← hP] at hpo hnx hPl
    obtain ⟨n1, hn1⟩ : ∃ n1, n1 = n - 1 := ⟨_, rfl⟩
    rw [← hn1] at hpo hPl
    obtain ⟨g1, hg1⟩ : ∃ n1, n1 = g + 1 := ⟨_, rfl⟩
    rw [← hg1] at hpo
    have hfr := hfr g1 n1 c P (.tok 1) (.tok 0) hPl (by omega)
    have hF2 : n1 + (frN ms c ms.length : Nat) = ((frL ms c P ms.length).length : Nat) := by rw [frL_len, hPl]; omega
    obtain ⟨L2, hL2⟩ : ∃ n1, n1 = frL ms c P ms.length := ⟨_, rfl⟩
    obtain ⟨g2, hg2⟩ : ∃ n1, n1 = g1 + frN ms c ms.length := ⟨_, rfl⟩
    obtain ⟨n2, hn2⟩ : ∃ x : Int, x = (L2.length : Nat) := ⟨_, rfl⟩
    rw [← hL2] at hF2
    rw [← hL2, ← hg2, hF2, ← hn2] at hfr
    rw [← hL2] at hnx
    obtain ⟨out2, ho2⟩ : ∃ o, o = out ++ [c] := ⟨_, rfl⟩
    rw [← ho2] at hnx hs1
    have hap2 : apI out [c] = out2 := by rw [hap]; exact ho2.symm
    obtain ⟨ol, hol0⟩ : ∃ o : Int, o = (out.length : Nat) := ⟨_, rfl⟩
    have hlo : lnI out = ol := by rw [hln]; omega
    have hnd : rNd (.room (ad ol 1) 8) := by simp only [rNd, hk.ad_eq]; omega
    (conv => cbv)
    repeat' (first
      | assumption
      | (refine hk.callA hle ?_; (conv => cbv))
      | (refine hk.callA hpo ?_; (conv => cbv))
      | (rw [hap2]; (conv => cbv))
      | (rw [hlo, hl1]; (conv => cbv))
      | (refine hk.needI hnd ?_; (conv => cbv))
      | (refine hk.callA hfr ?_; (conv => cbv))
      | (refine hk.brLssT (by omega) ?_; (conv => cbv))
      | (refine hk.brLssF (by omega) ?_; (conv => cbv))
      | (refine hk.brLeqT (by omega) ?_; (conv => cbv))
      | (refine hk.brLeqF (by omega) ?_; (conv => cbv))
      | (refine hk.brGtrT (by omega) ?_; (conv => cbv))
      | (refine hk.brGtrF (by omega) ?_; (conv => cbv))
      | (refine hk.brGeqT (by omega) ?_; (conv => cbv))
      | (refine hk.brGeqF (by omega) ?_; (conv => cbv))
      | (refine hk.brEqlT (by omega) ?_; (conv => cbv))
      | (refine hk.brEqlF (by omega) ?_; (conv => cbv))
      | (refine hk.brNeqT (by omega) ?_; (conv => cbv))
      | (refine hk.brNeqF (by omega) ?_; (conv => cbv))
      | (refine hk.brLss (fun _ => ?_) (fun _ => ?_) <;> (conv => cbv))
      | (refine hk.brLeq (fun _ => ?_) (fun _ => ?_) <;> (conv => cbv))
      | (refine hk.brGtr (fun _ => ?_) (fun _ => ?_) <;> (conv => cbv))
      | (refine hk.brGeq (fun _ => ?_) (fun _ => ?_) <;> (conv => cbv))
      | (refine hk.brEql (fun _ => ?_) (fun _ => ?_) <;> (conv => cbv))
      | (refine hk.brNeq (fun _ => ?_) (fun _ => ?_) <;> (conv => cbv))
      | (refine hk.brNotT ?_; (conv => cbv))
      | (refine hk.brNotF ?_; (conv => cbv))
      | (refine hk.brNotS _ (by simp [hk.c2_lss, hk.c2_leq, hk.c2_gtr, hk.c2_geq, hk.c2_eql, hk.c2_neq, hk.bn_eq, hk.bq_eq]; rfl) ?_; (conv => cbv))
      | (refine hk.brBqS _ (by simp [hk.c2_lss, hk.c2_leq, hk.c2_gtr, hk.c2_geq, hk.c2_eql, hk.c2_neq, hk.bn_eq, hk.bq_eq]; rfl) ?_; (conv => cbv))
      | (refine hk.idxI (by first | omega | assumption) (by first | omega | assumption) ?_; (conv => cbv))
      | (refine hk.nzI (by first | omega | assumption | decide) ?_; (conv => cbv))
      | (refine hk.ge0I (by first | omega | assumption) ?_; (conv => cbv))
      | (refine hk.needI (by first | (simp only [rNd, hk.sb_eq, hk.ad_eq]; omega) | (simp [rNd, hk.sb_eq, hk.ad_eq]; omega)) ?_; (conv => cbv))
      | (refine hk.callA (by assumption) ?_; (conv => cbv))
      | (refine hk.calldA (by assumption) ?_; (conv => cbv))
      | (rw [hk.sb0]; (conv => cbv))
      | (rw [hk.ad0]; (conv => cbv))
      | exact hk.finB (by first | rfl | (simp [hk.c2_lss, hk.c2_leq, hk.c2_gtr, hk.c2_geq, hk.c2_eql, hk.c2_neq, hk.bn_eq, hk.bq_eq]; done) | assumption)
      | exact hk.fin1 rfl)
    refine hb (g2, n2, L2, out2) _ ⟨hn2, hnx, by rw [← hs1]; exact hsS⟩ (by simp only; rw [ho2, List.length_append, List.length_singleton]; omega) ?_
    dsimp only
    refine Gh.retok 2 1 rfl (Nat.le_of_ble_eq_true rfl) ?_ rfl rfl
    repeat' (first | exact HoldsT.nil _ _ _ _ | refine HoldsT.tok rfl ?_ | refine HoldsT.cons (Wk.refl _ _) rfl ?_ | refine HoldsT.cons (Wk.of_eq ?_) rfl ?_)
    all_goals first
      | (rw [← hk.add64 0 1 (by omega) (by omega)]; rfl)
      | rfl
      | skip
  · have hL0 : L.length = 0 := by omega
    have hn00 : n = 0 := by omega
    have hfin := hinv.fin hL0
    rw [hsS] at hfin
    obtain ⟨ol, hol0⟩ : ∃ o : Int, o = (out.length : Nat) := ⟨_, rfl⟩
    have hlo : lnI out = ol := by rw [hln]; omega
    subst hn00
    by_cases hlt : out.length < ms.length
    · rw [if_pos hlt] at hfin
      subst hfin
      simp only [Option.getD, Option.isSome, Bool.false_eq_true, if_false] at hrl hre
      subst hrl
      subst hre
      (conv => cbv)
      repeat' (first
        | assumption
        | (refine hk.callA hle ?_; (conv => cbv))
        | (refine hx _ _ ?_; (conv => cbv))
        | (rw [hlo]; (conv => cbv))
        | (rw [hlm]; (conv => cbv))
        | (refine hk.brLssT (by omega) ?_; (conv => cbv))
        | (refine hk.brLssF (by omega) ?_; (conv => cbv))
        | (refine hk.brLeqT (by omega) ?_; (conv => cbv))
        | (refine hk.brLeqF (by omega) ?_; (conv => cbv))
        | (refine hk.brGtrT (by omega) ?_; (conv => cbv))
        | (refine hk.brGtrF (by omega) ?_; (conv => cbv))
        | (refine hk.brGeqT (by omega) ?_; (conv => cbv))
        | (refine hk.brGeqF (by omega) ?_; (conv => cbv))
        | (refine hk.brEqlT (by omega) ?_; (conv => cbv))
        | (refine hk.brEqlF (by omega) ?_; (conv => cbv))
        | (refine hk.brNeqT (by omega) ?_; (conv => cbv))
        | (refine hk.brNeqF (by omega) ?_; (conv => cbv))
        | (refine hk.brLss (fun _ => ?_) (fun _ => ?_) <;> (conv => cbv))
        | (refine hk.brLeq (fun _ => ?_) (fun _ => ?_) <;> (conv => cbv))
        | (refine hk.brGtr (fun _ => ?_) (fun _ => ?_) <;> (conv => cbv))
        | (refine hk.brGeq (fun _ => ?_) (fun _ => ?_) <;> (conv => cbv))
        | (refine hk.brEql (fun _ => ?_) (fun _ => ?_) <;> (conv => cbv))
        | (refine hk.brNeq (fun _ => ?_) (fun _ => ?_) <;> (conv => cbv))
        | (refine hk.brNotT ?_; (conv => cbv))
        | (refine hk.brNotF ?_; (conv => cbv))
        | (refine hk.brNotS _ (by simp [hk.c2_lss, hk.c2_leq, hk.c2_gtr, hk.c2_geq, hk.c2_eql, hk.c2_neq, hk.bn_eq, hk.bq_eq]; rfl) ?_; (conv => cbv))
        | (refine hk.brBqS _ (by simp [hk.c2_lss, hk.c2_leq, hk.c2_gtr, hk.c2_geq, hk.c2_eql, hk.c2_neq, hk.bn_eq, hk.bq_eq]; rfl) ?_; (conv => cbv))
        | (refine hk.idxI (by first | omega | assumption) (by first | omega | assumption) ?_; (conv => cbv))
        | (refine hk.nzI (by first | omega | assumption | decide) ?_; (conv => cbv))
        | (refine hk.ge0I (by first | omega | assumption) ?_; (conv => cbv))
        | (refine hk.needI (by first | (simp only [rNd, hk.sb_eq, hk.ad_eq]; omega) | (simp [rNd, hk.sb_eq, hk.ad_eq]; omega)) ?_; (conv => cbv))
        | (refine hk.callA (by assumption) ?_; (conv => cbv))
        | (refine hk.calldA (by assumption) ?_; (conv => cbv))
        | (rw [hk.sb0]; (conv => cbv))
        | (rw [hk.ad0]; (conv => cbv))
        | exact hk.finB (by first | rfl | (simp [hk.c2_lss, hk.c2_leq, hk.c2_gtr, hk.c2_geq, hk.c2_eql, hk.c2_neq, hk.bn_eq, hk.bq_eq]; done) | assumption)
        | exact hk.fin1 rfl)
      exact hk.fin0 rfl rfl (Wk.tup ⟨Wk.nilL _ _, .refl _ _, trivial⟩)
    · rw [if_neg hlt] at hfin
      subst hfin
      simp only [Option.getD, Option.isSome, if_true] at hrl hre
      subst hrl
      subst hre
      (conv => cbv)
      repeat' (first
        | assumption
        | (refine hk.callA hle ?_; (conv => cbv))
        | (refine hx _ _ ?_; (conv => cbv))
        | (rw [hlo]; (conv => cbv))
        | (rw [hlm]; (conv => cbv))
        | (refine hk.brLssT (by omega) ?_; (conv => cbv))
        | (refine hk.brLssF (by omega) ?_; (conv => cbv))
        | (refine hk.brLeqT (by omega) ?_; (conv => cbv))
        | (refine hk.brLeqF (by omega) ?_; (conv => cbv))
        | (refine hk.brGtrT (by omega) ?_; (conv => cbv))
        | (refine hk.brGtrF (by omega) ?_; (conv => cbv))
        | (refine hk.brGeqT (by omega) ?_; (conv => cbv))
        | (refine hk.brGeqF (by omega) ?_; (conv => cbv))
        | (refine hk.brEqlT (by omega) ?_; (conv => cbv))
        | (refine hk.brEqlF (by omega) ?_; (conv => cbv))
        | (refine hk.brNeqT (by omega) ?_; (conv => cbv))
        | (refine hk.brNeqF (by omega) ?_; (conv => cbv))
        | (refine hk.brLss (fun _ => ?_) (fun _ => ?_) <;> (conv => cbv))
        | (refine hk.brLeq (fun _ => ?_) (fun _ => ?_) <;> (conv => cbv))
        | (refine hk.brGtr (fun _ => ?_) (fun _ => ?_) <;> (conv => cbv))
        | (refine hk.brGeq (fun _ => ?_) (fun _ => ?_) <;> (conv => cbv))
        | (refine hk.brEql (fun _ => ?_) (fun _ => ?_) <;> (conv => cbv))
        | (refine hk.brNeq (fun _ => ?_) (fun _ => ?_) <;> (conv => cbv))
        | (refine hk.brNotT ?_; (conv => cbv))
        | (refine hk.brNotF ?_; (conv => cbv))
        | (refine hk.brNotS _ (by simp [hk.c2_lss, hk.c2_leq, hk.c2_gtr, hk.c2_geq, hk.c2_eql, hk.c2_neq, hk.bn_eq, hk.bq_eq]; rfl) ?_; (conv => cbv))
        | (refine hk.brBqS _ (by simp [hk.c2_lss, hk.c2_leq, hk.c2_gtr, hk.c2_geq, hk.c2_eql, hk.c2_neq, hk.bn_eq, hk.bq_eq]; rfl) ?_; (conv => cbv))
        | (refine hk.idxI (by first | omega | assumption) (by first | omega | assumption) ?_; (conv => cbv))
        | (refine hk.nzI (by first | omega | assumption | decide) ?_; (conv => cbv))
        | (refine hk.ge0I (by first | omega | assumption) ?_; (conv => cbv))
        | (refine hk.needI (by first | (simp only [rNd, hk.sb_eq, hk.ad_eq]; omega) | (simp [rNd, hk.sb_eq, hk.ad_eq]; omega)) ?_; (conv => cbv))
        | (refine hk.callA (by assumption) ?_; (conv => cbv))
        | (refine hk.calldA (by assumption) ?_; (conv => cbv))
        | (rw [hk.sb0]; (conv => cbv))
        | (rw [hk.ad0]; (conv => cbv))
        | exact hk.finB (by first | rfl | (simp [hk.c2_lss, hk.c2_leq, hk.c2_gtr, hk.c2_geq, hk.c2_eql, hk.c2_neq, hk.bn_eq, hk.bq_eq]; done) | assumption)
        | exact hk.fin1 rfl)
      exact hk.fin0 rfl rfl (Wk.tup ⟨Wk.any _ _ _, .refl _ _, trivial⟩)
end Go.Proofs.Ytnnpookoencpnab
set_option maxHeartbeats 4000000
set_option maxRecDepth 20000
set_option linter.unusedSimpArgs false
set_option linter.unusedVariables false
open Go Go.AL
namespace Go.Proofs.Ytnnpookoencpnab
theorem rsorted_bad (ms : List Int) (hl : ms.length ≤ 9223372036854775807) (hr : ¬ Right ms) : Does PP 6 [LI ms] [] (Is (.tup [LI [], .bool false]) []) := by
  obtain ⟨n, hn⟩ : ∃ n : Int, n = (ms.length : Nat) := ⟨_, rfl⟩
  have hbad : 1 ≤ n → n ≤ 8 → ¬ ∀ j : Nat, j < ms.length → -1 ≤ ms.getD j 0 ∧ ms.getD j 0 < n := fun h1 h2 h => hr ⟨by omega, by omega, fun m hm => by
    obtain ⟨j, hj, e⟩ := mem_getD.1 hm
    rw [← e]; have := h j hj; omega⟩
  clear hr
  refine doesF P_ok Try.f6 (by kernel_rfl) (by kernel_rfl) ?_
  intro i2 c2 u1 cv mx mn ad sbt bn bq ba lnI gtI apI sbI stI rpI lnG gtG apG sbG stG rpG fi fb fs fl fg fc sln sgt sap ssb sc b2s s2b nd call calld callv callvd loop rfun fin hk
  have hln : lnI ms = n := by rw [hk.lnI_eq]; omega
  have hgt := hk.gtI_eq ms
  by_cases h1 : 1 ≤ n ∧ n ≤ 8
  · obtain ⟨h1, h8⟩ := h1
    have hbad := hbad h1 h8
    (conv => cbv)
    repeat' (first
      | assumption
      | (rw [hln]; (conv => cbv))
      | (refine hk.brLssT (by omega) ?_; (conv => cbv))
      | (refine hk.brLssF (by omega) ?_; (conv => cbv))
      | (refine hk.brLeqT (by omega) ?_; (conv => cbv))
      | (refine hk.brLeqF (by omega) ?_; (conv => cbv))
      | (refine hk.brGtrT (by omega) ?_; (conv => cbv))
      | (refine hk.brGtrF (by omega) ?_; (conv => cbv))
      | (refine hk.brGeqT (by omega) ?_; (conv => cbv))
      | (refine hk.brGeqF (by omega) ?_; (conv => cbv))
      | (refine hk.brEqlT (by omega) ?_; (conv => cbv))
      | (refine hk.brEqlF (by omega) ?_; (conv => cbv))
      | (refine hk.brNeqT (by omega) ?_; (conv => cbv))
      | (refine hk.brNeqF (by omega) ?_; (conv => cbv))
      | (refine hk.brLss (fun _ => ?_) (fun _ => ?_) <;> (conv => cbv))
      | (refine hk.brLeq (fun _ => ?_) (fun _ => ?_) <;> (conv => cbv))
      | (refine hk.brGtr (fun _ => ?_) (fun _ => ?_) <;> (conv => cbv))
      | (refine hk.brGeq (fun _ => ?_) (fun _ => ?_) <;> (conv => cbv))
      | (refine hk.brEql (fun _ => ?_) (fun _ => ?_) <;> (conv => cbv))
      | (refine hk.brNeq (fun _ => ?_) (fun _ => ?_) <;> (conv => cbv))
      | (refine hk.brNotT ?_; (conv => cbv))
      | (refine hk.brNotF ?_; (conv => cbv))
      | (refine hk.brNotS _ (by simp [hk.c2_lss, hk.c2_leq, hk.c2_gtr, hk.c2_geq, hk.c2_eql, hk.c2_neq, hk.bn_eq, hk.bq_eq]; rfl) ?_; (conv => cbv))
      | (refine hk.brBqS _ (by simp [hk.c2_lss, hk.c2_leq, hk.c2_gtr, hk.c2_geq, hk.c2_eql, hk.c2_neq, hk.bn_eq, hk.bq_eq]; rfl) ?_; (conv => cbv))
      | (refine hk.idxI (by first | omega | assumption) (by first | omega | assumption) ?_; (conv => cbv))
      | (refine hk.nzI (by first | omega | assumption | decide) ?_; (conv => cbv))
      | (refine hk.ge0I (by first | omega | assumption) ?_; (conv => cbv))
      | (refine hk.needI (by first | (simp only [rNd, hk.sb_eq, hk.ad_eq]; omega) | (simp [rNd, hk.sb_eq, hk.ad_eq]; omega)) ?_; (conv => cbv))
      | (refine hk.callA (by assumption) ?_; (conv => cbv))
      | (refine hk.calldA (by assumption) ?_; (conv => cbv))
      | (rw [hk.sb0]; (conv => cbv))
      | (rw [hk.ad0]; (conv => cbv))
      | exact hk.finB (by first | rfl | (simp [hk.c2_lss, hk.c2_leq, hk.c2_gtr, hk.c2_geq, hk.c2_eql, hk.c2_neq, hk.bn_eq, hk.bq_eq]; done) | assumption)
      | exact hk.fin1 rfl)
    refine hk.loopI (loop_rule (α := Int) (fun i => [(0, .ls (.il .i64 ms) .any), (2, .ls .nl .nil), (3, .bool false), (4, .int .i64 n), (19, .int .i64 n), (20, .int .i64 i)]) (fun _ => [])
      (fun i => 0 ≤ i ∧ i ≤ n ∧ ∀ j : Nat, j < i.toNat → -1 ≤ ms.getD j 0 ∧ ms.getD j 0 < n) (fun i => (n - i).toNat) 0 ⟨by omega, by omega, fun j hj => by simp at hj⟩ ?_ ?_)
    · exact Gh.tm (by repeat (first | exact Holds.nil _ _ | refine Holds.cons (Wk.refl _ _) ?_))
    intro i ⟨hi, hi2, hi3⟩ Q' hb hx hr
    by_cases hin : i < n
    · obtain ⟨x, hx0⟩ : ∃ x, x = gtI ms i := ⟨_, rfl⟩
      have hxm := hx0
      rw [hgt] at hxm
      (conv => cbv)
      repeat' (first
        | assumption
        | (rw [hln]; (conv => cbv))
        | (refine hk.idxI hi hin ?_; (conv => cbv))
        | (rw [← hx0]; (conv => cbv))
        | (refine hr _ ?_; (conv => cbv))
        | (refine hk.brLssT (by omega) ?_; (conv => cbv))
        | (refine hk.brLssF (by omega) ?_; (conv => cbv))
        | (refine hk.brLeqT (by omega) ?_; (conv => cbv))
        | (refine hk.brLeqF (by omega) ?_; (conv => cbv))
        | (refine hk.brGtrT (by omega) ?_; (conv => cbv))
        | (refine hk.brGtrF (by omega) ?_; (conv => cbv))
        | (refine hk.brGeqT (by omega) ?_; (conv => cbv))
        | (refine hk.brGeqF (by omega) ?_; (conv => cbv))
        | (refine hk.brEqlT (by omega) ?_; (conv => cbv))
        | (refine hk.brEqlF (by omega) ?_; (conv => cbv))
        | (refine hk.brNeqT (by omega) ?_; (conv => cbv))
        | (refine hk.brNeqF (by omega) ?_; (conv => cbv))
        | (refine hk.brLss (fun _ => ?_) (fun _ => ?_) <;> (conv => cbv))
        | (refine hk.brLeq (fun _ => ?_) (fun _ => ?_) <;> (conv => cbv))
        | (refine hk.brGtr (fun _ => ?_) (fun _ => ?_) <;> (conv => cbv))
        | (refine hk.brGeq (fun _ => ?_) (fun _ => ?_) <;> (conv => cbv))
        | (refine hk.brEql (fun _ => ?_) (fun _ => ?_) <;> (conv => cbv))
        | (refine hk.brNeq (fun _ => ?_) (fun _ => ?_) <;> (conv => cbv))
        | (refine hk.brNotT ?_; (conv => cbv))
        | (refine hk.brNotF ?_; (conv => cbv))
        | (refine hk.brNotS _ (by simp [hk.c2_lss, hk.c2_leq, hk.c2_gtr, hk.c2_geq, hk.c2_eql, hk.c2_neq, hk.bn_eq, hk.bq_eq]; rfl) ?_; (conv => cbv))
        | (refine hk.brBqS _ (by simp [hk.c2_lss, hk.c2_leq, hk.c2_gtr, hk.c2_geq, hk.c2_eql, hk.c2_neq, hk.bn_eq, hk.bq_eq]; rfl) ?_; (conv => cbv))
        | (refine hk.idxI (by first | omega | assumption) (by first | omega | assumption) ?_; (conv => cbv))
        | (refine hk.nzI (by first | omega | assumption | decide) ?_; (conv => cbv))
        | (refine hk.ge0I (by first | omega | assumption) ?_; (conv => cbv))
        | (refine hk.needI (by first | (simp only [rNd, hk.sb_eq, hk.ad_eq]; omega) | (simp [rNd, hk.sb_eq, hk.ad_eq]; omega)) ?_; (conv => cbv))
        | (refine hk.callA (by assumption) ?_; (conv => cbv))
        | (refine hk.calldA (by assumption) ?_; (conv => cbv))
        | (rw [hk.sb0]; (conv => cbv))
        | (rw [hk.ad0]; (conv => cbv))
        | exact hk.finB (by first | rfl | (simp [hk.c2_lss, hk.c2_leq, hk.c2_gtr, hk.c2_geq, hk.c2_eql, hk.c2_neq, hk.bn_eq, hk.bq_eq]; done) | assumption)
        | exact hk.fin1 rfl)
      all_goals first
        | exact hk.fin0 rfl rfl (Wk.tup ⟨Wk.nilL _ _, .refl _ _, trivial⟩)
        | (refine hb (i + 1) _ ⟨by omega, by omega, fun j hj => ?_⟩ (by omega) ?_
           · by_cases e : j = i.toNat
             · subst e; rw [← hxm]; omega
             · exact hi3 j (by omega)
           refine Gh.tm ?_
           repeat' (first | exact Holds.nil _ _ | refine Holds.cons (Wk.refl _ _) ?_ | refine Holds.cons (Wk.of_eq ?_) ?_)
           all_goals first
             | (rw [← hk.add64 i 1 (by omega) (by omega)]; rfl)
             | rfl
             | skip)
        | skip
    · exact absurd (fun j hj => hi3 j (by omega)) hbad
  · (conv => cbv)
    repeat' (first
      | assumption
      | (rw [hln]; (conv => cbv))
      | (refine hk.brLssT (by omega) ?_; (conv => cbv))
      | (refine hk.brLssF (by omega) ?_; (conv => cbv))
      | (refine hk.brLeqT (by omega) ?_; (conv => cbv))
      | (refine hk.brLeqF (by omega) ?_; (conv => cbv))
      | (refine hk.brGtrT (by omega) ?_; (conv => cbv))
      | (refine hk.brGtrF (by omega) ?_; (conv => cbv))
      | (refine hk.brGeqT (by omega) ?_; (conv => cbv))
      | (refine hk.brGeqF (by omega) ?_; (conv => cbv))
      | (refine hk.brEqlT (by omega) ?_; (conv => cbv))
      | (refine hk.brEqlF (by omega) ?_; (conv => cbv))
      | (refine hk.brNeqT (by omega) ?_; (conv => cbv))
      | (refine hk.brNeqF (by omega) ?_; (conv => cbv))
      | (refine hk.brLss (fun _ => ?_) (fun _ => ?_) <;> (conv => cbv))
      | (refine hk.brLeq (fun _ => ?_) (fun _ => ?_) <;> (conv => cbv))
      | (refine hk.brGtr (fun _ => ?_) (fun _ => ?_) <;> (conv => cbv))
      | (refine hk.brGeq (fun _ => ?_) (fun _ => ?_) <;> (conv => cbv))
      | (refine hk.brEql (fun _ => ?_) (fun _ => ?_) <;> (conv => cbv))
      | (refine hk.brNeq (fun _ => ?_) (fun _ => ?_) <;> (conv => cbv))
      | (refine hk.brNotT ?_; (conv => cbv))
      | (refine hk.brNotF ?_; (conv => cbv))
      | (refine hk.brNotS _ (by simp [hk.c2_lss, hk.c2_leq, hk.c2_gtr, hk.c2_geq, hk.c2_eql, hk.c2_neq, hk.bn_eq, hk.bq_eq]; rfl) ?_; (conv => cbv))
      | (refine hk.brBqS _ (by simp [hk.c2_lss, hk.c2_leq, hk.c2_gtr, hk.c2_geq, hk.c2_eql, hk.c2_neq, hk.bn_eq, hk.bq_eq]; rfl) ?_; (conv => cbv))
      | (refine hk.idxI (by first | omega | assumption) (by first | omega | assumption) ?_; (conv => cbv))
      | (refine hk.nzI (by first | omega | assumption | decide) ?_; (conv => cbv))
      | (refine hk.ge0I (by first | omega | assumption) ?_; (conv => cbv))
      | (refine hk.needI (by first | (simp only [rNd, hk.sb_eq, hk.ad_eq]; omega) | (simp [rNd, hk.sb_eq, hk.ad_eq]; omega)) ?_; (conv => cbv))
      | (refine hk.callA (by assumption) ?_; (conv => cbv))
      | (refine hk.calldA (by assumption) ?_; (conv => cbv))
      | (rw [hk.sb0]; (conv => cbv))
      | (rw [hk.ad0]; (conv => cbv))
      | exact hk.finB (by first | rfl | (simp [hk.c2_lss, hk.c2_leq, hk.c2_gtr, hk.c2_geq, hk.c2_eql, hk.c2_neq, hk.bn_eq, hk.bq_eq]; done) | assumption)
      | exact hk.fin1 rfl)
    all_goals exact hk.fin0 rfl rfl (Wk.tup ⟨Wk.nilL _ _, .refl _ _, trivial⟩)
theorem rsorted_ok (ms : List Int) (hr : Right ms) : Does PP 6 [LI ms] [] (Is (.tup [LI ((srt ms ms.length ms.length []).getD []), .bool (srt ms ms.length ms.length []).isSome]) []) := by
  obtain ⟨n, hn⟩ : ∃ n : Int, n = (ms.length : Nat) := ⟨_, rfl⟩
  obtain ⟨h1, h8, hm⟩ := hr
  have hrg : ∀ i : Int, 0 ≤ i → i < n → -1 ≤ ms.getD i.toNat 0 ∧ ms.getD i.toNat 0 < n := fun i a b => by
    have := hm (ms.getD i.toNat 0) (mem_getD.2 ⟨i.toNat, by omega, rfl⟩)
    omega
  have hst : srt ms ms.length ms.length [] = srt ms ms.length ms.length [] := rfl
  obtain ⟨S, hS⟩ : ∃ S, S = srt ms ms.length ms.length [] := ⟨_, rfl⟩
  rw [← hS]
  obtain ⟨rl, hrl⟩ : ∃ r, r = S.getD [] := ⟨_, rfl⟩
  obtain ⟨re, hre⟩ : ∃ r, r = S.isSome := ⟨_, rfl⟩
  rw [← hrl, ← hre]
  have hhas := fun (l : List Int) (c : Int) h (hl : l.length ≤ 9223372036854775807) => has_spec l c h hl
  obtain ⟨hf, hhf⟩ : ∃ hf : List Int → Int → Bool, ∀ l c, hf l c = decide (c ∈ l) := ⟨_, fun _ _ => rfl⟩
  have hhas : ∀ (l : List Int) (c : Int) h, l.length ≤ 9223372036854775807 → Does PP 18 [LI l, I c] h (Is (.bool (hf l c)) h) := fun l c h hl => by rw [hhf]; exact hhas l c h hl
  refine doesF P_ok Try.f6 (by kernel_rfl) (by kernel_rfl) ?_
  intro i2 c2 u1 cv mx mn ad sbt bn bq ba lnI gtI apI sbI stI rpI lnG gtG apG sbG stG rpG fi fb fs fl fg fc sln sgt sap ssb sc b2s s2b nd call calld callv callvd loop rfun fin hk
  have hln : lnI ms = n := by rw [hk.lnI_eq]; omega
  have hgt := hk.gtI_eq ms
  (conv => cbv)
  repeat' (first
    | assumption
    | (rw [hln]; (conv => cbv))
    | (refine hk.brLssT (by omega) ?_; (conv => cbv))
    | (refine hk.brLssF (by omega) ?_; (conv => cbv))
    | (refine hk.brLeqT (by omega) ?_; (conv => cbv))
    | (refine hk.brLeqF (by omega) ?_; (conv => cbv))
    | (refine hk.brGtrT (by omega) ?_; (conv => cbv))
    | (refine hk.brGtrF (by omega) ?_; (conv => cbv))
    | (refine hk.brGeqT (by omega) ?_; (conv => cbv))
    | (refine hk.brGeqF (by omega) ?_; (conv => cbv))
    | (refine hk.brEqlT (by omega) ?_; (conv => cbv))
    | (refine hk.brEqlF (by omega) ?_; (conv => cbv))
    | (refine hk.brNeqT (by omega) ?_; (conv => cbv))
    | (refine hk.brNeqF (by omega) ?_; (conv => cbv))
    | (refine hk.brLss (fun _ => ?_) (fun _ => ?_) <;> (conv => cbv))
    | (refine hk.brLeq (fun _ => ?_) (fun _ => ?_) <;> (conv => cbv))
    | (refine hk.brGtr (fun _ => ?_) (fun _ => ?_) <;> (conv => cbv))
    | (refine hk.brGeq (fun _ => ?_) (fun _ => ?_) <;> (conv => cbv))
    | (refine hk.brEql (fun _ => ?_) (fun _ => ?_) <;> (conv => cbv))
    | (refine hk.brNeq (fun _ => ?_) (fun _ => ?_) <;> (conv => cbv))
    | (refine hk.brNotT ?_; (conv => cbv))
    | (refine hk.brNotF ?_; (conv => cbv))
    | (refine hk.brNotS _ (by simp [hk.c2_lss, hk.c2_leq, hk.c2_gtr, hk.c2_geq, hk.c2_eql, hk.c2_neq, hk.bn_eq, hk.bq_eq]; rfl) ?_; (conv => cbv))
    | (refine hk.brBqS _ (by simp [hk.c2_lss, hk.c2_leq, hk.c2_gtr, hk.c2_geq, hk.c2_eql, hk.c2_neq, hk.bn_eq, hk.bq_eq]; rfl) ?_; (conv => cbv))
    | (refine hk.idxI (by first | omega | assumption) (by first | omega | assumption) ?_; (conv => cbv))
    | (refine hk.nzI (by first | omega | assumption | decide) ?_; (conv => cbv))
    | (refine hk.ge0I (by first | omega | assumption) ?_; (conv => cbv))
    | (refine hk.needI (by first | (simp only [rNd, hk.sb_eq, hk.ad_eq]; omega) | (simp [rNd, hk.sb_eq, hk.ad_eq]; omega)) ?_; (conv => cbv))
    | (refine hk.callA (by assumption) ?_; (conv => cbv))
    | (refine hk.calldA (by assumption) ?_; (conv => cbv))
    | (rw [hk.sb0]; (conv => cbv))
    | (rw [hk.ad0]; (conv => cbv))
    | exact hk.finB (by first | rfl | (simp [hk.c2_lss, hk.c2_leq, hk.c2_gtr, hk.c2_geq, hk.c2_eql, hk.c2_neq, hk.bn_eq, hk.bq_eq]; done) | assumption)
    | exact hk.fin1 rfl)
  refine hk.loopI (loop_rule (α := Int) (fun i => [(0, .ls (.il .i64 ms) .any), (2, .ls .nl .nil), (3, .bool false), (4, .int .i64 n), (19, .int .i64 n), (20, .int .i64 i)]) (fun _ => [])
    (fun i => 0 ≤ i ∧ i ≤ n) (fun i => (n - i).toNat) 0 ⟨by omega, by omega⟩ ?_ ?_)
  · exact Gh.tm (by repeat (first | exact Holds.nil _ _ | refine Holds.cons (Wk.refl _ _) ?_))
  intro i ⟨hi, hi2⟩ Q' hb hx hr
  by_cases hin : i < n
  · obtain ⟨x, hx0⟩ : ∃ x, x = gtI ms i := ⟨_, rfl⟩
    have hxm := hrg i hi hin
    rw [← hgt, ← hx0] at hxm
    (conv => cbv)
    repeat' (first
      | assumption
      | (rw [hln]; (conv => cbv))
      | (refine hk.idxI hi hin ?_; (conv => cbv))
      | (rw [← hx0]; (conv => cbv))
      | (refine hk.brLssT (by omega) ?_; (conv => cbv))
      | (refine hk.brLssF (by omega) ?_; (conv => cbv))
      | (refine hk.brLeqT (by omega) ?_; (conv => cbv))
      | (refine hk.brLeqF (by omega) ?_; (conv => cbv))
      | (refine hk.brGtrT (by omega) ?_; (conv => cbv))
      | (refine hk.brGtrF (by omega) ?_; (conv => cbv))
      | (refine hk.brGeqT (by omega) ?_; (conv => cbv))
      | (refine hk.brGeqF (by omega) ?_; (conv => cbv))
      | (refine hk.brEqlT (by omega) ?_; (conv => cbv))
      | (refine hk.brEqlF (by omega) ?_; (conv => cbv))
      | (refine hk.brNeqT (by omega) ?_; (conv => cbv))
      | (refine hk.brNeqF (by omega) ?_; (conv => cbv))
      | (refine hk.brLss (fun _ => ?_) (fun _ => ?_) <;> (conv => cbv))
      | (refine hk.brLeq (fun _ => ?_) (fun _ => ?_) <;> (conv => cbv))
      | (refine hk.brGtr (fun _ => ?_) (fun _ => ?_) <;> (conv => cbv))
      | (refine hk.brGeq (fun _ => ?_) (fun _ => ?_) <;> (conv => cbv))
      | (refine hk.brEql (fun _ => ?_) (fun _ => ?_) <;> (conv => cbv))
      | (refine hk.brNeq (fun _ => ?_) (fun _ => ?_) <;> (conv => cbv))
      | (refine hk.brNotT ?_; (conv => cbv))
      | (refine hk.brNotF ?_; (conv => cbv))
      | (refine hk.brNotS _ (by simp [hk.c2_lss, hk.c2_leq, hk.c2_gtr, hk.c2_geq, hk.c2_eql, hk.c2_neq, hk.bn_eq, hk.bq_eq]; rfl) ?_; (conv => cbv))
      | (refine hk.brBqS _ (by simp [hk.c2_lss, hk.c2_leq, hk.c2_gtr, hk.c2_geq, hk.c2_eql, hk.c2_neq, hk.bn_eq, hk.bq_eq]; rfl) ?_; (conv => cbv))
      | (refine hk.idxI (by first | omega | assumption) (by first | omega | assumption) ?_; (conv => cbv))
      | (refine hk.nzI (by first | omega | assumption | decide) ?_; (conv => cbv))
      | (refine hk.ge0I (by first | omega | assumption) ?_; (conv => cbv))
      | (refine hk.needI (by first | (simp only [rNd, hk.sb_eq, hk.ad_eq]; omega) | (simp [rNd, hk.sb_eq, hk.ad_eq]; omega)) ?_; (conv => cbv))
      | (refine hk.callA (by assumption) ?_; (conv => cbv))
      | (refine hk.calldA (by assumption) ?_; (conv => cbv))
      | (rw [hk.sb0]; (conv => cbv))
      | (rw [hk.ad0]; (conv => cbv))
      | exact hk.finB (by first | rfl | (simp [hk.c2_lss, hk.c2_leq, hk.c2_gtr, hk.c2_geq, hk.c2_eql, hk.c2_neq, hk.bn_eq, hk.bq_eq]; done) | assumption)
      | exact hk.fin1 rfl)
    refine hb (i + 1) _ ⟨by omega, by omega⟩ (by omega) ?_
    refine Gh.tm ?_
    repeat' (first | exact Holds.nil _ _ | refine Holds.cons (Wk.refl _ _) ?_ | refine Holds.cons (Wk.of_eq ?_) ?_)
    all_goals first
      | (rw [← hk.add64 i 1 (by omega) (by omega)]; rfl)
      | rfl
      | skip
  have : i = n := by omega
  subst this
  clear hb hr
  (conv => cbv)
  repeat' (first
    | assumption
    | (refine hx _ _ ?_; (conv => cbv))
    | (refine hk.brLssT (by omega) ?_; (conv => cbv))
    | (refine hk.brLssF (by omega) ?_; (conv => cbv))
    | (refine hk.brLeqT (by omega) ?_; (conv => cbv))
    | (refine hk.brLeqF (by omega) ?_; (conv => cbv))
    | (refine hk.brGtrT (by omega) ?_; (conv => cbv))
    | (refine hk.brGtrF (by omega) ?_; (conv => cbv))
    | (refine hk.brGeqT (by omega) ?_; (conv => cbv))
    | (refine hk.brGeqF (by omega) ?_; (conv => cbv))
    | (refine hk.brEqlT (by omega) ?_; (conv => cbv))
    | (refine hk.brEqlF (by omega) ?_; (conv => cbv))
    | (refine hk.brNeqT (by omega) ?_; (conv => cbv))
    | (refine hk.brNeqF (by omega) ?_; (conv => cbv))
    | (refine hk.brLss (fun _ => ?_) (fun _ => ?_) <;> (conv => cbv))
    | (refine hk.brLeq (fun _ => ?_) (fun _ => ?_) <;> (conv => cbv))
    | (refine hk.brGtr (fun _ => ?_) (fun _ => ?_) <;> (conv => cbv))
    | (refine hk.brGeq (fun _ => ?_) (fun _ => ?_) <;> (conv => cbv))
    | (refine hk.brEql (fun _ => ?_) (fun _ => ?_) <;> (conv => cbv))
    | (refine hk.brNeq (fun _ => ?_) (fun _ => ?_) <;> (conv => cbv))
    | (refine hk.brNotT ?_; (conv => cbv))
    | (refine hk.brNotF ?_; (conv => cbv))
    | (refine hk.brNotS _ (by simp [hk.c2_lss, hk.c2_leq, hk.c2_gtr, hk.c2_geq, hk.c2_eql, hk.c2_neq, hk.bn_eq, hk.bq_eq]; rfl) ?_; (conv => cbv))
    | (refine hk.brBqS _ (by simp [hk.c2_lss, hk.c2_leq, hk.c2_gtr, hk.c2_geq, hk.c2_eql, hk.c2_neq, hk.bn_eq, hk.bq_eq]; rfl) ?_; (conv => cbv))
    | (refine hk.idxI (by first | omega | assumption) (by first | omega | assumption) ?_; (conv => cbv))
    | (refine hk.nzI (by first | omega | assumption | decide) ?_; (conv => cbv))
    | (refine hk.ge0I (by first | omega | assumption) ?_; (conv => cbv))
    | (refine hk.needI (by first | (simp only [rNd, hk.sb_eq, hk.ad_eq]; omega) | (simp [rNd, hk.sb_eq, hk.ad_eq]; omega)) ?_; (conv => cbv))
    | (refine hk.callA (by assumption) ?_; (conv => cbv))
    | (refine hk.calldA (by assumption) ?_; (conv => cbv))
    | (rw [hk.sb0]; (conv => cbv))
    | (rw [hk.ad0]; (conv => cbv))
    | exact hk.finB (by first | rfl | (simp [hk.c2_lss, hk.c2_leq, hk.c2_gtr, hk.c2_geq, hk.c2_eql, hk.c2_neq, hk.bn_eq, hk.bq_eq]; done) | assumption)
    | exact hk.fin1 rfl)
  have hl1 : ∀ x, lnI [x] = 1 := fun x => hk.lnI_eq _
  have hlnI := hk.lnI_eq
  have hap := hk.apI_eq
  refine hk.loopI (loop_rule (α := Int × List Int) (fun x => [(0, .ls (.il .i64 ms) .any), (2, .ls .nl .nil), (3, .bool false), (4, .int .i64 i), (6, .ls (.il .i64 x.2) (.tok 0 0)), (7, .int .i64 x.1)]) (fun _ => [.tok 0])
    (fun x => x.1 = (x.2.length : Nat) ∧ x.1 ≤ i ∧ srt ms ms.length (ms.length - x.2.length) x.2 = S) (fun x => (i - x.1).toNat) (0, []) ⟨rfl, by simp only; omega, hS.symm⟩ ?_ ?_)
  · refine Gh.trans (Gh.thaw 6 (.il .i64 []) rfl trivial rfl) (Gh.tm ?_)
    repeat' (first | exact Holds.nil _ _ | refine Holds.cons (Wk.refl _ _) ?_)
  intro ⟨k, out⟩ ⟨hkl, hki, hsS⟩ Q2 hb2 hx2 hr2
  simp only at hkl hki hsS
  dsimp only
  have hhas2 : ∀ c h, Does PP 18 [.ls (.il .i64 out) (.tok 0 0), I c] h (Is (.bool (hf out c)) h) := fun c h => (hhas out c h (by omega)).wk (by repeat' (first | exact WkL.nil | refine WkL.cons (Wk.refl _ _) ?_ | refine WkL.cons (Wk.any _ _ _) ?_ | refine WkL.cons (Wk.nilL _ _) ?_))
  by_cases hkn : k < i
  · obtain ⟨i1, hi1⟩ : ∃ i1, i1 = i - 1 := ⟨_, rfl⟩
    have hsu : i2 .sub .i64 i 1 = i1 := by rw [hk.sub64 _ _ (by omega) (by omega)]; exact hi1.symm
    obtain ⟨NX, hNX⟩ : ∃ NX : Int → Int, ∀ c, NX c = nx ms out ms.length (ms.length - 1 - c).toNat := ⟨_, fun _ => rfl⟩
    have hNX0 : NX i1 = -1 := by rw [hNX, show ((ms.length : Int) - 1 - i1).toNat = 0 by omega]; rfl
    have hNXe : NX (-1) = nx ms out ms.length ms.length := by rw [hNX, show ((ms.length : Int) - 1 - -1).toNat = ms.length by omega]
    have hav : ∀ c : Int, 0 ≤ c → av ms out c.toNat = (!(hf out c) && (decide (ms.getD c.toNat 0 = -1) || hf out (ms.getD c.toNat 0))) := fun c a => by
      rw [av, hhf, hhf, show ((c.toNat : Nat) : Int) = c by omega]
    have hNXs : ∀ c : Int, 0 ≤ c → c < i → NX (c - 1) = if (!(hf out c) && (decide (ms.getD c.toNat 0 = -1) || hf out (ms.getD c.toNat 0))) = true then c else NX c := fun c a b => by
      rw [hNX, hNX, ← hav c a, show ((ms.length : Int) - 1 - (c - 1)).toNat = ((ms.length : Int) - 1 - c).toNat + 1 by omega, nx, show ms.length - 1 - ((ms.length : Int) - 1 - c).toNat = c.toNat by omega, show ((c.toNat : Nat) : Int) = c by omega]
    clear hNX hav
    (conv => cbv)
    repeat' (first
      | assumption
      | (rw [hsu]; (conv => cbv))
      | (refine hk.brLssT (by omega) ?_; (conv => cbv))
      | (refine hk.brLssF (by omega) ?_; (conv => cbv))
      | (refine hk.brLeqT (by omega) ?_; (conv => cbv))
      | (refine hk.brLeqF (by omega) ?_; (conv => cbv))
      | (refine hk.brGtrT (by omega) ?_; (conv => cbv))
      | (refine hk.brGtrF (by omega) ?_; (conv => cbv))
      | (refine hk.brGeqT (by omega) ?_; (conv => cbv))
      | (refine hk.brGeqF (by omega) ?_; (conv => cbv))
      | (refine hk.brEqlT (by omega) ?_; (conv => cbv))
      | (refine hk.brEqlF (by omega) ?_; (conv => cbv))
      | (refine hk.brNeqT (by omega) ?_; (conv => cbv))
      | (refine hk.brNeqF (by omega) ?_; (conv => cbv))
      | (refine hk.brLss (fun _ => ?_) (fun _ => ?_) <;> (conv => cbv))
      | (refine hk.brLeq (fun _ => ?_) (fun _ => ?_) <;> (conv => cbv))
      | (refine hk.brGtr (fun _ => ?_) (fun _ => ?_) <;> (conv => cbv))
      | (refine hk.brGeq (fun _ => ?_) (fun _ => ?_) <;> (conv => cbv))
      | (refine hk.brEql (fun _ => ?_) (fun _ => ?_) <;> (conv => cbv))
      | (refine hk.brNeq (fun _ => ?_) (fun _ => ?_) <;> (conv => cbv))
      | (refine hk.brNotT ?_; (conv => cbv))
      | (refine hk.brNotF ?_; (conv => cbv))
      | (refine hk.brNotS _ (by simp [hk.c2_lss, hk.c2_leq, hk.c2_gtr, hk.c2_geq, hk.c2_eql, hk.c2_neq, hk.bn_eq, hk.bq_eq]; rfl) ?_; (conv => cbv))
      | (refine hk.brBqS _ (by simp [hk.c2_lss, hk.c2_leq, hk.c2_gtr, hk.c2_geq, hk.c2_eql, hk.c2_neq, hk.bn_eq, hk.bq_eq]; rfl) ?_; (conv => cbv))
      | (refine hk.idxI (by first | omega | assumption) (by first | omega | assumption) ?_; (conv => cbv))
      | (refine hk.nzI (by first | omega | assumption | decide) ?_; (conv => cbv))
      | (refine hk.ge0I (by first | omega | assumption) ?_; (conv => cbv))
      | (refine hk.needI (by first | (simp only [rNd, hk.sb_eq, hk.ad_eq]; omega) | (simp [rNd, hk.sb_eq, hk.ad_eq]; omega)) ?_; (conv => cbv))
      | (refine hk.callA (by assumption) ?_; (conv => cbv))
      | (refine hk.calldA (by assumption) ?_; (conv => cbv))
      | (rw [hk.sb0]; (conv => cbv))
      | (rw [hk.ad0]; (conv => cbv))
      | exact hk.finB (by first | rfl | (simp [hk.c2_lss, hk.c2_leq, hk.c2_gtr, hk.c2_geq, hk.c2_eql, hk.c2_neq, hk.bn_eq, hk.bq_eq]; done) | assumption)
      | exact hk.fin1 rfl)
    refine hk.loopI (loop_rule (α := Int) (fun c => [(0, .ls (.il .i64 ms) .any), (2, .ls .nl .nil), (3, .bool false), (4, .int .i64 i), (6, .ls (.il .i64 out) (.tok 0 0)), (7, .int .i64 k), (8, .int .i64 (NX c)), (9, .int .i64 c)]) (fun _ => [.tok 0])
      (fun c => -1 ≤ c ∧ c < i) (fun c => (c + 1).toNat) i1 ⟨by omega, by omega⟩ ?_ ?_)
    · rw [hNX0]
      exact Gh.tm (by repeat (first | exact Holds.nil _ _ | refine Holds.cons (Wk.refl _ _) ?_))
    intro c ⟨hc1, hc2⟩ Q3 hb3 hx3 hr3
    by_cases hc0 : 0 ≤ c
    · have hNXs := hNXs c hc0 hc2
      obtain ⟨x, hx0⟩ : ∃ x, x = gtI ms c := ⟨_, rfl⟩
      have hxm := hx0
      rw [hgt] at hxm
      rw [← hxm] at hNXs
      have hh1 := fun h => hhas2 c h
      have hh2 := fun h => hhas2 x h
      obtain ⟨b1, hb1⟩ : ∃ b, b = hf out c := ⟨_, rfl⟩
      obtain ⟨b2, hb22⟩ : ∃ b, b = hf out x := ⟨_, rfl⟩
      rw [← hb1, ← hb22] at hNXs
      simp only [← hb1] at hh1
      simp only [← hb22] at hh2
      obtain ⟨c1, hc10⟩ : ∃ c1, c1 = c - 1 := ⟨_, rfl⟩
      have hsu2 : i2 .sub .i64 c 1 = c1 := by rw [hk.sub64 _ _ (by omega) (by omega)]; exact hc10.symm
      rw [← hc10] at hNXs
      obtain ⟨X, hX⟩ : ∃ X, X = NX c := ⟨_, rfl⟩
      rw [← hX] at hNXs ⊢
      cases b1
      · by_cases hxe : x = -1
        · simp only [hxe, decide_true, Bool.true_or, Bool.not_false, Bool.and_self, if_true] at hNXs
          (conv => cbv)
          repeat' (first
            | assumption
            | (rw [hln]; (conv => cbv))
            | (refine hk.callA (hh1 _) ?_; (conv => cbv))
            | (refine hk.calldA hh1 ?_; (conv => cbv))
            | (refine hk.idxI hc0 hc2 ?_; (conv => cbv))
            | (rw [← hx0]; (conv => cbv))
            | (refine hk.callA (hh2 _) ?_; (conv => cbv))
            | (refine hk.calldA hh2 ?_; (conv => cbv))
            | (rw [hsu2]; (conv => cbv))
            | (refine hk.brLssT (by omega) ?_; (conv => cbv))
            | (refine hk.brLssF (by omega) ?_; (conv => cbv))
            | (refine hk.brLeqT (by omega) ?_; (conv => cbv))
            | (refine hk.brLeqF (by omega) ?_; (conv => cbv))
            | (refine hk.brGtrT (by omega) ?_; (conv => cbv))
            | (refine hk.brGtrF (by omega) ?_; (conv => cbv))
            | (refine hk.brGeqT (by omega) ?_; (conv => cbv))
            | (refine hk.brGeqF (by omega) ?_; (conv => cbv))
            | (refine hk.brEqlT (by omega) ?_; (conv => cbv))
            | (refine hk.brEqlF (by omega) ?_; (conv => cbv))
            | (refine hk.brNeqT (by omega) ?_; (conv => cbv))
            | (refine hk.brNeqF (by omega) ?_; (conv => cbv))
            | (refine hk.brLss (fun _ => ?_) (fun _ => ?_) <;> (conv => cbv))
            | (refine hk.brLeq (fun _ => ?_) (fun _ => ?_) <;> (conv => cbv))
            | (refine hk.brGtr (fun _ => ?_) (fun _ => ?_) <;> (conv => cbv))
            | (refine hk.brGeq (fun _ => ?_) (fun _ => ?_) <;> (conv => cbv))
            | (refine hk.brEql (fun _ => ?_) (fun _ => ?_) <;> (conv => cbv))
            | (refine hk.brNeq (fun _ => ?_) (fun _ => ?_) <;> (conv => cbv))
            | (refine hk.brNotT ?_; (conv => cbv))
            | (refine hk.brNotF ?_; (conv => cbv))
            | (refine hk.brNotS _ (by simp [hk.c2_lss, hk.c2_leq, hk.c2_gtr, hk.c2_geq, hk.c2_eql, hk.c2_neq, hk.bn_eq, hk.bq_eq]; rfl) ?_; (conv => cbv))
            | (refine hk.brBqS _ (by simp [hk.c2_lss, hk.c2_leq, hk.c2_gtr, hk.c2_geq, hk.c2_eql, hk.c2_neq, hk.bn_eq, hk.bq_eq]; rfl) ?_; (conv => cbv))
            | (refine hk.idxI (by first | omega | assumption) (by first | omega | assumption) ?_; (conv => cbv))
            | (refine hk.nzI (by first | omega | assumption | decide) ?_; (conv => cbv))
            | (refine hk.ge0I (by first | omega | assumption) ?_; (conv => cbv))
            | (refine hk.needI (by first | (simp only [rNd, hk.sb_eq, hk.ad_eq]; omega) | (simp [rNd, hk.sb_eq, hk.ad_eq]; omega)) ?_; (conv => cbv))
            | (refine hk.callA (by assumption) ?_; (conv => cbv))
            | (refine hk.calldA (by assumption) ?_; (conv => cbv))
            | (rw [hk.sb0]; (conv => cbv))
            | (rw [hk.ad0]; (conv => cbv))
            | exact hk.finB (by first | rfl | (simp [hk.c2_lss, hk.c2_leq, hk.c2_gtr, hk.c2_geq, hk.c2_eql, hk.c2_neq, hk.bn_eq, hk.bq_eq]; done) | assumption)
            | exact hk.fin1 rfl)
          refine hb3 c1 _ ⟨by omega, by omega⟩ (by omega) ?_
          rw [hNXs]
          refine Gh.tm ?_
          repeat' (first | exact Holds.nil _ _ | refine Holds.cons (Wk.refl _ _) ?_ | refine Holds.cons (Wk.of_eq ?_) ?_)
        · cases b2
          · simp only [hxe, decide_false, Bool.or_false, Bool.and_false, Bool.false_eq_true, if_false] at hNXs
            (conv => cbv)
            repeat' (first
              | assumption
              | (rw [hln]; (conv => cbv))
              | (refine hk.callA (hh1 _) ?_; (conv => cbv))
              | (refine hk.calldA hh1 ?_; (conv => cbv))
              | (refine hk.idxI hc0 hc2 ?_; (conv => cbv))
              | (rw [← hx0]; (conv => cbv))
              | (refine hk.callA (hh2 _) ?_; (conv => cbv))
              | (refine hk.calldA hh2 ?_; (conv => cbv))
              | (rw [hsu2]; (conv => cbv))
              | (refine hk.brLssT (by omega) ?_; (conv => cbv))
              | (refine hk.brLssF (by omega) ?_; (conv => cbv))
              | (refine hk.brLeqT (by omega) ?_; (conv => cbv))
              | (refine hk.brLeqF (by omega) ?_; (conv => cbv))
              | (refine hk.brGtrT (by omega) ?_; (conv => cbv))
              | (refine hk.brGtrF (by omega) ?_; (conv => cbv))
              | (refine hk.brGeqT (by omega) ?_; (conv => cbv))
              | (refine hk.brGeqF (by omega) ?_; (conv => cbv))
              | (refine hk.brEqlT (by omega) ?_; (conv => cbv))
              | (refine hk.brEqlF (by omega) ?_; (conv => cbv))
              | (refine hk.brNeqT (by omega) ?_; (conv => cbv))
              | (refine hk.brNeqF (by omega) ?_; (conv => cbv))
              | (refine hk.brLss (fun _ => ?_) (fun _ => ?_) <;> (conv => cbv))
              | (refine hk.brLeq (fun _ => ?_) (fun _ => ?_) <;> (conv => cbv))
              | (refine hk.brGtr (fun _ => ?_) (fun _ => ?_) <;> (conv => cbv))
              | (refine hk.brGeq (fun _ => ?_) (fun _ => ?_) <;> (conv => cbv))
              | (refine hk.brEql (fun _ => ?_) (fun _ => ?_) <;> (conv => cbv))
              | (refine hk.brNeq (fun _ => ?_) (fun _ => ?_) <;> (conv => cbv))
              | (refine hk.brNotT ?_; (conv => cbv))
              | (refine hk.brNotF ?_; (conv => cbv))
              | (refine hk.brNotS _ (by simp [hk.c2_lss, hk.c2_leq, hk.c2_gtr, hk.c2_geq, hk.c2_eql, hk.c2_neq, hk.bn_eq, hk.bq_eq]; rfl) ?_; (conv => cbv))
              | (refine hk.brBqS _ (by simp [hk.c2_lss, hk.c2_leq, hk.c2_gtr, hk.c2_geq, hk.c2_eql, hk.c2_neq, hk.bn_eq, hk.bq_eq]; rfl) ?_; (conv => cbv))
              | (refine hk.idxI (by first | omega | assumption) (by first | omega | assumption) ?_; (conv => cbv))
              | (refine hk.nzI (by first | omega | assumption | decide) ?_; (conv => cbv))
              | (refine hk.ge0I (by first | omega | assumption) ?_; (conv => cbv))
              | (refine hk.needI (by first | (simp only [rNd, hk.sb_eq, hk.ad_eq]; omega) | (simp [rNd, hk.sb_eq, hk.ad_eq]; omega)) ?_; (conv => cbv))
              | (refine hk.callA (by assumption) ?_; (conv => cbv))
              | (refine hk.calldA (by assumption) ?_; (conv => cbv))
              | (rw [hk.sb0]; (conv => cbv))
              | (rw [hk.ad0]; (conv => cbv))
              | exact hk.finB (by first | rfl | (simp [hk.c2_lss, hk.c2_leq, hk.c2_gtr, hk.c2_geq, hk.c2_eql, hk.c2_neq, hk.bn_eq, hk.bq_eq]; done) | assumption)
              | exact hk.fin1 rfl)
            refine hb3 c1 _ ⟨by omega, by omega⟩ (by omega) ?_
            rw [hNXs]
            refine Gh.tm ?_
            repeat' (first | exact Holds.nil _ _ | refine Holds.cons (Wk.refl _ _) ?_ | refine Holds.cons (Wk.of_eq ?_) ?_)
          · simp only [hxe, decide_false, Bool.or_true, Bool.not_false, Bool.and_self, if_true] at hNXs
            (conv => cbv)
            repeat' (first
              | assumption
              | (rw [hln]; (conv => cbv))
              | (refine hk.callA (hh1 _) ?_; (conv => cbv))
              | (refine hk.calldA hh1 ?_; (conv => cbv))
              | (refine hk.idxI hc0 hc2 ?_; (conv => cbv))
              | (rw [← hx0]; (conv => cbv))
              | (refine hk.callA (hh2 _) ?_; (conv => cbv))
              | (refine hk.calldA hh2 ?_; (conv => cbv))
              | (rw [hsu2]; (conv => cbv))
              | (refine hk.brLssT (by omega) ?_; (conv => cbv))
              | (refine hk.brLssF (by omega) ?_; (conv => cbv))
              | (refine hk.brLeqT (by omega) ?_; (conv => cbv))
              | (refine hk.brLeqF (by omega) ?_; (conv => cbv))
              | (refine hk.brGtrT (by omega) ?_; (conv => cbv))
              | (refine hk.brGtrF (by omega) ?_; (conv => cbv))
              | (refine hk.brGeqT (by omega) ?_; (conv => cbv))
              | (refine hk.brGeqF (by omega) ?_; (conv => cbv))
              | (refine hk.brEqlT (by omega) ?_; (conv => cbv))
              | (refine hk.brEqlF (by omega) ?_; (conv => cbv))
              | (refine hk.brNeqT (by omega) ?_; (conv => cbv))
              | (refine hk.brNeqF (by omega) ?_; (conv => cbv))
              | (refine hk.brLss (fun _ => ?_) (fun _ => ?_) <;> (conv => cbv))
              | (refine hk.brLeq (fun _ => ?_) (fun _ => ?_) <;> (conv => cbv))
              | (refine hk.brGtr (fun _ => ?_) (fun _ => ?_) <;> (conv => cbv))
              | (refine hk.brGeq (fun _ => ?_) (fun _ => ?_) <;> (conv => cbv))
              | (refine hk.brEql (fun _ => ?_) (fun _ => ?_) <;> (conv => cbv))
              | (refine hk.brNeq (fun _ => ?_) (fun _ => ?_) <;> (conv => cbv))
              | (refine hk.brNotT ?_; (conv => cbv))
              | (refine hk.brNotF ?_; (conv => cbv))
              | (refine hk.brNotS _ (by simp [hk.c2_lss, hk.c2_leq, hk.c2_gtr, hk.c2_geq, hk.c2_eql, hk.c2_neq, hk.bn_eq, hk.bq_eq]; rfl) ?_; (conv => cbv))
              | (refine hk.brBqS _ (by simp [hk.c2_lss, hk.c2_leq, hk.c2_gtr, hk.c2_geq, hk.c2_eql, hk.c2_neq, hk.bn_eq, hk.bq_eq]; rfl) ?_; (conv => cbv))
              | (refine hk.idxI (by first | omega | assumption) (by first | omega | assumption) ?_; (conv => cbv))
              | (refine hk.nzI (by first | omega | assumption | decide) ?_; (conv => cbv))
              | (refine hk.ge0I (by first | omega | assumption) ?_; (conv => cbv))
              | (refine hk.needI (by first | (simp only [rNd, hk.sb_eq, hk.ad_eq]; omega) | (simp [rNd, hk.sb_eq, hk.ad_eq]; omega)) ?_; (conv => cbv))
              | (refine hk.callA (by assumption) ?_; (conv => cbv))
              | (refine hk.calldA (by assumption) ?_; (conv => cbv))
              | (rw [hk.sb0]; (conv => cbv))
              | (rw [hk.ad0]; (conv => cbv))
              | exact hk.finB (by first | rfl | (simp [hk.c2_lss, hk.c2_leq, hk.c2_gtr, hk.c2_geq, hk.c2_eql, hk.c2_neq, hk.bn_eq, hk.bq_eq]; done) | assumption)
              | exact hk.fin1 rfl)
            refine hb3 c1 _ ⟨by omega, by omega⟩ (by omega) ?_
            rw [hNXs]
            refine Gh.tm ?_
            repeat' (first | exact Holds.nil _ _ | refine Holds.cons (Wk.refl _ _) ?_ | refine Holds.cons (Wk.of_eq ?_) ?_)
      · simp only [Bool.not_true, Bool.false_and, Bool.false_eq_true, if_false] at hNXs
        (conv => cbv)
        repeat' (first
          | assumption
          | (rw [hln]; (conv => cbv))
          | (refine hk.callA (hh1 _) ?_; (conv => cbv))
          | (refine hk.calldA hh1 ?_; (conv => cbv))
          | (refine hk.idxI hc0 hc2 ?_; (conv => cbv))
          | (rw [← hx0]; (conv => cbv))
          | (refine hk.callA (hh2 _) ?_; (conv => cbv))
          | (refine hk.calldA hh2 ?_; (conv => cbv))
          | (rw [hsu2]; (conv => cbv))
          | (refine hk.brLssT (by omega) ?_; (conv => cbv))
          | (refine hk.brLssF (by omega) ?_; (conv => cbv))
          | (refine hk.brLeqT (by omega) ?_; (conv => cbv))
          | (refine hk.brLeqF (by omega) ?_; (conv => cbv))
          | (refine hk.brGtrT (by omega) ?_; (conv => cbv))
          | (refine hk.brGtrF (by omega) ?_; (conv => cbv))
          | (refine hk.brGeqT (by omega) ?_; (conv => cbv))
          | (refine hk.brGeqF (by omega) ?_; (conv => cbv))
          | (refine hk.brEqlT (by omega) ?_; (conv => cbv))
          | (refine hk.brEqlF (by omega) ?_; (conv => cbv))
          | (refine hk.brNeqT (by omega) ?_; (conv => cbv))
          | (refine hk.brNeqF (by omega) ?_; (conv => cbv))
          | (refine hk.brLss (fun _ => ?_) (fun _ => ?_) <;> (conv => cbv))
          | (refine hk.brLeq (fun _ => ?_) (fun _ => ?_) <;> (conv => cbv))
          | (refine hk.brGtr (fun _ => ?_) (fun _ => ?_) <;> (conv => cbv))
          | (refine hk.brGeq (fun _ => ?_) (fun _ => ?_) <;> (conv => cbv))
          | (refine hk.brEql (fun _ => ?_) (fun _ => ?_) <;> (conv => cbv))
          | (refine hk.brNeq (fun _ => ?_) (fun _ => ?_) <;> (conv => cbv))
          | (refine hk.brNotT ?_; (conv => cbv))
          | (refine hk.brNotF ?_; (conv => cbv))
          | (refine hk.brNotS _ (by simp [hk.c2_lss, hk.c2_leq, hk.c2_gtr, hk.c2_geq, hk.c2_eql, hk.c2_neq, hk.bn_eq, hk.bq_eq]; rfl) ?_; (conv => cbv))
          | (refine hk.brBqS _ (by simp [hk.c2_lss, hk.c2_leq, hk.c2_gtr, hk.c2_geq, hk.c2_eql, hk.c2_neq, hk.bn_eq, hk.bq_eq]; rfl) ?_; (conv => cbv))
          | (refine hk.idxI (by first | omega | assumption) (by first | omega | assumption) ?_; (conv => cbv))
          | (refine hk.nzI (by first | omega | assumption | decide) ?_; (conv => cbv))
          | (refine hk.ge0I (by first | omega | assumption) ?_; (conv => cbv))
          | (refine hk.needI (by first | (simp only [rNd, hk.sb_eq, hk.ad_eq]; omega) | (simp [rNd, hk.sb_eq, hk.ad_eq]; omega)) ?_; (conv => cbv))
          | (refine hk.callA (by assumption) ?_; (conv => cbv))
          | (refine hk.calldA (by assumption) ?_; (conv => cbv))
          | (rw [hk.sb0]; (conv => cbv))
          | (rw [hk.ad0]; (conv => cbv))
          | exact hk.finB (by first | rfl | (simp [hk.c2_lss, hk.c2_leq, hk.c2_gtr, hk.c2_geq, hk.c2_eql, hk.c2_neq, hk.bn_eq, hk.bq_eq]; done) | assumption)
          | exact hk.fin1 rfl)
        refine hb3 c1 _ ⟨by omega, by omega⟩ (by omega) ?_
        rw [hNXs]
        refine Gh.tm ?_
        repeat' (first | exact Holds.nil _ _ | refine Holds.cons (Wk.refl _ _) ?_ | refine Holds.cons (Wk.of_eq ?_) ?_)
    · have : c = -1 := by omega
      subst this
      obtain ⟨X, hX⟩ : ∃ X, X = NX (-1) := ⟨_, rfl⟩
      rw [← hX] at hNXe ⊢
      obtain ⟨f, hf0⟩ : ∃ f, ms.length - out.length = f + 1 := ⟨ms.length - out.length - 1, by omega⟩
      rw [hf0, srt, ← hNXe] at hsS
      by_cases hX0 : X < 0
      · rw [if_pos hX0] at hsS
        subst hsS
        simp only [Option.getD, Option.isSome] at hrl hre
        subst hrl
        subst hre
        (conv => cbv)
        repeat' (first
          | assumption
          | (refine hx3 _ _ ?_; (conv => cbv))
          | (refine hr2 _ ?_; (conv => cbv))
          | (refine hk.brLssT (by omega) ?_; (conv => cbv))
          | (refine hk.brLssF (by omega) ?_; (conv => cbv))
          | (refine hk.brLeqT (by omega) ?_; (conv => cbv))
          | (refine hk.brLeqF (by omega) ?_; (conv => cbv))
          | (refine hk.brGtrT (by omega) ?_; (conv => cbv))
          | (refine hk.brGtrF (by omega) ?_; (conv => cbv))
          | (refine hk.brGeqT (by omega) ?_; (conv => cbv))
          | (refine hk.brGeqF (by omega) ?_; (conv => cbv))
          | (refine hk.brEqlT (by omega) ?_; (conv => cbv))
          | (refine hk.brEqlF (by omega) ?_; (conv => cbv))
          | (refine hk.brNeqT (by omega) ?_; (conv => cbv))
          | (refine hk.brNeqF (by omega) ?_; (conv => cbv))
          | (refine hk.brLss (fun _ => ?_) (fun _ => ?_) <;> (conv => cbv))
          | (refine hk.brLeq (fun _ => ?_) (fun _ => ?_) <;> (conv => cbv))
          | (refine hk.brGtr (fun _ => ?_) (fun _ => ?_) <;> (conv => cbv))
          | (refine hk.brGeq (fun _ => ?_) (fun _ => ?_) <;> (conv => cbv))
          | (refine hk.brEql (fun _ => ?_) (fun _ => ?_) <;> (conv => cbv))
          | (refine hk.brNeq (fun _ => ?_) (fun _ => ?_) <;> (conv => cbv))
          | (refine hk.brNotT ?_; (conv => cbv))
          | (refine hk.brNotF ?_; (conv => cbv))
          | (refine hk.brNotS _ (by simp [hk.c2_lss, hk.c2_leq, hk.c2_gtr, hk.c2_geq, hk.c2_eql, hk.c2_neq, hk.bn_eq, hk.bq_eq]; rfl) ?_; (conv => cbv))
          | (refine hk.brBqS _ (by simp [hk.c2_lss, hk.c2_leq, hk.c2_gtr, hk.c2_geq, hk.c2_eql, hk.c2_neq, hk.bn_eq, hk.bq_eq]; rfl) ?_; (conv => cbv))
          | (refine hk.idxI (by first | omega | assumption) (by first | omega | assumption) ?_; (conv => cbv))
          | (refine hk.nzI (by first | omega | assumption | decide) ?_; (conv => cbv))
          | (refine hk.ge0I (by first | omega | assumption) ?_; (conv => cbv))
          | (refine hk.needI (by first | (simp only [rNd, hk.sb_eq, hk.ad_eq]; omega) | (simp [rNd, hk.sb_eq, hk.ad_eq]; omega)) ?_; (conv => cbv))
          | (refine hk.callA (by assumption) ?_; (conv => cbv))
          | (refine hk.calldA (by assumption) ?_; (conv => cbv))
          | (rw [hk.sb0]; (conv => cbv))
          | (rw [hk.ad0]; (conv => cbv))
          | exact hk.finB (by first | rfl | (simp [hk.c2_lss, hk.c2_leq, hk.c2_gtr, hk.c2_geq, hk.c2_eql, hk.c2_neq, hk.bn_eq, hk.bq_eq]; done) | assumption)
          | exact hk.fin1 rfl)
        all_goals first
          | exact hk.fin0 rfl rfl (Wk.tup ⟨Wk.nilL _ _, .refl _ _, trivial⟩)
          | skip
      · rw [if_neg hX0] at hsS
        obtain ⟨out2, ho2⟩ : ∃ o, o = out ++ [X] := ⟨_, rfl⟩
        rw [← ho2] at hsS
        have hap2 : apI out [X] = out2 := by rw [hap]; exact ho2.symm
        have hlo : lnI out = k := by rw [hlnI]; omega
        have hnd : rNd (.room (ad k 1) 8) := by simp only [rNd, hk.ad_eq]; omega
        have ho2l : out2.length = out.length + 1 := by rw [ho2, List.length_append, List.length_singleton]
        (conv => cbv)
        repeat' (first
          | assumption
          | (refine hx3 _ _ ?_; (conv => cbv))
          | (rw [hap2]; (conv => cbv))
          | (rw [hlo, hl1]; (conv => cbv))
          | (refine hk.needI hnd ?_; (conv => cbv))
          | (refine hk.brLssT (by omega) ?_; (conv => cbv))
          | (refine hk.brLssF (by omega) ?_; (conv => cbv))
          | (refine hk.brLeqT (by omega) ?_; (conv => cbv))
          | (refine hk.brLeqF (by omega) ?_; (conv => cbv))
          | (refine hk.brGtrT (by omega) ?_; (conv => cbv))
          | (refine hk.brGtrF (by omega) ?_; (conv => cbv))
          | (refine hk.brGeqT (by omega) ?_; (conv => cbv))
          | (refine hk.brGeqF (by omega) ?_; (conv => cbv))
          | (refine hk.brEqlT (by omega) ?_; (conv => cbv))
          | (refine hk.brEqlF (by omega) ?_; (conv => cbv))
          | (refine hk.brNeqT (by omega) ?_; (conv => cbv))
          | (refine hk.brNeqF (by omega) ?_; (conv => cbv))
          | (refine hk.brLss (fun _ => ?_) (fun _ => ?_) <;> (conv => cbv))
          | (refine hk.brLeq (fun _ => ?_) (fun _ => ?_) <;> (conv => cbv))
          | (refine hk.brGtr (fun _ => ?_) (fun _ => ?_) <;> (conv => cbv))
          | (refine hk.brGeq (fun _ => ?_) (fun _ => ?_) <;> (conv => cbv))
          | (refine hk.brEql (fun _ => ?_) (fun _ => ?_) <;> (conv => cbv))
          | (refine hk.brNeq (fun _ => ?_) (fun _ => ?_) <;> (conv => cbv))
          | (refine hk.brNotT ?_; (conv => cbv))
          | (refine hk.brNotF ?_; (conv => cbv))
          | (refine hk.brNotS _ (by simp [hk.c2_lss, hk.c2_leq, hk.c2_gtr, hk.c2_geq, hk.c2_eql, hk.c2_neq, hk.bn_eq, hk.bq_eq]; rfl) ?_; (conv => cbv))
          | (refine hk.brBqS _ (by simp [hk.c2_lss, hk.c2_leq, hk.c2_gtr, hk.c2_geq, hk.c2_eql, hk.c2_neq, hk.bn_eq, hk.bq_eq]; rfl) ?_; (conv => cbv))
          | (refine hk.idxI (by first | omega | assumption) (by first | omega | assumption) ?_; (conv => cbv))
          | (refine hk.nzI (by first | omega | assumption | decide) ?_; (conv => cbv))
          | (refine hk.ge0I (by first | omega | assumption) ?_; (conv => cbv))
          | (refine hk.needI (by first | (simp only [rNd, hk.sb_eq, hk.ad_eq]; omega) | (simp [rNd, hk.sb_eq, hk.ad_eq]; omega)) ?_; (conv => cbv))
          | (refine hk.callA (by assumption) ?_; (conv => cbv))
          | (refine hk.calldA (by assumption) ?_; (conv => cbv))
          | (rw [hk.sb0]; (conv => cbv))
          | (rw [hk.ad0]; (conv => cbv))
          | exact hk.finB (by first | rfl | (simp [hk.c2_lss, hk.c2_leq, hk.c2_gtr, hk.c2_geq, hk.c2_eql, hk.c2_neq, hk.bn_eq, hk.bq_eq]; done) | assumption)
          | exact hk.fin1 rfl)
        refine hb2 (k + 1, out2) _ ⟨by simp only; omega, by simp only; omega, by simp only; rw [ho2l, show ms.length - (out.length + 1) = f by omega]; exact hsS⟩ (by simp only; omega) ?_
        dsimp only
        refine Gh.retok 0 1 rfl (Nat.le_of_ble_eq_true rfl) ?_ rfl rfl
        repeat' (first | exact HoldsT.nil _ _ _ _ | refine HoldsT.tok rfl ?_ | refine HoldsT.cons (Wk.refl _ _) rfl ?_ | refine HoldsT.cons (Wk.of_eq ?_) rfl ?_)
        all_goals first
          | (rw [← hk.add64 k 1 (by omega) (by omega)]; rfl)
          | rfl
          | skip
  · have : k = i := by omega
    subst this
    rw [show ms.length - out.length = 0 by omega, srt] at hsS
    subst hsS
    simp only [Option.getD, Option.isSome] at hrl hre
    subst hrl
    subst hre
    (conv => cbv)
    repeat' (first
      | assumption
      | (refine hx2 _ _ ?_; (conv => cbv))
      | (refine hk.brLssT (by omega) ?_; (conv => cbv))
      | (refine hk.brLssF (by omega) ?_; (conv => cbv))
      | (refine hk.brLeqT (by omega) ?_; (conv => cbv))
      | (refine hk.brLeqF (by omega) ?_; (conv => cbv))
      | (refine hk.brGtrT (by omega) ?_; (conv => cbv))
      | (refine hk.brGtrF (by omega) ?_; (conv => cbv))
      | (refine hk.brGeqT (by omega) ?_; (conv => cbv))
      | (refine hk.brGeqF (by omega) ?_; (conv => cbv))
      | (refine hk.brEqlT (by omega) ?_; (conv => cbv))
      | (refine hk.brEqlF (by omega) ?_; (conv => cbv))
      | (refine hk.brNeqT (by omega) ?_; (conv => cbv))
      | (refine hk.brNeqF (by omega) ?_; (conv => cbv))
      | (refine hk.brLss (fun _ => ?_) (fun _ => ?_) <;> (conv => cbv))
      | (refine hk.brLeq (fun _ => ?_) (fun _ => ?_) <;> (conv => cbv))
      | (refine hk.brGtr (fun _ => ?_) (fun _ => ?_) <;> (conv => cbv))
      | (refine hk.brGeq (fun _ => ?_) (fun _ => ?_) <;> (conv => cbv))
      | (refine hk.brEql (fun _ => ?_) (fun _ => ?_) <;> (conv => cbv))
      | (refine hk.brNeq (fun _ => ?_) (fun _ => ?_) <;> (conv => cbv))
      | (refine hk.brNotT ?_; (conv => cbv))
      | (refine hk.brNotF ?_; (conv => cbv))
      | (refine hk.brNotS _ (by simp [hk.c2_lss, hk.c2_leq, hk.c2_gtr, hk.c2_geq, hk.c2_eql, hk.c2_neq, hk.bn_eq, hk.bq_eq]; rfl) ?_; (conv => cbv))
      | (refine hk.brBqS _ (by simp [hk.c2_lss, hk.c2_leq, hk.c2_gtr, hk.c2_geq, hk.c2_eql, hk.c2_neq, hk.bn_eq, hk.bq_eq]; rfl) ?_; (conv => cbv))
      | (refine hk.idxI (by first | omega | assumption) (by first | omega | assumption) ?_; (conv => cbv))
      | (refine hk.nzI (by first | omega | assumption | decide) ?_; (conv => cbv))
      | (refine hk.ge0I (by first | omega | assumption) ?_; (conv => cbv))
      | (refine hk.needI (by first | (simp only [rNd, hk.sb_eq, hk.ad_eq]; omega) | (simp [rNd, hk.sb_eq, hk.ad_eq]; omega)) ?_; (conv => cbv))
      | (refine hk.callA (by assumption) ?_; (conv => cbv))
      | (refine hk.calldA (by assumption) ?_; (conv => cbv))
      | (rw [hk.sb0]; (conv => cbv))
      | (rw [hk.ad0]; (conv => cbv))
      | exact hk.finB (by first | rfl | (simp [hk.c2_lss, hk.c2_leq, hk.c2_gtr, hk.c2_geq, hk.c2_eql, hk.c2_neq, hk.bn_eq, hk.bq_eq]; done) | assumption)
      | exact hk.fin1 rfl)
    exact hk.fin0 rfl rfl (Wk.tup ⟨Wk.any _ _ _, .refl _ _, trivial⟩)
end Go.Proofs.Ytnnpookoencpnab
