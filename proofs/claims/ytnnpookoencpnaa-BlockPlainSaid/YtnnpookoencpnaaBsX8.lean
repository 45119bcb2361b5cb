/-
  Contracts of functions of the program, proved over the abstract machine of the Al texts.
-/
import Derived.Test.YtnnpookoencpnaaTryTab
import Derived.Test.YtnnpookoencpnaaAl4
import Derived.Test.YtnnpookoencpnaaBase
import Derived.Test.YtnnpookoencpnaaRkX
import Derived.Test.YtnnpookoencpnaaBsX1
import Derived.Test.YtnnpookoencpnaaBsX3
import Derived.Test.YtnnpookoencpnaaBsX4
import Derived.Test.YtnnpookoencpnaaBsX7
import Derived.Test.YtnnpookoencpnaaBsX5
set_option linter.unusedSimpArgs false
set_option linter.unusedVariables false
namespace Go.Proofs.Ytnnpookoencpnaa
open Go Go.AL
structure BlkIn where
  kd : Int
  vl : Int
  sh : Int
  ix : List Int
  lg : Int
  gn : Int
  pt : Int
  rc : List Int
  da : List Int
def BlkIn.v (x : BlkIn) : AVal := .agg [.int .i64 x.kd, .int .i64 x.vl, .int .i64 x.sh, .ls (.il .i64 x.ix) .any, .int .i64 x.lg, .int .i64 x.gn, .int .i64 x.pt, .ls (.il .i64 x.rc) .any, .ls (.il .i64 x.da) .any]
structure BlkIn.ok (x : BlkIn) : Prop where
  vl : -9223372036854775808 ≤ x.vl ∧ x.vl ≤ 9223372036854775807
  ix : x.ix.length ≤ 9223372036854775807
  rc : x.rc.length ≤ 9223372036854775807
  da : x.da.length ≤ 9223372036854775807
theorem block_typed {v : AVal} (h : tyV T 4 24 v) : ∃ x : BlkIn, v = x.v ∧ x.ok := by
  obtain ⟨c, hc, ht⟩ := h
  subst hc
  obtain ⟨_, _, rfl, ⟨kd, rfl, hkd⟩, _, _, rfl, ⟨vl, rfl, hvl⟩, _, _, rfl, ⟨sh, rfl, hsh⟩, _, _, rfl, ⟨ix, rfl, hix, _⟩, _, _, rfl, ⟨lg, rfl, hlg⟩, _, _, rfl, ⟨gn, rfl, hgn⟩, _, _, rfl, ⟨pt, rfl, hpt⟩, _, _, rfl, ⟨rc, rfl, hrc, _⟩, _, _, rfl, ⟨da, rfl, hda, _⟩, rfl⟩ := ht
  have e : maxLen = 9223372036854775807 := by decide
  exact ⟨⟨kd, vl, sh, ix, lg, gn, pt, rc, da⟩, rfl, by simpa [Lit.wf, IntKind.min, IntKind.max, IntKind.signed, IntKind.bits] using hvl, by simp only; omega, by simp only; omega, by simp only; omega⟩
end Go.Proofs.Ytnnpookoencpnaa
set_option maxHeartbeats 4000000
set_option maxRecDepth 20000
set_option linter.unusedSimpArgs false
set_option linter.unusedVariables false
open Go Go.AL
namespace Go.Proofs.Ytnnpookoencpnaa
theorem bsamples_raw (vl sh : Int) (ix : List Int) (lg gn pt : Int) (rc da : List Int) (n d : Int) (h1 : 1 ≤ n) (h2 : n ≤ 1024) (h3 : 8 ≤ d) (h4 : d ≤ 26)
    (hl1 : ix.length ≤ 9223372036854775807) (hl2 : rc.length ≤ 9223372036854775807) (hl3 : da.length ≤ 9223372036854775807) (hf : formE 3 vl sh ix lg gn pt rc da n d = 0)
    (hok : da.any (lacksP d) = false) :
    Does PP 14 [.agg [I 3, I vl, I sh, LI ix, I lg, I gn, I pt, LI rc, LI da], I n, I d] [] (Is (.tup [.sl 1 1 0 n, I 0]) [.box [I 3, I vl, I sh, LI ix, I lg, I gn, I pt, LI rc, LI da], .rw 1 (.il .i64 da)]) := by
  obtain ⟨hkd, hdn⟩ := form_plain hf (by decide)
  have hdn := hdn rfl
  have hd := fun h => bdepth_spec d h
  rw [decide_eq_true h3, decide_eq_true h4] at hd
  have hc := fun h => bcount_spec n h
  rw [decide_eq_true h1, decide_eq_true h2] at hc
  have hfm := fun h => form_spec 3 vl sh ix lg gn pt rc da n d h hl1 hl2 hl3
  rw [hf] at hfm
  have hcl : ∀ o, Does PP 51 [LI da] [o] (Is (.sl 1 1 0 n) [o, .rw 1 (.il .i64 da)]) := fun o =>
    (cloneR_spec da n hdn.symm h1 h2).renI [] rfl (by decide) rfl trivial rfl rfl rfl rfl rfl rfl
  have hco : ∀ o, Does PP 53 [.sl 1 1 0 n, .clo (.func 54) [I d] []] [o, .rw 1 (.il .i64 da)] (Is (.bool false) [o, .rw 1 (.il .i64 da)]) := fun o => by
    rw [← hok]
    exact (containsR_spec da 1 n 54 d (lacksP d) hdn.symm h2 (fun n h => lacks_spec d n h h3 h4)).renI [1] rfl (by decide) rfl ⟨rfl, trivial⟩ rfl rfl rfl rfl rfl rfl
  clear hf hok
  refine doesF P_ok Try.f14 (by kernel_rfl) (by kernel_rfl) ?_
  intro i2 c2 u1 cv mx mn ad sbt bn bq ba lnI gtI apI sbI stI rpI lnG gtG apG sbG stG rpG fi fb fs fl fg fc sln sgt sap ssb sc b2s s2b nd call calld callv callvd loop rfun fin hk
  (conv => cbv)
  repeat' (first
    | assumption
    | (refine hk.callA (hc _) ?_; (conv => cbv))
    | (refine hk.calldA hc ?_; (conv => cbv))
    | (refine hk.callA (hd _) ?_; (conv => cbv))
    | (refine hk.calldA hd ?_; (conv => cbv))
    | (refine hk.callA (hfm _) ?_; (conv => cbv))
    | (refine hk.calldA hfm ?_; (conv => cbv))
    | (refine hk.callA (hcl _) ?_; (conv => cbv))
    | (refine hk.callA (hco _) ?_; (conv => cbv))
    | (refine hk.brLssT (by omega) ?_; (conv => cbv))
    | (refine hk.brLssF (by omega) ?_; (conv => cbv))
    | (refine hk.brLeqT (by omega) ?_; (conv => cbv))
    | (refine hk.brLeqF (by omega) ?_; (conv => cbv))
    | (refine hk.brGtrT (by omega) ?_; (conv => cbv))
    | (refine hk.brGtrF (by omega) ?_; (conv => cbv))
    | (refine hk.brGeqT (by omega) ?_; (conv => cbv))
    | (refine hk.brGeqF (by omega) ?_; (conv => cbv))
    | (refine hk.brEqlT (by omega) ?_; (conv => cbv))
    | (refine hk.brEqlF (by omega) ?_; (conv => cbv))
    | (refine hk.brNeqT (by omega) ?_; (conv => cbv))
    | (refine hk.brNeqF (by omega) ?_; (conv => cbv))
    | (refine hk.brLss (fun _ => ?_) (fun _ => ?_) <;> (conv => cbv))
    | (refine hk.brLeq (fun _ => ?_) (fun _ => ?_) <;> (conv => cbv))
    | (refine hk.brGtr (fun _ => ?_) (fun _ => ?_) <;> (conv => cbv))
    | (refine hk.brGeq (fun _ => ?_) (fun _ => ?_) <;> (conv => cbv))
    | (refine hk.brEql (fun _ => ?_) (fun _ => ?_) <;> (conv => cbv))
    | (refine hk.brNeq (fun _ => ?_) (fun _ => ?_) <;> (conv => cbv))
    | (refine hk.brNotT ?_; (conv => cbv))
    | (refine hk.brNotF ?_; (conv => cbv))
    | (refine hk.brNotS _ (by simp [hk.c2_lss, hk.c2_leq, hk.c2_gtr, hk.c2_geq, hk.c2_eql, hk.c2_neq, hk.bn_eq, hk.bq_eq]; rfl) ?_; (conv => cbv))
    | (refine hk.brBqS _ (by simp [hk.c2_lss, hk.c2_leq, hk.c2_gtr, hk.c2_geq, hk.c2_eql, hk.c2_neq, hk.bn_eq, hk.bq_eq]; rfl) ?_; (conv => cbv))
    | (refine hk.idxI (by first | omega | assumption) (by first | omega | assumption) ?_; (conv => cbv))
    | (refine hk.nzI (by first | omega | assumption | decide) ?_; (conv => cbv))
    | (refine hk.ge0I (by first | omega | assumption) ?_; (conv => cbv))
    | (refine hk.needI (by first | (simp only [rNd, hk.sb_eq, hk.ad_eq]; omega) | (simp [rNd, hk.sb_eq, hk.ad_eq]; omega)) ?_; (conv => cbv))
    | (refine hk.callA (by assumption) ?_; (conv => cbv))
    | (refine hk.calldA (by assumption) ?_; (conv => cbv))
    | (rw [hk.sb0]; (conv => cbv))
    | (rw [hk.ad0]; (conv => cbv))
    | exact hk.finB (by first | rfl | (simp [hk.c2_lss, hk.c2_leq, hk.c2_gtr, hk.c2_geq, hk.c2_eql, hk.c2_neq, hk.bn_eq, hk.bq_eq]; done) | assumption)
    | exact hk.fin1 rfl)
end Go.Proofs.Ytnnpookoencpnaa
set_option maxHeartbeats 4000000
set_option maxRecDepth 20000
set_option linter.unusedSimpArgs false
set_option linter.unusedVariables false
open Go Go.AL
namespace Go.Proofs.Ytnnpookoencpnaa
theorem bsamples_rawN (vl sh : Int) (ix : List Int) (lg gn pt : Int) (rc da : List Int) (n d : Int) (h1 : 1 ≤ n) (h2 : n ≤ 1024) (h3 : 8 ≤ d) (h4 : d ≤ 26)
    (hl1 : ix.length ≤ 9223372036854775807) (hl2 : rc.length ≤ 9223372036854775807) (hl3 : da.length ≤ 9223372036854775807) (hf : formE 3 vl sh ix lg gn pt rc da n d = 0)
    (hok : da.any (lacksP d) = true) :
    Does PP 14 [.agg [I 3, I vl, I sh, LI ix, I lg, I gn, I pt, LI rc, LI da], I n, I d] [] (Is (.tup [LI [], I 9]) []) := by
  obtain ⟨hkd, hdn⟩ := form_plain hf (by decide)
  have hdn := hdn rfl
  have hd := fun h => bdepth_spec d h
  rw [decide_eq_true h3, decide_eq_true h4] at hd
  have hc := fun h => bcount_spec n h
  rw [decide_eq_true h1, decide_eq_true h2] at hc
  have hfm := fun h => form_spec 3 vl sh ix lg gn pt rc da n d h hl1 hl2 hl3
  rw [hf] at hfm
  have hcl : ∀ o, Does PP 51 [LI da] [o] (Is (.sl 1 1 0 n) [o, .rw 1 (.il .i64 da)]) := fun o =>
    (cloneR_spec da n hdn.symm h1 h2).renI [] rfl (by decide) rfl trivial rfl rfl rfl rfl rfl rfl
  have hco : ∀ o, Does PP 53 [.sl 1 1 0 n, .clo (.func 54) [I d] []] [o, .rw 1 (.il .i64 da)] (Is (.bool true) [o, .rw 1 (.il .i64 da)]) := fun o => by
    rw [← hok]
    exact (containsR_spec da 1 n 54 d (lacksP d) hdn.symm h2 (fun n h => lacks_spec d n h h3 h4)).renI [1] rfl (by decide) rfl ⟨rfl, trivial⟩ rfl rfl rfl rfl rfl rfl
  clear hf hok
  refine doesF P_ok Try.f14 (by kernel_rfl) (by kernel_rfl) ?_
  intro i2 c2 u1 cv mx mn ad sbt bn bq ba lnI gtI apI sbI stI rpI lnG gtG apG sbG stG rpG fi fb fs fl fg fc sln sgt sap ssb sc b2s s2b nd call calld callv callvd loop rfun fin hk
  (conv => cbv)
  repeat' (first
    | assumption
    | (refine hk.callA (hc _) ?_; (conv => cbv))
    | (refine hk.calldA hc ?_; (conv => cbv))
    | (refine hk.callA (hd _) ?_; (conv => cbv))
    | (refine hk.calldA hd ?_; (conv => cbv))
    | (refine hk.callA (hfm _) ?_; (conv => cbv))
    | (refine hk.calldA hfm ?_; (conv => cbv))
    | (refine hk.callA (hcl _) ?_; (conv => cbv))
    | (refine hk.callA (hco _) ?_; (conv => cbv))
    | (refine hk.brLssT (by omega) ?_; (conv => cbv))
    | (refine hk.brLssF (by omega) ?_; (conv => cbv))
    | (refine hk.brLeqT (by omega) ?_; (conv => cbv))
    | (refine hk.brLeqF (by omega) ?_; (conv => cbv))
    | (refine hk.brGtrT (by omega) ?_; (conv => cbv))
    | (refine hk.brGtrF (by omega) ?_; (conv => cbv))
    | (refine hk.brGeqT (by omega) ?_; (conv => cbv))
    | (refine hk.brGeqF (by omega) ?_; (conv => cbv))
    | (refine hk.brEqlT (by omega) ?_; (conv => cbv))
    | (refine hk.brEqlF (by omega) ?_; (conv => cbv))
    | (refine hk.brNeqT (by omega) ?_; (conv => cbv))
    | (refine hk.brNeqF (by omega) ?_; (conv => cbv))
    | (refine hk.brLss (fun _ => ?_) (fun _ => ?_) <;> (conv => cbv))
    | (refine hk.brLeq (fun _ => ?_) (fun _ => ?_) <;> (conv => cbv))
    | (refine hk.brGtr (fun _ => ?_) (fun _ => ?_) <;> (conv => cbv))
    | (refine hk.brGeq (fun _ => ?_) (fun _ => ?_) <;> (conv => cbv))
    | (refine hk.brEql (fun _ => ?_) (fun _ => ?_) <;> (conv => cbv))
    | (refine hk.brNeq (fun _ => ?_) (fun _ => ?_) <;> (conv => cbv))
    | (refine hk.brNotT ?_; (conv => cbv))
    | (refine hk.brNotF ?_; (conv => cbv))
    | (refine hk.brNotS _ (by simp [hk.c2_lss, hk.c2_leq, hk.c2_gtr, hk.c2_geq, hk.c2_eql, hk.c2_neq, hk.bn_eq, hk.bq_eq]; rfl) ?_; (conv => cbv))
    | (refine hk.brBqS _ (by simp [hk.c2_lss, hk.c2_leq, hk.c2_gtr, hk.c2_geq, hk.c2_eql, hk.c2_neq, hk.bn_eq, hk.bq_eq]; rfl) ?_; (conv => cbv))
    | (refine hk.idxI (by first | omega | assumption) (by first | omega | assumption) ?_; (conv => cbv))
    | (refine hk.nzI (by first | omega | assumption | decide) ?_; (conv => cbv))
    | (refine hk.ge0I (by first | omega | assumption) ?_; (conv => cbv))
    | (refine hk.needI (by first | (simp only [rNd, hk.sb_eq, hk.ad_eq]; omega) | (simp [rNd, hk.sb_eq, hk.ad_eq]; omega)) ?_; (conv => cbv))
    | (refine hk.callA (by assumption) ?_; (conv => cbv))
    | (refine hk.calldA (by assumption) ?_; (conv => cbv))
    | (rw [hk.sb0]; (conv => cbv))
    | (rw [hk.ad0]; (conv => cbv))
    | exact hk.finB (by first | rfl | (simp [hk.c2_lss, hk.c2_leq, hk.c2_gtr, hk.c2_geq, hk.c2_eql, hk.c2_neq, hk.bn_eq, hk.bq_eq]; done) | assumption)
    | exact hk.fin1 rfl)
  all_goals exact hk.fin0 rfl rfl (Wk.tup ⟨Wk.nilL _ _, .refl _ _, trivial⟩)
theorem bsamples_const (kd vl sh : Int) (ix : List Int) (lg gn pt : Int) (rc da : List Int) (n d : Int) (h1 : 1 ≤ n) (h2 : n ≤ 64) (h3 : 8 ≤ d) (h4 : d ≤ 26)
    (hl1 : ix.length ≤ 9223372036854775807) (hl2 : rc.length ≤ 9223372036854775807) (hl3 : da.length ≤ 9223372036854775807) (hf : formE kd vl sh ix lg gn pt rc da n d = 0) (hk2 : kd ≠ 2) (hk3 : kd ≠ 3)
    (hok : (List.replicate n.toNat vl).any (lacksP d) = false) :
    Does PP 14 [.agg [I kd, I vl, I sh, LI ix, I lg, I gn, I pt, LI rc, LI da], I n, I d] [] (Is (.tup [.sl 2 0 0 n, I 0]) [.box [I kd, I vl, I sh, LI ix, I lg, I gn, I pt, LI rc, LI da], .tok 0, .rw 0 (.il .i64 (List.replicate n.toNat vl))]) := by
  have hd := fun h => bdepth_spec d h
  rw [decide_eq_true h3, decide_eq_true h4] at hd
  have hc := fun h => bcount_spec n h
  rw [decide_eq_true h1, decide_eq_true (show n ≤ 1024 by omega)] at hc
  have hfm := fun h => form_spec kd vl sh ix lg gn pt rc da n d h hl1 hl2 hl3
  rw [hf] at hfm
  obtain ⟨R, hR⟩ : ∃ R, R = List.replicate n.toNat vl := ⟨_, rfl⟩
  have hRl : n = (R.length : Nat) := by rw [hR, List.length_replicate]; omega
  have hrp0 := repeatR_spec vl n h1 h2
  rw [← hR] at hrp0 hok
  have hrp : ∀ o o2, Does PP 52 [LI [vl], I n] [o, o2] (Is (.sl 2 0 0 n) [o, o2, .rw 0 (.il .i64 R)]) := fun o o2 =>
    hrp0.renI [] rfl (by decide) rfl trivial rfl rfl rfl rfl rfl rfl
  have hco : ∀ o o2, Does PP 53 [.sl 2 0 0 n, .clo (.func 54) [I d] []] [o, o2, .rw 0 (.il .i64 R)] (Is (.bool false) [o, o2, .rw 0 (.il .i64 R)]) := fun o o2 => by
    rw [← hok]
    exact (containsR_spec R 0 n 54 d (lacksP d) hRl (by omega) (fun n h => lacks_spec d n h h3 h4)).renI [2] rfl (by decide) rfl ⟨rfl, trivial⟩ rfl rfl rfl rfl rfl rfl
  try rw [← hR]
  clear hf hok hR hrp0
  refine doesF P_ok Try.f14 (by kernel_rfl) (by kernel_rfl) ?_
  intro i2 c2 u1 cv mx mn ad sbt bn bq ba lnI gtI apI sbI stI rpI lnG gtG apG sbG stG rpG fi fb fs fl fg fc sln sgt sap ssb sc b2s s2b nd call calld callv callvd loop rfun fin hk
  (conv => cbv)
  repeat' (first
    | assumption
    | (refine hk.callA (hc _) ?_; (conv => cbv))
    | (refine hk.calldA hc ?_; (conv => cbv))
    | (refine hk.callA (hd _) ?_; (conv => cbv))
    | (refine hk.calldA hd ?_; (conv => cbv))
    | (refine hk.callA (hfm _) ?_; (conv => cbv))
    | (refine hk.calldA hfm ?_; (conv => cbv))
    | (refine hk.callA (Does.wk (hrp _ _) ?_) ?_
       · (repeat' (first | exact WkL.nil | refine WkL.cons (Wk.refl _ _) ?_ | refine WkL.cons (Wk.any _ _ _) ?_ | refine WkL.cons (Wk.nilL _ _) ?_))
       (conv => cbv))
    | (refine hk.callA (hco _ _) ?_; (conv => cbv))
    | (refine hk.brLssT (by omega) ?_; (conv => cbv))
    | (refine hk.brLssF (by omega) ?_; (conv => cbv))
    | (refine hk.brLeqT (by omega) ?_; (conv => cbv))
    | (refine hk.brLeqF (by omega) ?_; (conv => cbv))
    | (refine hk.brGtrT (by omega) ?_; (conv => cbv))
    | (refine hk.brGtrF (by omega) ?_; (conv => cbv))
    | (refine hk.brGeqT (by omega) ?_; (conv => cbv))
    | (refine hk.brGeqF (by omega) ?_; (conv => cbv))
    | (refine hk.brEqlT (by omega) ?_; (conv => cbv))
    | (refine hk.brEqlF (by omega) ?_; (conv => cbv))
    | (refine hk.brNeqT (by omega) ?_; (conv => cbv))
    | (refine hk.brNeqF (by omega) ?_; (conv => cbv))
    | (refine hk.brLss (fun _ => ?_) (fun _ => ?_) <;> (conv => cbv))
    | (refine hk.brLeq (fun _ => ?_) (fun _ => ?_) <;> (conv => cbv))
    | (refine hk.brGtr (fun _ => ?_) (fun _ => ?_) <;> (conv => cbv))
    | (refine hk.brGeq (fun _ => ?_) (fun _ => ?_) <;> (conv => cbv))
    | (refine hk.brEql (fun _ => ?_) (fun _ => ?_) <;> (conv => cbv))
    | (refine hk.brNeq (fun _ => ?_) (fun _ => ?_) <;> (conv => cbv))
    | (refine hk.brNotT ?_; (conv => cbv))
    | (refine hk.brNotF ?_; (conv => cbv))
    | (refine hk.brNotS _ (by simp [hk.c2_lss, hk.c2_leq, hk.c2_gtr, hk.c2_geq, hk.c2_eql, hk.c2_neq, hk.bn_eq, hk.bq_eq]; rfl) ?_; (conv => cbv))
    | (refine hk.brBqS _ (by simp [hk.c2_lss, hk.c2_leq, hk.c2_gtr, hk.c2_geq, hk.c2_eql, hk.c2_neq, hk.bn_eq, hk.bq_eq]; rfl) ?_; (conv => cbv))
    | (refine hk.idxI (by first | omega | assumption) (by first | omega | assumption) ?_; (conv => cbv))
    | (refine hk.nzI (by first | omega | assumption | decide) ?_; (conv => cbv))
    | (refine hk.ge0I (by first | omega | assumption) ?_; (conv => cbv))
    | (refine hk.needI (by first | (simp only [rNd, hk.sb_eq, hk.ad_eq]; omega) | (simp [rNd, hk.sb_eq, hk.ad_eq]; omega)) ?_; (conv => cbv))
    | (refine hk.callA (by assumption) ?_; (conv => cbv))
    | (refine hk.calldA (by assumption) ?_; (conv => cbv))
    | (rw [hk.sb0]; (conv => cbv))
    | (rw [hk.ad0]; (conv => cbv))
    | exact hk.finB (by first | rfl | (simp [hk.c2_lss, hk.c2_leq, hk.c2_gtr, hk.c2_geq, hk.c2_eql, hk.c2_neq, hk.bn_eq, hk.bq_eq]; done) | assumption)
    | exact hk.fin1 rfl)
theorem bsamples_constN (kd vl sh : Int) (ix : List Int) (lg gn pt : Int) (rc da : List Int) (n d : Int) (h1 : 1 ≤ n) (h2 : n ≤ 64) (h3 : 8 ≤ d) (h4 : d ≤ 26)
    (hl1 : ix.length ≤ 9223372036854775807) (hl2 : rc.length ≤ 9223372036854775807) (hl3 : da.length ≤ 9223372036854775807) (hf : formE kd vl sh ix lg gn pt rc da n d = 0) (hk2 : kd ≠ 2) (hk3 : kd ≠ 3)
    (hok : (List.replicate n.toNat vl).any (lacksP d) = true) :
    Does PP 14 [.agg [I kd, I vl, I sh, LI ix, I lg, I gn, I pt, LI rc, LI da], I n, I d] [] (Is (.tup [LI [], I 9]) []) := by
  have hd := fun h => bdepth_spec d h
  rw [decide_eq_true h3, decide_eq_true h4] at hd
  have hc := fun h => bcount_spec n h
  rw [decide_eq_true h1, decide_eq_true (show n ≤ 1024 by omega)] at hc
  have hfm := fun h => form_spec kd vl sh ix lg gn pt rc da n d h hl1 hl2 hl3
  rw [hf] at hfm
  obtain ⟨R, hR⟩ : ∃ R, R = List.replicate n.toNat vl := ⟨_, rfl⟩
  have hRl : n = (R.length : Nat) := by rw [hR, List.length_replicate]; omega
  have hrp0 := repeatR_spec vl n h1 h2
  rw [← hR] at hrp0 hok
  have hrp : ∀ o o2, Does PP 52 [LI [vl], I n] [o, o2] (Is (.sl 2 0 0 n) [o, o2, .rw 0 (.il .i64 R)]) := fun o o2 =>
    hrp0.renI [] rfl (by decide) rfl trivial rfl rfl rfl rfl rfl rfl
  have hco : ∀ o o2, Does PP 53 [.sl 2 0 0 n, .clo (.func 54) [I d] []] [o, o2, .rw 0 (.il .i64 R)] (Is (.bool true) [o, o2, .rw 0 (.il .i64 R)]) := fun o o2 => by
    rw [← hok]
    exact (containsR_spec R 0 n 54 d (lacksP d) hRl (by omega) (fun n h => lacks_spec d n h h3 h4)).renI [2] rfl (by decide) rfl ⟨rfl, trivial⟩ rfl rfl rfl rfl rfl rfl
  try rw [← hR]
  clear hf hok hR hrp0
  refine doesF P_ok Try.f14 (by kernel_rfl) (by kernel_rfl) ?_
  intro i2 c2 u1 cv mx mn ad sbt bn bq ba lnI gtI apI sbI stI rpI lnG gtG apG sbG stG rpG fi fb fs fl fg fc sln sgt sap ssb sc b2s s2b nd call calld callv callvd loop rfun fin hk
  (conv => cbv)
  repeat' (first
    | assumption
    | (refine hk.callA (hc _) ?_; (conv => cbv))
    | (refine hk.calldA hc ?_; (conv => cbv))
    | (refine hk.callA (hd _) ?_; (conv => cbv))
    | (refine hk.calldA hd ?_; (conv => cbv))
    | (refine hk.callA (hfm _) ?_; (conv => cbv))
    | (refine hk.calldA hfm ?_; (conv => cbv))
    | (refine hk.callA (Does.wk (hrp _ _) ?_) ?_
       · (repeat' (first | exact WkL.nil | refine WkL.cons (Wk.refl _ _) ?_ | refine WkL.cons (Wk.any _ _ _) ?_ | refine WkL.cons (Wk.nilL _ _) ?_))
       (conv => cbv))
    | (refine hk.callA (hco _ _) ?_; (conv => cbv))
    | (refine hk.brLssT (by omega) ?_; (conv => cbv))
    | (refine hk.brLssF (by omega) ?_; (conv => cbv))
    | (refine hk.brLeqT (by omega) ?_; (conv => cbv))
    | (refine hk.brLeqF (by omega) ?_; (conv => cbv))
    | (refine hk.brGtrT (by omega) ?_; (conv => cbv))
    | (refine hk.brGtrF (by omega) ?_; (conv => cbv))
    | (refine hk.brGeqT (by omega) ?_; (conv => cbv))
    | (refine hk.brGeqF (by omega) ?_; (conv => cbv))
    | (refine hk.brEqlT (by omega) ?_; (conv => cbv))
    | (refine hk.brEqlF (by omega) ?_; (conv => cbv))
    | (refine hk.brNeqT (by omega) ?_; (conv => cbv))
    | (refine hk.brNeqF (by omega) ?_; (conv => cbv))
    | (refine hk.brLss (fun _ => ?_) (fun _ => ?_) <;> (conv => cbv))
    | (refine hk.brLeq (fun _ => ?_) (fun _ => ?_) <;> (conv => cbv))
    | (refine hk.brGtr (fun _ => ?_) (fun _ => ?_) <;> (conv => cbv))
    | (refine hk.brGeq (fun _ => ?_) (fun _ => ?_) <;> (conv => cbv))
    | (refine hk.brEql (fun _ => ?_) (fun _ => ?_) <;> (conv => cbv))
    | (refine hk.brNeq (fun _ => ?_) (fun _ => ?_) <;> (conv => cbv))
    | (refine hk.brNotT ?_; (conv => cbv))
    | (refine hk.brNotF ?_; (conv => cbv))
    | (refine hk.brNotS _ (by simp [hk.c2_lss, hk.c2_leq, hk.c2_gtr, hk.c2_geq, hk.c2_eql, hk.c2_neq, hk.bn_eq, hk.bq_eq]; rfl) ?_; (conv => cbv))
    | (refine hk.brBqS _ (by simp [hk.c2_lss, hk.c2_leq, hk.c2_gtr, hk.c2_geq, hk.c2_eql, hk.c2_neq, hk.bn_eq, hk.bq_eq]; rfl) ?_; (conv => cbv))
    | (refine hk.idxI (by first | omega | assumption) (by first | omega | assumption) ?_; (conv => cbv))
    | (refine hk.nzI (by first | omega | assumption | decide) ?_; (conv => cbv))
    | (refine hk.ge0I (by first | omega | assumption) ?_; (conv => cbv))
    | (refine hk.needI (by first | (simp only [rNd, hk.sb_eq, hk.ad_eq]; omega) | (simp [rNd, hk.sb_eq, hk.ad_eq]; omega)) ?_; (conv => cbv))
    | (refine hk.callA (by assumption) ?_; (conv => cbv))
    | (refine hk.calldA (by assumption) ?_; (conv => cbv))
    | (rw [hk.sb0]; (conv => cbv))
    | (rw [hk.ad0]; (conv => cbv))
    | exact hk.finB (by first | rfl | (simp [hk.c2_lss, hk.c2_leq, hk.c2_gtr, hk.c2_geq, hk.c2_eql, hk.c2_neq, hk.bn_eq, hk.bq_eq]; done) | assumption)
    | exact hk.fin1 rfl)
  all_goals exact hk.fin0 rfl rfl (Wk.tup ⟨Wk.nilL _ _, .refl _ _, trivial⟩)
end Go.Proofs.Ytnnpookoencpnaa
