/-
  Contracts of functions of the program, proved over the abstract machine of the Al texts.
-/
import Derived.Test.YtoeekjddeknmbaaGreatTryTab
import Derived.Test.YtoeekjddeknmbaaGreatAl4
import Derived.Test.YtoeekjddeknmbaaGreatBaseX
import Derived.Test.YtoeekjddeknmbaaGreatRkX
import Derived.Test.YtoeekjddeknmbaaGreatBsX1
import Derived.Test.YtoeekjddeknmbaaGreatBsX3
import Derived.Test.YtoeekjddeknmbaaGreatBsX4
import Derived.Test.YtoeekjddeknmbaaGreatBsX7
import Derived.Test.YtoeekjddeknmbaaGreatBsX2
import Derived.Test.YtoeekjddeknmbaaGreatBsX5
import Derived.Test.YtoeekjddeknmbaaGreatBsX6
set_option linter.unusedSimpArgs false
set_option linter.unusedVariables false
namespace Go.Proofs.YtoeekjddeknmbaaGreat
open Go Go.AL
structure BlkIn where
 kd : Int
 vl : Int
 sh : Int
 ix : List Int
 lg : Int
 gn : Int
 pt : Int
 rc : List Int
 da : List Int
def BlkIn.v (x : BlkIn) : AVal := .agg [.int .i64 x.kd, .int .i64 x.vl, .int .i64 x.sh, .ls (.il .i64 x.ix) .any, .int .i64 x.lg, .int .i64 x.gn, .int .i64 x.pt, .ls (.il .i64 x.rc) .any, .ls (.il .i64 x.da) .any]
structure BlkIn.ok (x : BlkIn) : Prop where
 vl : -9223372036854775808 ≤ x.vl ∧ x.vl ≤ 9223372036854775807
 ix : x.ix.length ≤ 9223372036854775807
 rc : x.rc.length ≤ 9223372036854775807
 da : x.da.length ≤ 9223372036854775807
set_option maxHeartbeats 4000000
set_option maxRecDepth 20000
theorem cloneR_spec (l : List Int) (n : Int) (hn : n = (l.length : Nat)) (h1 : 1 ≤ n) (h2 : n ≤ 1024) : Does PP 34 [LI l] [] (Is (.sl 0 1 0 n) [.rw 1 (.il .i64 l)]) := by
 refine doesFr (fun i => Nat.ble 64 i) P_ok Tryz.f34 (by kernel_rfl) (by kernel_rfl) ?_
 intro i2 c2 u1 cv mx mn ad sbt bn bq ba lnI gtI apI sbI stI rpI lnG gtG apG sbG stG rpG fi fb fs fl fg fc sln sgt sap ssb sc b2s s2b nd call calld callv callvd loop rfun fin hk
 have hln : lnI l = n := by rw [hk.lnI_eq]; omega
 have hl0 : lnI [] = 0 := hk.lnI_eq _
 have hap : apI [] l = l := hk.apI_eq _ _
 have had : ad 0 n = n := by rw [hk.ad_eq]; omega
 have hnd : nd (.appn 0 0 0 n 8) := hk.ndI ⟨rfl, rfl, by omega, by simp; omega, by omega⟩
 (conv => cbv)
 rw [hap, hln, hl0, had]
 exact ⟨hk.ndI (by simp only [rNd]; omega), hnd, hk.fin1 rfl⟩
theorem indexR_spec (l : List Int) (g : Nat) (n : Int) (fid : Nat) (d : Int) (gg : Int → Bool) (hn : n = (l.length : Nat)) (hn2 : n ≤ 1024) (hg : ∀ n h, Does PP fid [I d, .int .i64 n] h (Is (.bool (gg n)) h)) :
 Does PP 75 [.sl 0 g 0 n, .clo (.func fid) [I d] []] [.rw g (.il .i64 l)] (Is (I (findI gg l)) [.rw g (.il .i64 l)]) := by
 obtain ⟨r, hr0⟩ : ∃ r, r = findI gg l := ⟨_, rfl⟩
 rw [← hr0]
 obtain ⟨h0, hh0⟩ : ∃ h0 : Heap, h0 = [.rw g (.il .i64 l)] := ⟨_, rfl⟩
 have hg' := fun n => hg n [.rw g (.il .i64 l)]
 refine wlk Tryz.f75 ?_
 unhygienic intros
 have hln : lnI l = n := by rw [hk.lnI_eq]; omega
 have hgl := hk.gtI_eq l
 have hbq : Nat.beq g g = true := Nat.beq_refl g
 conv at hbq => cbv
 (conv => cbv)
 repeat' (first | assumption | ((first | rw [hbq] | rw [hln] | refine stp ?_ | refine stpB (fun _ => ?_) (fun _ => ?_)) <;> (conv => cbv)) | exact stpF | fail)
 refine hk.loopI (loop_rule (α := Int) (fun i => [(1, .clo (.func fid) [.int .i64 d] []), (0, .sl 0 g 0 n), (7, .int .i64 n), (8, .int .i64 i)]) (fun i => [.rw g (.il .i64 l)])
  (fun i => 0 ≤ i ∧ i ≤ n ∧ ∀ j, j < i.toNat → gg (l.getD j 0) = false) (fun i => (n - i).toNat) 0 ⟨by omega, by omega, upto_zero⟩ ?_ ?_)
 ·exact ghT
 intro i ⟨hi, hi2, hi3⟩ Q' hb hx hr
 (conv => cbv)
 refine hk.brLss (fun hlt => ?_) (fun hge => ?_)
 ·obtain ⟨y, hy⟩ : ∃ y, y = gtI l i := ⟨_, rfl⟩
  obtain ⟨b, hb0⟩ : ∃ b, b = gg y := ⟨_, rfl⟩
  have hg'' := hg' y
  rw [← hb0] at hg''
  have hyl := hy
  rw [hgl] at hyl
  (conv => cbv)
  repeat' (first | assumption | ((first | rw [hbq] | rw [hln] | refine hk.idxI hi hlt ?_ | rw [← hy] | refine hk.callA hg'' ?_ | refine hk.calldA (fun h => by have := hg y h; rw [← hb0] at this; exact this) ?_ | refine stp ?_ | refine stpB (fun _ => ?_) (fun _ => ?_)) <;> (conv => cbv)) | exact stpF | fail)
  cases b
  ·(conv => cbv)
   repeat' (first | assumption | ((first | refine stp ?_ | refine stpB (fun _ => ?_) (fun _ => ?_)) <;> (conv => cbv)) | exact stpF | fail)
   refine hb (i + 1) _ ⟨by omega, by omega, upto_step hi hi3 (by rw [← hyl]; exact hb0.symm)⟩ (by omega) ?_
   refine Gh.tm ?_
   repeat' (first | exact Holds.nil _ _ | refine Holds.cons (Wk.refl _ _) ?_ | refine Holds.cons (Wk.of_eq ?_) ?_)
   all_goals first
    | (rw [← hk.add64 i 1 (by omega) (by omega)]; rfl)
    | rfl
    | skip
  ·refine hr _ ?_
   (conv => cbv)
   exact hk.fin1 (congrArg _ (by rw [hr0]; exact find_some hi (by omega) hi3 (by rw [← hyl]; exact hb0.symm)))
 ·refine hx _ _ ?_
  (conv => cbv)
  exact hk.fin1 (congrArg _ (by rw [hr0]; exact find_none (by omega) hi3))
theorem containsR_spec (l : List Int) (g : Nat) (n : Int) (fid : Nat) (d : Int) (gg : Int → Bool) (hn : n = (l.length : Nat)) (hn2 : n ≤ 1024) (hg : ∀ n h, Does PP fid [I d, .int .i64 n] h (Is (.bool (gg n)) h)) :
 Does PP 36 [.sl 0 g 0 n, .clo (.func fid) [I d] []] [.rw g (.il .i64 l)] (Is (.bool (l.any gg)) [.rw g (.il .i64 l)]) := by
 have hix := indexR_spec l g n fid d gg hn hn2 hg
 have hfa := find_any gg l
 obtain ⟨r, hr0⟩ : ∃ r, r = findI gg l := ⟨_, rfl⟩
 obtain ⟨b, hb0⟩ : ∃ b, b = l.any gg := ⟨_, rfl⟩
 rw [← hr0] at hix
 rw [← hr0, ← hb0] at hfa
 rw [← hb0]
 refine wlk Tryz.f36 ?_
 unhygienic intros
 (conv => cbv)
 refine hk.callA hix ?_
 (conv => cbv)
 refine hk.fin1 ?_
 show AVal.bool (c2 .geq r 0) = _
 rw [hk.c2_geq, hfa]
theorem bsamples_raw (vl sh : Int) (ix : List Int) (lg gn pt : Int) (rc da : List Int) (n d : Int) (h1 : 1 ≤ n) (h2 : n ≤ 1024) (h3 : 8 ≤ d) (h4 : d ≤ 26)
 (hl1 : ix.length ≤ 9223372036854775807) (hl2 : rc.length ≤ 9223372036854775807) (hl3 : da.length ≤ 9223372036854775807) (hf : formE 3 vl sh ix lg gn pt rc da n d = 0)
 (hok : da.any (lacksP d) = false) :
 Does PP 14 [.agg [I 3, I vl, I sh, LI ix, I lg, I gn, I pt, LI rc, LI da], I n, I d] [] (Is (.tup [.sl 1 1 0 n, I 0]) [.box [I 3, I vl, I sh, LI ix, I lg, I gn, I pt, LI rc, LI da], .rw 1 (.il .i64 da)]) := by
 obtain ⟨hkd, hdn⟩ := form_plain hf (by decide)
 have hdn := hdn rfl
 have hd := fun h => bdepth_spec d h
 rw [decide_eq_true h3, decide_eq_true h4] at hd
 have hc := fun h => bcount_spec n h
 rw [decide_eq_true h1, decide_eq_true h2] at hc
 have hfm := fun h => form_spec 3 vl sh ix lg gn pt rc da n d h hl1 hl2 hl3
 rw [hf] at hfm
 have hcl : ∀ o, Does PP 34 [LI da] [o] (Is (.sl 1 1 0 n) [o, .rw 1 (.il .i64 da)]) := fun o =>
  (cloneR_spec da n hdn.symm h1 h2).renI [] rfl (by decide) rfl trivial rfl rfl rfl rfl rfl rfl
 have hco : ∀ o, Does PP 36 [.sl 1 1 0 n, .clo (.func 37) [I d] []] [o, .rw 1 (.il .i64 da)] (Is (.bool false) [o, .rw 1 (.il .i64 da)]) := fun o => by
  rw [← hok]
  exact (containsR_spec da 1 n 37 d (lacksP d) hdn.symm h2 (fun n h => lacks_spec d n h h3 h4)).renI [1] rfl (by decide) rfl ⟨rfl, trivial⟩ rfl rfl rfl rfl rfl rfl
 clear hf hok
 refine wlk Tryz.f14 ?_
 unhygienic intros
 (conv => cbv)
 repeat' (first | assumption | ((first | refine hk.callA (hcl _) ?_ | refine hk.callA (hco _) ?_ | refine stp ?_ | refine stpB (fun _ => ?_) (fun _ => ?_)) <;> (conv => cbv)) | exact stpF | fail)
theorem bsamples_const (kd vl sh : Int) (ix : List Int) (lg gn pt : Int) (rc da : List Int) (n d : Int) (h1 : 1 ≤ n) (h2 : n ≤ 64) (h3 : 8 ≤ d) (h4 : d ≤ 26)
 (hl1 : ix.length ≤ 9223372036854775807) (hl2 : rc.length ≤ 9223372036854775807) (hl3 : da.length ≤ 9223372036854775807) (hf : formE kd vl sh ix lg gn pt rc da n d = 0) (hk2 : kd ≠ 2) (hk3 : kd ≠ 3)
 (hok : (List.replicate n.toNat vl).any (lacksP d) = false) :
 Does PP 14 [.agg [I kd, I vl, I sh, LI ix, I lg, I gn, I pt, LI rc, LI da], I n, I d] [] (Is (.tup [.sl 2 0 0 n, I 0]) [.box [I kd, I vl, I sh, LI ix, I lg, I gn, I pt, LI rc, LI da], .tok 0, .rw 0 (.il .i64 (List.replicate n.toNat vl))]) := by
 have hd := fun h => bdepth_spec d h
 rw [decide_eq_true h3, decide_eq_true h4] at hd
 have hc := fun h => bcount_spec n h
 rw [decide_eq_true h1, decide_eq_true (show n ≤ 1024 by omega)] at hc
 have hfm := fun h => form_spec kd vl sh ix lg gn pt rc da n d h hl1 hl2 hl3
 rw [hf] at hfm
 obtain ⟨R, hR⟩ : ∃ R, R = List.replicate n.toNat vl := ⟨_, rfl⟩
 have hRl : n = (R.length : Nat) := by rw [hR, List.length_replicate]; omega
 have hrp0 := repeatR_spec vl n h1 h2
 rw [← hR] at hrp0 hok
 have hrp : ∀ o o2, Does PP 35 [LI [vl], I n] [o, o2] (Is (.sl 2 0 0 n) [o, o2, .rw 0 (.il .i64 R)]) := fun o o2 =>
  hrp0.renI [] rfl (by decide) rfl trivial rfl rfl rfl rfl rfl rfl
 have hco : ∀ o o2, Does PP 36 [.sl 2 0 0 n, .clo (.func 37) [I d] []] [o, o2, .rw 0 (.il .i64 R)] (Is (.bool false) [o, o2, .rw 0 (.il .i64 R)]) := fun o o2 => by
  rw [← hok]
  exact (containsR_spec R 0 n 37 d (lacksP d) hRl (by omega) (fun n h => lacks_spec d n h h3 h4)).renI [2] rfl (by decide) rfl ⟨rfl, trivial⟩ rfl rfl rfl rfl rfl rfl
 try rw [← hR]
 clear hf hok hR hrp0
 refine wlk Tryz.f14 ?_
 unhygienic intros
 (conv => cbv)
 repeat' (first
  | assumption
  | (refine hk.callA (Does.wk (hrp _ _) ?_) ?_
     ·(repeat' (first | exact WkL.nil | refine WkL.cons (Wk.refl _ _) ?_ | refine WkL.cons (Wk.any _ _ _) ?_ | refine WkL.cons (Wk.nilL _ _) ?_))
     (conv => cbv))
  | ((first | refine hk.callA (hco _ _) ?_ | refine stp ?_ | refine stpB (fun _ => ?_) (fun _ => ?_)) <;> (conv => cbv))
  | exact stpF
  | fail)
theorem bsamples_two (vl sh : Int) (ix : List Int) (lg gn pt : Int) (rc da : List Int) (n d : Int) (h1 : 1 ≤ n) (h2 : n ≤ 1024) (h3 : 8 ≤ d) (h4 : d ≤ 26)
 (hl1 : ix.length ≤ 9223372036854775807) (hl2 : rc.length ≤ 9223372036854775807) (hl3 : da.length ≤ 9223372036854775807) (hf : formE 2 vl sh ix lg gn pt rc da n d = 0)
 (hE : onE lg gn da = 0) (hE2 : smE ix (pw d - 1) (onL lg gn da) = 0) (hok : (nmL sh ix lg gn da d).any (lacksP d) = false) :
 Does PP 14 [.agg [I 2, I vl, I sh, LI ix, I lg, I gn, I pt, LI rc, LI da], I n, I d] [] (Is (.tup [.sl 2 (nmL sh ix lg gn da d).length 0 ((nmL sh ix lg gn da d).length : Nat), I 0]) [.box [I 2, I vl, I sh, LI ix, I lg, I gn, I pt, LI rc, LI da], .box [I 2, I vl, I sh, LI ix, I lg, I gn, I pt, LI rc, LI da], .rw (nmL sh ix lg gn da d).length (.il .i64 (nmL sh ix lg gn da d))]) := by
 obtain ⟨f1, f2, f3, f4, f5, f6, f7⟩ := form_two hf h4 h2
 have hd := fun h => bdepth_spec d h
 rw [decide_eq_true h3, decide_eq_true h4] at hd
 have hc := fun h => bcount_spec n h
 rw [decide_eq_true h1, decide_eq_true h2] at hc
 have hfm := fun h => form_spec 2 vl sh ix lg gn pt rc da n d h hl1 hl2 hl3
 rw [hf] at hfm
 have hnm0 := normalR_spec 2 vl sh ix lg gn pt rc da d h3 h4 f1 f2 f3 f4 f5 f6 hE hE2
 have hln : (nmL sh ix lg gn da d).length ≤ 1024 := by
  obtain ⟨ho1, ho2⟩ := onL_small lg gn da
  have := smL_len ix (pw d - 1) (onL lg gn da)
  rw [nmL]; split <;> first | (simp; done) | (split <;> simp <;> omega) | (simp; omega)
 obtain ⟨R, hR⟩ : ∃ R, R = nmL sh ix lg gn da d := ⟨_, rfl⟩
 rw [← hR] at hnm0 hok hln
 obtain ⟨m, hm⟩ : ∃ m : Int, m = (R.length : Nat) := ⟨_, rfl⟩
 obtain ⟨G, hG⟩ : ∃ G : Nat, G = R.length := ⟨_, rfl⟩
 have hm2 : m ≤ 1024 := by omega
 rw [← hm, ← hG] at hnm0
 have hnm : ∀ o, Does PP 33 [.agg [I 2, I vl, I sh, LI ix, I lg, I gn, I pt, LI rc, LI da], I d] [o] (Is (.tup [.sl 2 G 0 m, I 0]) [o, .box [I 2, I vl, I sh, LI ix, I lg, I gn, I pt, LI rc, LI da], .rw G (.il .i64 R)]) := fun o =>
  hnm0.renI [] rfl (by decide) rfl trivial rfl rfl rfl rfl rfl rfl
 have hco : ∀ o o2, Does PP 36 [.sl 2 G 0 m, .clo (.func 37) [I d] []] [o, o2, .rw G (.il .i64 R)] (Is (.bool false) [o, o2, .rw G (.il .i64 R)]) := fun o o2 => by
  rw [← hok]
  exact (containsR_spec R G m 37 d (lacksP d) hm hm2 (fun n h => lacks_spec d n h h3 h4)).renI [2] rfl (by decide) rfl ⟨rfl, trivial⟩ rfl rfl rfl rfl rfl rfl
 try rw [← hR, ← hm, ← hG]
 clear hf hok hR hnm0 hm hG hE hE2 f5
 refine wlk Tryz.f14 ?_
 unhygienic intros
 (conv => cbv)
 repeat' (first | assumption | ((first | refine hk.callA (hnm _) ?_ | refine hk.callA (hco _ _) ?_ | refine stp ?_ | refine stpB (fun _ => ?_) (fun _ => ?_)) <;> (conv => cbv)) | exact stpF | fail)
end Go.Proofs.YtoeekjddeknmbaaGreat
