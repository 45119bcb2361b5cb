/-
  Contracts of functions of the program, proved over the abstract machine of the Al texts.
-/
import Derived.Test.YtoeekjddeknmbaaGreatTryTab
import Derived.Test.YtoeekjddeknmbaaGreatAl4
import Derived.Test.YtoeekjddeknmbaaGreatBaseX
import Derived.Test.YtoeekjddeknmbaaGreatBsX8
import Derived.Test.YtoeekjddeknmbaaGreatPlX
import Derived.Test.YtoeekjddeknmbaaGreatTkX3
import Derived.Test.YtoeekjddeknmbaaGreatNoY
import Derived.Test.YtoeekjddeknmbaaGreatGuX3
import Derived.Test.YtoeekjddeknmbaaGreatThX
import Derived.Test.YtoeekjddeknmbaaGreatTuX2
import Derived.Test.YtoeekjddeknmbaaGreatTuX3
import Derived.Test.YtoeekjddeknmbaaGreatPpX
import Derived.Test.YtoeekjddeknmbaaGreatSlX
import Derived.Test.YtoeekjddeknmbaaGreatTkX6
import Derived.Test.YtoeekjddeknmbaaGreatTkX7
import Derived.Test.YtoeekjddeknmbaaGreatNoX
set_option maxHeartbeats 4000000
set_option maxRecDepth 20000
set_option linter.unusedSimpArgs false
set_option linter.unusedVariables false
open Go Go.AL
namespace Go.Proofs.YtoeekjddeknmbaaGreat
def bestE (l : List Int) (d o : Int) : Int := if 0 ≤ o ∧ o ≤ 16 then chkE l d else 1
noncomputable def bestR (l : List Int) (d o : Int) (lags sft : Bool) : Trl := bstR (trl l d (shT l d sft) lags (o + 1).toNat)
noncomputable def bestX (l : List Int) (d o : Int) (lags sft : Bool) : BlkIn := if bestE l d o = 0 then (bestR l d o lags sft).1 else zBlk
noncomputable def bestC (l : List Int) (d o : Int) (lags sft : Bool) : Int := if bestE l d o = 0 then (bestR l d o lags sft).2.1 else 0
theorem chkE_rg (l : List Int) (d : Int) : 0 ≤ chkE l d ∧ chkE l d ≤ 100 := by
 unfold chkE
 repeat' split
 all_goals decide
theorem tbest_ok (l : List Int) (d o dp : Int) (lags wv sft : Bool) (h : Heap) (hl : l.length ≤ 64) (hc : chkE l d = 0) (o0 : 0 ≤ o) (o1 : o ≤ 16) :
 Does PP 9 [LI l, I d, .agg [I o, I dp, .bool lags, .bool wv, .bool sft]] h (Is (.tup [(bestR l d o lags sft).1.v, I 0]) h) := by
 obtain ⟨X, hX⟩ : ∃ X : List Trl → List AVal, ∀ l, X l = l.map ttr := ⟨_, fun _ => rfl⟩
 have hor := fun h => torder_spec o h
 rw [decide_eq_true o0, decide_eq_true o1, Bool.true_and] at hor
 have hpl := fun h => plain_ok l d h hc
 obtain ⟨pa, pb', _, p1, p2, p3⟩ := plX_tr hc
 have htr := try_ok X hX (plX l) (l.length : Nat) d [] (by simp) (by omega) pa p1 p2 p3
 have hno := normals_spec X hX l d o dp lags wv sft hc hl o0 o1
 have hne := trl_ne l d (shT l d sft) lags (o + 1).toNat
 obtain ⟨R, hR⟩ : ∃ R, R = trl l d (shT l d sft) lags (o + 1).toNat := ⟨_, rfl⟩
 have hroot : (X (thH R)).getD 0 .junk = ttr (bstR R) := by
  rw [hX, maptt_get _ _ (by rw [thH_len, hR]; exact List.length_pos_iff.2 hne), thH_root _ (by rw [hR]; exact hne)]
 have hRl : (X (thH R)).length = R.length := by rw [hX, List.length_map, thH_len]
 have hRp : 0 < R.length := by rw [hR]; exact List.length_pos_iff.2 hne
 unfold bestR
 rw [← hR] at hno ⊢
 obtain ⟨n, hn⟩ : ∃ n : Int, n = (l.length : Nat) := ⟨_, rfl⟩
 rw [← hn] at htr hno
 obtain ⟨R0, hR0⟩ : ∃ R0, R0 = trl l d (shT l d sft) lags 0 := ⟨_, rfl⟩
 have htr0 : (((plX l, nbI (plX l) d) :: ([] : List Trd))) = R0 := by rw [hR0]; rfl
 rw [htr0] at htr
 rw [← hR0] at hno
 have hX0 : X (thH []) = [] := by rw [hX]; rfl
 obtain ⟨px, hpx⟩ : ∃ px, px = plX l := ⟨_, rfl⟩
 have hplv : ∀ h, Does PP 18 [LI l, I d] h (Is (.tup [px.v, I 0]) h) := by rw [hpx]; exact hpl
 rw [← hpx] at htr
 unfold HTt HQt at htr hno
 rw [hX0] at htr
 obtain ⟨g0, hg0⟩ : ∃ g, g = R0.length := ⟨_, rfl⟩
 obtain ⟨Y0, hY0⟩ : ∃ g, g = X (thH R0) := ⟨_, rfl⟩
 rw [← hg0, ← hY0] at htr hno
 obtain ⟨k0, hk0⟩ : ∃ k : Int, k = (g0 : Nat) := ⟨_, rfl⟩
 rw [← hk0] at htr hno
 obtain ⟨g9, hg9⟩ : ∃ g, g = R.length := ⟨_, rfl⟩
 obtain ⟨Y9, hY9⟩ : ∃ g, g = X (thH R) := ⟨_, rfl⟩
 rw [← hg9] at hRl hRp
 rw [← hY9] at hroot hRl
 rw [← hg9, ← hY9] at hno
 obtain ⟨k9, hk9⟩ : ∃ k : Int, k = (g9 : Nat) := ⟨_, rfl⟩
 rw [← hk9] at hno
 obtain ⟨bx, hbx⟩ : ∃ b, b = bstR R := ⟨_, rfl⟩
 rw [← hbx] at hroot ⊢
 obtain ⟨⟨kd, vl, sh, ix, lg, gn, pt, rc, da⟩, bt, tn⟩ := bx
 have htr1 : ∀ (C Z P : List AVal), Does PP 19 [.ptr 2 0, px.v, I 0] [.box [I o, I dp, .bool lags, .bool wv, .bool sft], .box [I 0, I 0, I 0, .ls .nl .nil, I 0, I 0, I 0, .ls .nl .nil, .ls .nl .nil], .box [.ls .nl .nil, I n, I d], .box [I px.kd, I px.vl, I px.sh, LI px.ix, I px.lg, I px.gn, I px.pt, LI px.rc, LI px.da]]
  (Is (.tup []) [.box [I o, I dp, .bool lags, .bool wv, .bool sft], .box [I 0, I 0, I 0, .ls .nl .nil, I 0, I 0, I 0, .ls .nl .nil, .ls .nl .nil], .box [.sl 4 g0 0 k0, I n, I d], .box [I px.kd, I px.vl, I px.sh, LI px.ix, I px.lg, I px.gn, I px.pt, LI px.rc, LI px.da], .rw g0 (.gl ttS Y0)]) := fun C Z P =>
  Does.ghost (GE.thawRow 2 0 [.ls .nl .nil, I n, I d] (.gl ttS []) rfl rfl rfl) (htr.renI [2, 4] rfl (by decide) rfl ⟨rfl, rfl, trivial⟩ rfl rfl rfl rfl rfl rfl) (by simp)
 have htr1 := htr1 [] [] []
 have hno1 : Does PP 20 [.ptr 2 0, LI l, .agg [I o, I dp, .bool lags, .bool wv, .bool sft]] [.box [I o, I dp, .bool lags, .bool wv, .bool sft], .box [I 0, I 0, I 0, .ls .nl .nil, I 0, I 0, I 0, .ls .nl .nil, .ls .nl .nil], .box [.sl 4 g0 0 k0, I n, I d], .box [I px.kd, I px.vl, I px.sh, LI px.ix, I px.lg, I px.gn, I px.pt, LI px.rc, LI px.da], .rw g0 (.gl ttS Y0)]
  (Is (.tup []) [.box [I o, I dp, .bool lags, .bool wv, .bool sft], .box [I 0, I 0, I 0, .ls .nl .nil, I 0, I 0, I 0, .ls .nl .nil, .ls .nl .nil], .box [.sl 4 g9 0 k9, I n, I d], .box [I px.kd, I px.vl, I px.sh, LI px.ix, I px.lg, I px.gn, I px.pt, LI px.rc, LI px.da], .rw g9 (.gl ttS Y9)]) :=
  hno.renI [2, 4] rfl (by decide) rfl ⟨rfl, rfl, trivial⟩ rfl rfl rfl rfl rfl rfl
 clear htr hno hpl hpx hX hX0 htr0 hR hR0 hg0 hY0 hg9 hY9 hbx hne pa pb' p1 p2 p3
 refine pure0 ?_ rfl rfl h
 refine doesFs (fun i => Nat.beq i 19 || Nat.beq i 20) P_ok Tryz.f9 (by kernel_rfl) (by kernel_rfl) ?_
 intro i2 c2 u1 cv mx mn ad sbt bn bq ba lnI gtI apI sbI stI rpI lnG gtG apG sbG stG rpG fi fb fs fl fg fc sln sgt sap ssb sc b2s s2b nd call calld callv callvd loop rfun fin hk
 have hln : lnI l = n := by rw [hk.lnI_eq]; omega
 have hbq : Nat.beq g9 g9 = true := Nat.beq_refl g9
 conv at hbq => cbv
 have hs0 : sbt k9 0 = k9 := by rw [hk.sb_eq]; omega
 have hk90 : 0 < k9 := by omega
 have hlG : lnG Y9 = k9 := by rw [hk.lnG_eq]; omega
 have hgt0 : gtG Y9 0 = .agg [I kd, I vl, I sh, LI ix, I lg, I gn, I pt, LI rc, LI da, I bt, I tn] := by rw [hk.gtG_eq]; exact hroot
 have f0 : fi (fc (gtG Y9 0) 0) = kd := by rw [hgt0, hk.fc_eq, hk.fi_eq]; rfl
 have f1 : fi (fc (gtG Y9 0) 1) = vl := by rw [hgt0, hk.fc_eq, hk.fi_eq]; rfl
 have f2 : fi (fc (gtG Y9 0) 2) = sh := by rw [hgt0, hk.fc_eq, hk.fi_eq]; rfl
 have f3 : fl (fc (gtG Y9 0) 3) = ix := by rw [hgt0, hk.fc_eq, hk.fl_eq]; rfl
 have f4 : fi (fc (gtG Y9 0) 4) = lg := by rw [hgt0, hk.fc_eq, hk.fi_eq]; rfl
 have f5 : fi (fc (gtG Y9 0) 5) = gn := by rw [hgt0, hk.fc_eq, hk.fi_eq]; rfl
 have f6 : fi (fc (gtG Y9 0) 6) = pt := by rw [hgt0, hk.fc_eq, hk.fi_eq]; rfl
 have f7 : fl (fc (gtG Y9 0) 7) = rc := by rw [hgt0, hk.fc_eq, hk.fl_eq]; rfl
 have f8 : fl (fc (gtG Y9 0) 8) = da := by rw [hgt0, hk.fc_eq, hk.fl_eq]; rfl
 (conv => cbv)
 repeat' (first | assumption | ((first | rw [hln] | refine hk.callS htr1 ?_ | refine hk.callA htr1 ?_ | refine hk.callS hno1 ?_ | refine hk.callA hno1 ?_ | rw [hbq] | rw [hs0] | rw [hlG] | refine hk.idxI (by decide) hk90 ?_ | rw [f0] | rw [f1] | rw [f2] | rw [f3] | rw [f4] | rw [f5] | rw [f6] | rw [f7] | rw [f8] | refine stp ?_ | refine stpB (fun _ => ?_) (fun _ => ?_)) <;> (conv => cbv)) | exact stpF | fail)
 all_goals exact hk.fin0 rfl rfl (Wk.refl _ _)
theorem tbest_bad (l : List Int) (d o dp : Int) (lags wv sft : Bool) (h : Heap) (hl : l.length ≤ 64) (he : bestE l d o ≠ 0) :
 Does PP 9 [LI l, I d, .agg [I o, I dp, .bool lags, .bool wv, .bool sft]] h (Is (.tup [zBlk.v, I (bestE l d o)]) h) := by
 have hor := fun h => torder_spec o h
 refine pure0 ?_ rfl rfl h
 by_cases ho : 0 ≤ o ∧ o ≤ 16
 ·have e : bestE l d o = chkE l d := if_pos ho
  rw [e] at he ⊢
  rw [decide_eq_true ho.1, decide_eq_true ho.2, Bool.true_and] at hor
  have hpl := fun h => plain_bad l d h (by omega) he
  obtain ⟨E, hE⟩ : ∃ E, E = chkE l d := ⟨_, rfl⟩
  simp only [← hE] at hpl he ⊢
  clear hE e
  refine doesFs (fun i => Nat.beq i 19 || Nat.beq i 20) P_ok Tryz.f9 (by kernel_rfl) (by kernel_rfl) ?_
  intro i2 c2 u1 cv mx mn ad sbt bn bq ba lnI gtI apI sbI stI rpI lnG gtG apG sbG stG rpG fi fb fs fl fg fc sln sgt sap ssb sc b2s s2b nd call calld callv callvd loop rfun fin hk
  (conv => cbv)
  repeat' (first | assumption | ((first | refine stp ?_ | refine stpB (fun _ => ?_) (fun _ => ?_)) <;> (conv => cbv)) | exact stpF | fail)
  all_goals exact hk.fin0 rfl rfl zblk_wk
 ·have e : bestE l d o = 1 := if_neg ho
  rw [e]
  rw [show (decide (0 ≤ o) && decide (o ≤ 16)) = false by
   rw [Bool.eq_false_iff]; intro h; rw [Bool.and_eq_true, decide_eq_true_eq, decide_eq_true_eq] at h; exact ho h] at hor
  refine doesFs (fun i => Nat.beq i 19 || Nat.beq i 20) P_ok Tryz.f9 (by kernel_rfl) (by kernel_rfl) ?_
  intro i2 c2 u1 cv mx mn ad sbt bn bq ba lnI gtI apI sbI stI rpI lnG gtG apG sbG stG rpG fi fb fs fl fg fc sln sgt sap ssb sc b2s s2b nd call calld callv callvd loop rfun fin hk
  (conv => cbv)
  repeat' (first | assumption | ((first | refine stp ?_ | refine stpB (fun _ => ?_) (fun _ => ?_)) <;> (conv => cbv)) | exact stpF | fail)
  all_goals exact hk.fin0 rfl rfl zblk_wk
theorem tbest_spec (l : List Int) (d o dp : Int) (lags wv sft : Bool) (h : Heap) (hl : l.length ≤ 64) :
 Does PP 9 [LI l, I d, .agg [I o, I dp, .bool lags, .bool wv, .bool sft]] h (Is (.tup [(bestX l d o lags sft).v, I (bestE l d o)]) h) := by
 unfold bestX
 by_cases he : bestE l d o = 0
 ·rw [if_pos he, he]
  have ho : 0 ≤ o ∧ o ≤ 16 := by
   unfold bestE at he
   split at he
   ·assumption
   ·cases he
  have hc : chkE l d = 0 := by unfold bestE at he; rwa [if_pos ho] at he
  exact tbest_ok l d o dp lags wv sft h hl hc ho.1 ho.2
 ·rw [if_neg he]
  exact tbest_bad l d o dp lags wv sft h hl he
theorem bestR_tr {l : List Int} {d o : Int} {lags sft : Bool} (he : bestE l d o = 0) : TrOK l d ((bestR l d o lags sft).1, (bestR l d o lags sft).2.1) := by
 have ho : 0 ≤ o ∧ o ≤ 16 := by
  unfold bestE at he
  split at he
  ·assumption
  ·cases he
 have hc : chkE l d = 0 := by unfold bestE at he; rwa [if_pos ho] at he
 unfold bestR
 exact trl_tr hc _ (by omega) _ (bstR_mem (trl_ne _ _ _ _ _))
theorem tcost_spec (l : List Int) (d o dp : Int) (lags wv sft : Bool) (h : Heap) (hl : l.length ≤ 64) :
 Does PP 12 [LI l, I d, .agg [I o, I dp, .bool lags, .bool wv, .bool sft]] h (Is (I (bestC l d o lags sft)) h) := by
 have hb := fun h => tbest_spec l d o dp lags wv sft h hl
 have hbits : bestE l d o = 0 → ∀ h, Does PP 16 [(bestX l d o lags sft).v, I (l.length : Nat), I d] h (Is (I (bestC l d o lags sft)) h) := fun he h => by
  obtain ⟨a, b, c, c1, c2, c3⟩ := bestR_tr (lags := lags) (sft := sft) he
  have := bbits_any (bestR l d o lags sft).1 (l.length : Nat) d h (by omega) a c1 c2 c3
  unfold bestX bestC
  simp only at c
  rw [if_pos he, if_pos he, c]
  exact this
 have h0 : bestE l d o ≠ 0 → bestC l d o lags sft = 0 := fun he => if_neg he
 obtain ⟨n, hn⟩ : ∃ n : Int, n = (l.length : Nat) := ⟨_, rfl⟩
 rw [← hn] at hbits
 obtain ⟨E, hE⟩ : ∃ E, E = bestE l d o := ⟨_, rfl⟩
 obtain ⟨x, hx⟩ : ∃ x, x = bestX l d o lags sft := ⟨_, rfl⟩
 obtain ⟨c, hc⟩ : ∃ c, c = bestC l d o lags sft := ⟨_, rfl⟩
 simp only [← hE, ← hx, ← hc] at hb hbits h0 ⊢
 clear hE hx hc
 refine pure0 ?_ rfl rfl h
 by_cases he : E = 0
 ·replace hbits := hbits he
  subst he
  refine wlk Tryz.f12 ?_
  unhygienic intros
  have hln : lnI l = n := by rw [hk.lnI_eq]; omega
  (conv => cbv)
  repeat' (first | assumption | ((first | rw [hln] | refine stp ?_ | refine stpB (fun _ => ?_) (fun _ => ?_)) <;> (conv => cbv)) | exact stpF | fail)
  all_goals exact hk.fin0 rfl rfl (Wk.refl _ _)
 ·have h0 := h0 he
  subst h0
  refine wlk Tryz.f12 ?_
  unhygienic intros
  (conv => cbv)
  repeat' (first | assumption | ((first | refine stp ?_ | refine stpB (fun _ => ?_) (fun _ => ?_)) <;> (conv => cbv)) | exact stpF | fail)
  all_goals exact hk.fin0 rfl rfl (Wk.refl _ _)
theorem nb_nrm {l : List Int} {d : Int} {ix : List Int} {lg gn sh : Int} (h : nrmE l d ix lg gn sh = 0) : 15 ≤ nbI (nrmX l d ix lg gn sh) d := by
 unfold nrmX nbI
 rw [if_pos h]
 show (15 : Int) ≤ (((nbits sh ix lg gn (nrmP l ix lg gn sh) (nrmK l ix lg gn sh) (data0 l ix lg gn sh)).length : Nat) : Int)
 have hlb : 1 ≤ (lagbits lg gn).length := by unfold lagbits; split <;> simp [bitsOf_len]
 rw [nbits, nhead]
 simp only [List.length_append, bitsOf_len]
 omega
theorem trl_cases (l : List Int) (d sh : Int) (lags : Bool) : ∀ m, ∀ x ∈ trl l d sh lags m, x = (plX l, nbI (plX l) d) ∨ 15 ≤ x.2
 | 0, x, h => by rw [trl, List.mem_singleton] at h; exact .inl h
 | m + 1, x, h => by
   have ih := trl_cases l d sh lags m
   have key : ∀ (ix : List Int) (lg gn : Int) (T : List Trd), (∀ x ∈ T, x = (plX l, nbI (plX l) d) ∨ 15 ≤ x.2) → ∀ x ∈ tryN l d ix lg gn sh T, x = (plX l, nbI (plX l) d) ∨ 15 ≤ x.2 := fun ix lg gn T hT x hx => by
    unfold tryN at hx
    split at hx
    ·rename_i he
     rcases List.mem_cons.1 hx with rfl | hx
     ·exact .inr (nb_nrm he)
     ·exact hT x hx
    ·exact hT x hx
   rw [trl] at h
   split at h
   ·exact key _ _ _ _ (key _ _ _ _ ih) x h
   ·exact key _ _ _ _ ih x h
theorem trl_pl (l : List Int) (d sh : Int) (lags : Bool) (m : Nat) : (plX l, nbI (plX l) d) ∈ trl l d sh lags m :=
 trl_mono l d sh lags 0 m (Nat.zero_le _) _ (by rw [trl]; exact List.mem_singleton.2 rfl)
theorem bestR_le (l : List Int) (d o : Int) (lags sft : Bool) : (bestR l d o lags sft).2.1 ≤ nbI (plX l) d :=
 bstR_le (trl_ne _ _ _ _ _) _ (trl_pl l d (shT l d sft) lags _)
theorem bestR_plain {l : List Int} {d o : Int} {lags sft : Bool} (h : nbI (plX l) d < 15) : (bestR l d o lags sft).1 = plX l := by
 have h1 := bestR_le l d o lags sft
 have h2 := bstR_mem (trl_ne l d (shT l d sft) lags (o + 1).toNat)
 rcases trl_cases l d (shT l d sft) lags _ _ h2 with e | e
 ·exact (Prod.ext_iff.1 e).1
 ·unfold bestR at h1; simp only at e; omega
theorem nb_plain (l : List Int) (d : Int) : nbI (plX l) d = 2 + (if plK l = 1 then (d.toNat : Int) else if plK l = 3 then (d.toNat : Int) * ((plD l).length : Nat) else 0) := by
 have hk : plK l ≠ 2 := by
  unfold plK
  split
  ·decide
  ·split <;> decide
 have e : blkBits (plX l) d = pbits (plK l) (plV l) (plD l) d := if_neg hk
 unfold nbI
 rw [e, pbits_len]
 split
 ·omega
 ·split
  ·rw [Int.natCast_add, Int.natCast_mul]; rfl
  ·rfl
structure ChIn where
 o : Int
 dp : Int
 lags : Bool
 wv : Bool
 sft : Bool
def ChIn.v (c : ChIn) : AVal := .agg [.int .i64 c.o, .int .i64 c.dp, .bool c.lags, .bool c.wv, .bool c.sft]
theorem ch_typed {v : AVal} (h : tyV T 4 24 v) : ∃ c : ChIn, v = c.v ∧ -9223372036854775808 ≤ c.o ∧ c.o ≤ 9223372036854775807 := by
 obtain ⟨c, hc, ht⟩ := h
 subst hc
 obtain ⟨_, _, rfl, ⟨o, rfl, ho⟩, _, _, rfl, ⟨dp, rfl, hdp⟩, _, _, rfl, ⟨lags, rfl⟩, _, _, rfl, ⟨wv, rfl⟩, _, _, rfl, ⟨sft, rfl⟩, rfl⟩ := ht
 exact ⟨⟨o, dp, lags, wv, sft⟩, rfl, by simpa [Lit.wf, IntKind.min, IntKind.max, IntKind.signed, IntKind.bits] using ho⟩
theorem aw_best : bestE [8, 8, 8, 8] 8 2 = 0 ∧ (bestR [8, 8, 8, 8] 8 2 false false).1 = plX [8, 8, 8, 8] := by
 refine ⟨by decide, bestR_plain ?_⟩
 rw [nb_plain]
 decide
theorem awake13 (h : Heap) : Does PP 7 [] h (Is (.bool true) h) := by
 have hb := fun h => tbest_spec [8, 8, 8, 8] 8 2 0 false false false h (by decide)
 unfold bestX at hb
 rw [if_pos aw_best.1, aw_best.1, aw_best.2] at hb
 have hb2 : ∀ h, Does PP 9 [.ls (.il .i64 [8, 8, 8, 8]) (.tok 0 0), I 8, .agg [I 2, I 0, .bool false, .bool false, .bool false]] h (Is (.tup [.agg [I 1, I 8, I 0, LI [], I 0, I 0, I 0, LI [], LI []], I 0]) h) := fun h => (hb h).wk (by repeat' (first | exact WkL.nil | refine WkL.cons (Wk.refl _ _) ?_ | refine WkL.cons (Wk.any _ _ _) ?_ | refine WkL.cons (Wk.nilL _ _) ?_))
 clear hb
 refine pure0 ?_ rfl rfl h
 refine wlk Tryz.f7 ?_
 unhygienic intros
 (conv => cbv)
 repeat' (first | assumption | ((first | refine stp ?_ | refine stpB (fun _ => ?_) (fun _ => ?_)) <;> (conv => cbv)) | exact stpF | fail)
 all_goals exact hk.fin0 rfl rfl (Wk.of_eq (by rw [hk.c2_eql]; rfl))
def few13 (n o : Int) (lags : Bool) : Bool := decide (n ≤ 32) && ((!lags || (decide (n ≤ 16) && decide (o ≤ 4))) && (decide (n ≤ 16) || decide (o ≤ 8)))
theorem few13_spec (l : List Int) (o dp : Int) (lags wv sft : Bool) (h : Heap) (hl : l.length ≤ 9223372036854775807) : Does PP 8 [LI l, .agg [I o, I dp, .bool lags, .bool wv, .bool sft]] h (Is (.bool (few13 (l.length : Nat) o lags)) h) := by
 obtain ⟨n, hn⟩ : ∃ n : Int, n = (l.length : Nat) := ⟨_, rfl⟩
 rw [← hn]
 obtain ⟨r, hr⟩ : ∃ r, r = few13 n o lags := ⟨_, rfl⟩
 rw [← hr]
 refine pure0 ?_ rfl rfl h
 unfold few13 at hr
 by_cases h1 : n ≤ 32 <;> by_cases h2 : n ≤ 16 <;> by_cases h3 : o ≤ 4 <;> by_cases h4 : o ≤ 8 <;> cases lags <;> simp only [h1, h2, h3, h4, decide_true, decide_false, Bool.not_true, Bool.not_false, Bool.true_or, Bool.false_or, Bool.true_and, Bool.false_and, Bool.and_true, Bool.and_false, Bool.or_true, Bool.or_false] at hr
 all_goals subst hr
 all_goals refine wlk Tryz.f8 ?_
 all_goals intro i2 c2 u1 cv mx mn ad sbt bn bq ba lnI gtI apI sbI stI rpI lnG gtG apG sbG stG rpG fi fb fs fl fg fc sln sgt sap ssb sc b2s s2b nd call calld callv callvd loop rfun fin hk
 all_goals have hln : lnI l = n := by rw [hk.lnI_eq]; omega
 all_goals (conv => cbv)
 all_goals repeat' (first | assumption | ((first | rw [hln] | refine stp ?_ | refine stpB (fun _ => ?_) (fun _ => ?_)) <;> (conv => cbv)) | exact stpF | fail)
 all_goals first
  | exact hk.fin0 rfl rfl (Wk.refl _ _)
  | exact hk.fin0 rfl rfl (Wk.of_eq (by rw [hk.c2_leq, decide_eq_true (by assumption)]))
  | exact hk.fin0 rfl rfl (Wk.of_eq (by rw [hk.c2_leq, decide_eq_false (by assumption)]))
  | (exfalso; omega)
end Go.Proofs.YtoeekjddeknmbaaGreat
