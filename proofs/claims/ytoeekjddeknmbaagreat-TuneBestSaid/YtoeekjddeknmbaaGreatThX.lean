/-
  Contracts of functions of the program, proved over the abstract machine of the Al texts.
-/
import Derived.Test.YtoeekjddeknmbaaGreatTryTab
import Derived.Test.YtoeekjddeknmbaaGreatAl4
import Derived.Test.YtoeekjddeknmbaaGreatBaseX
import Derived.Test.YtoeekjddeknmbaaGreatBsX8
import Derived.Test.YtoeekjddeknmbaaGreatHrX
import Derived.Test.YtoeekjddeknmbaaGreatTkX3
set_option maxHeartbeats 4000000
set_option maxRecDepth 20000
set_option linter.unusedSimpArgs false
set_option linter.unusedVariables false
open Go Go.AL
namespace Go.Proofs.YtoeekjddeknmbaaGreat
abbrev Trl := BlkIn × Int × Int
abbrev ttr (x : Trl) : AVal := .agg [I x.1.kd, I x.1.vl, I x.1.sh, LI x.1.ix, I x.1.lg, I x.1.gn, I x.1.pt, LI x.1.rc, LI x.1.da, I x.2.1, I x.2.2]
abbrev ttS : Sh := .rc [.int .i64, .int .i64, .int .i64, .li .i64, .int .i64, .int .i64, .int .i64, .li .i64, .li .i64, .int .i64, .int .i64]
abbrev HQt (g : Nat) (n N D : Int) (xs : List AVal) : Heap := [.box [.sl 1 g 0 n, I N, I D], .rw g (.gl ttS xs)]
abbrev QT : AVal := .iface 45 (.ptr 0 0)
def tlt (a b : Trl) : Bool := decide (a.2.1 < b.2.1) || (decide (a.2.1 = b.2.1) && decide (a.2.2 < b.2.2))
def dT : Trl := (⟨0, 0, 0, [], 0, 0, 0, [], []⟩, 0, 0)
theorem tlt_ordr : Ordr tlt := ⟨fun a b h => by simp only [tlt, Bool.or_eq_true, Bool.and_eq_true, decide_eq_true_eq, Bool.or_eq_false_iff, Bool.and_eq_false_iff, decide_eq_false_iff_not] at *; omega,
 fun a b c h1 h2 => by simp only [tlt, Bool.or_eq_false_iff, Bool.and_eq_false_iff, decide_eq_false_iff_not] at *; omega⟩
theorem maptt_get (L : List Trl) (i : Nat) (h : i < L.length) : (L.map ttr).getD i .junk = ttr (L.getD i dT) := by simp [List.getD, h]
theorem tlen_spec (g : Nat) (n N D : Int) (xs : List AVal) (hn : n = (xs.length : Nat)) : Does PP 158 [.ptr 0 0] (HQt g n N D xs) (Is (I n) (HQt g n N D xs)) := by
 refine wlk Tryz.f158 ?_
 unhygienic intros
 have hbq : Nat.beq g g = true := Nat.beq_refl g
 conv at hbq => cbv
 have hs0 : sbt n 0 = n := by rw [hk.sb_eq]; omega
 (conv => cbv)
 repeat' (first | assumption | ((first | rw [hbq] | rw [hs0] | refine stp ?_ | refine stpB (fun _ => ?_) (fun _ => ?_)) <;> (conv => cbv)) | exact stpF | fail)
theorem tless2_spec (g : Nat) (n N D i j : Int) (xs : List AVal) (hn : n = (xs.length : Nat)) (h0 : 0 ≤ i) (h1 : i < n) (h2 : 0 ≤ j) (h3 : j < n) (a b : Trl) (ha : xs.getD i.toNat .junk = ttr a) (hb : xs.getD j.toNat .junk = ttr b) :
 Does PP 159 [.ptr 0 0, I i, I j] (HQt g n N D xs) (Is (.bool (tlt a b)) (HQt g n N D xs)) := by
 obtain ⟨⟨kd1, vl1, sh1, ix1, lg1, gn1, pt1, rc1, da1⟩, bt1, tn1⟩ := a
 obtain ⟨⟨kd2, vl2, sh2, ix2, lg2, gn2, pt2, rc2, da2⟩, bt2, tn2⟩ := b
 obtain ⟨r, hr⟩ : ∃ r, r = (decide (bt1 < bt2) || (decide (bt1 = bt2) && decide (tn1 < tn2))) := ⟨_, rfl⟩
 show Does PP 159 [.ptr 0 0, I i, I j] (HQt g n N D xs) (Is (.bool (decide (bt1 < bt2) || (decide (bt1 = bt2) && decide (tn1 < tn2)))) (HQt g n N D xs))
 rw [← hr]
 have hr1 : bt1 < bt2 → r = true := fun h => by rw [hr]; simp [h]
 have hr2 : ¬ bt1 < bt2 → ¬ bt1 = bt2 → r = false := fun h h2 => by rw [hr]; simp [h, h2]
 have hr3 : bt1 = bt2 → r = decide (tn1 < tn2) := fun h => by rw [hr]; simp [h]
 clear hr
 refine wlkS (fun f => f == 9998 || f == 9997) Tryz.f159 ?_
 unhygienic intros
 have hbq : Nat.beq g g = true := Nat.beq_refl g
 conv at hbq => cbv
 have hs0 : sbt n 0 = n := by rw [hk.sb_eq]; omega
 have hai : ad 0 i = i := by rw [hk.ad_eq]; omega
 have haj : ad 0 j = j := by rw [hk.ad_eq]; omega
 have hlG : lnG xs = n := by rw [hk.lnG_eq]; omega
 have f10 : fi (fc (gtG xs i) 0) = kd1 := by rw [hk.gtG_eq, ha, hk.fc_eq, hk.fi_eq]; rfl
 have f11 : fi (fc (gtG xs i) 1) = vl1 := by rw [hk.gtG_eq, ha, hk.fc_eq, hk.fi_eq]; rfl
 have f12 : fi (fc (gtG xs i) 2) = sh1 := by rw [hk.gtG_eq, ha, hk.fc_eq, hk.fi_eq]; rfl
 have f13 : fl (fc (gtG xs i) 3) = ix1 := by rw [hk.gtG_eq, ha, hk.fc_eq, hk.fl_eq]; rfl
 have f14 : fi (fc (gtG xs i) 4) = lg1 := by rw [hk.gtG_eq, ha, hk.fc_eq, hk.fi_eq]; rfl
 have f15 : fi (fc (gtG xs i) 5) = gn1 := by rw [hk.gtG_eq, ha, hk.fc_eq, hk.fi_eq]; rfl
 have f16 : fi (fc (gtG xs i) 6) = pt1 := by rw [hk.gtG_eq, ha, hk.fc_eq, hk.fi_eq]; rfl
 have f17 : fl (fc (gtG xs i) 7) = rc1 := by rw [hk.gtG_eq, ha, hk.fc_eq, hk.fl_eq]; rfl
 have f18 : fl (fc (gtG xs i) 8) = da1 := by rw [hk.gtG_eq, ha, hk.fc_eq, hk.fl_eq]; rfl
 have f19 : fi (fc (gtG xs i) 9) = bt1 := by rw [hk.gtG_eq, ha, hk.fc_eq, hk.fi_eq]; rfl
 have f110 : fi (fc (gtG xs i) 10) = tn1 := by rw [hk.gtG_eq, ha, hk.fc_eq, hk.fi_eq]; rfl
 have f20 : fi (fc (gtG xs j) 0) = kd2 := by rw [hk.gtG_eq, hb, hk.fc_eq, hk.fi_eq]; rfl
 have f21 : fi (fc (gtG xs j) 1) = vl2 := by rw [hk.gtG_eq, hb, hk.fc_eq, hk.fi_eq]; rfl
 have f22 : fi (fc (gtG xs j) 2) = sh2 := by rw [hk.gtG_eq, hb, hk.fc_eq, hk.fi_eq]; rfl
 have f23 : fl (fc (gtG xs j) 3) = ix2 := by rw [hk.gtG_eq, hb, hk.fc_eq, hk.fl_eq]; rfl
 have f24 : fi (fc (gtG xs j) 4) = lg2 := by rw [hk.gtG_eq, hb, hk.fc_eq, hk.fi_eq]; rfl
 have f25 : fi (fc (gtG xs j) 5) = gn2 := by rw [hk.gtG_eq, hb, hk.fc_eq, hk.fi_eq]; rfl
 have f26 : fi (fc (gtG xs j) 6) = pt2 := by rw [hk.gtG_eq, hb, hk.fc_eq, hk.fi_eq]; rfl
 have f27 : fl (fc (gtG xs j) 7) = rc2 := by rw [hk.gtG_eq, hb, hk.fc_eq, hk.fl_eq]; rfl
 have f28 : fl (fc (gtG xs j) 8) = da2 := by rw [hk.gtG_eq, hb, hk.fc_eq, hk.fl_eq]; rfl
 have f29 : fi (fc (gtG xs j) 9) = bt2 := by rw [hk.gtG_eq, hb, hk.fc_eq, hk.fi_eq]; rfl
 have f210 : fi (fc (gtG xs j) 10) = tn2 := by rw [hk.gtG_eq, hb, hk.fc_eq, hk.fi_eq]; rfl
 (conv => cbv)
 repeat' (first | assumption | ((first | rw [hbq] | rw [hs0] | rw [hai] | rw [haj] | rw [hlG] | rw [f19] | rw [f110] | rw [f29] | rw [f210] | refine hk.idxI h0 h1 ?_ | refine hk.idxI h2 h3 ?_ | refine stp ?_ | refine stpB (fun _ => ?_) (fun _ => ?_)) <;> (conv => cbv)) | exact stpF | fail)
 refine ⟨?_, ?_⟩
 all_goals (conv => cbv)
 all_goals repeat' (first | assumption | ((first | rw [hbq] | rw [hs0] | rw [hai] | rw [haj] | rw [hlG] | rw [f19] | rw [f110] | rw [f29] | rw [f210] | refine hk.idxI h0 h1 ?_ | refine hk.idxI h2 h3 ?_ | refine stp ?_ | refine stpB (fun _ => ?_) (fun _ => ?_)) <;> (conv => cbv)) | exact stpF | fail)
 all_goals first
  | exact hk.finI (fin_lowN 2 (Nat.le_refl 2) (Wk.of_eq (by rw [hr1 (by assumption)])) rfl rfl ⟨rfl, rfl⟩)
  | exact hk.finI (fin_lowN 2 (Nat.le_refl 2) (Wk.of_eq (by rw [hr3 (by assumption), hk.c2_lss])) rfl rfl ⟨rfl, rfl⟩)
  | exact hk.finI (fin_lowN 2 (Nat.le_refl 2) (Wk.of_eq (by rw [hr2 (by assumption) (by assumption)])) rfl rfl ⟨rfl, rfl⟩)
theorem tswap_spec (g : Nat) (n N D i j : Int) (xs : List AVal) (hn : n = (xs.length : Nat)) (h0 : 0 ≤ i) (h1 : i < n) (h2 : 0 ≤ j) (h3 : j < n) (a b : Trl) (ha : xs.getD i.toNat .junk = ttr a) (hb : xs.getD j.toNat .junk = ttr b) :
 Does PP 161 [.ptr 0 0, I i, I j] (HQt g n N D xs) (Is (.tup []) (HQt g n N D ((xs.set i.toNat (ttr b)).set j.toNat (ttr a)))) := by
 obtain ⟨r, hr⟩ : ∃ r, r = (xs.set i.toNat (ttr b)).set j.toNat (ttr a) := ⟨_, rfl⟩
 rw [← hr]
 obtain ⟨⟨kd1, vl1, sh1, ix1, lg1, gn1, pt1, rc1, da1⟩, bt1, tn1⟩ := a
 obtain ⟨⟨kd2, vl2, sh2, ix2, lg2, gn2, pt2, rc2, da2⟩, bt2, tn2⟩ := b
 refine wlk Tryz.f161 ?_
 unhygienic intros
 have hbq : Nat.beq g g = true := Nat.beq_refl g
 conv at hbq => cbv
 have hs0 : sbt n 0 = n := by rw [hk.sb_eq]; omega
 have hai : ad 0 i = i := by rw [hk.ad_eq]; omega
 have haj : ad 0 j = j := by rw [hk.ad_eq]; omega
 have hlG : lnG xs = n := by rw [hk.lnG_eq]; omega
 have f10 : fi (fc (gtG xs i) 0) = kd1 := by rw [hk.gtG_eq, ha, hk.fc_eq, hk.fi_eq]; rfl
 have f11 : fi (fc (gtG xs i) 1) = vl1 := by rw [hk.gtG_eq, ha, hk.fc_eq, hk.fi_eq]; rfl
 have f12 : fi (fc (gtG xs i) 2) = sh1 := by rw [hk.gtG_eq, ha, hk.fc_eq, hk.fi_eq]; rfl
 have f13 : fl (fc (gtG xs i) 3) = ix1 := by rw [hk.gtG_eq, ha, hk.fc_eq, hk.fl_eq]; rfl
 have f14 : fi (fc (gtG xs i) 4) = lg1 := by rw [hk.gtG_eq, ha, hk.fc_eq, hk.fi_eq]; rfl
 have f15 : fi (fc (gtG xs i) 5) = gn1 := by rw [hk.gtG_eq, ha, hk.fc_eq, hk.fi_eq]; rfl
 have f16 : fi (fc (gtG xs i) 6) = pt1 := by rw [hk.gtG_eq, ha, hk.fc_eq, hk.fi_eq]; rfl
 have f17 : fl (fc (gtG xs i) 7) = rc1 := by rw [hk.gtG_eq, ha, hk.fc_eq, hk.fl_eq]; rfl
 have f18 : fl (fc (gtG xs i) 8) = da1 := by rw [hk.gtG_eq, ha, hk.fc_eq, hk.fl_eq]; rfl
 have f19 : fi (fc (gtG xs i) 9) = bt1 := by rw [hk.gtG_eq, ha, hk.fc_eq, hk.fi_eq]; rfl
 have f110 : fi (fc (gtG xs i) 10) = tn1 := by rw [hk.gtG_eq, ha, hk.fc_eq, hk.fi_eq]; rfl
 have f20 : fi (fc (gtG xs j) 0) = kd2 := by rw [hk.gtG_eq, hb, hk.fc_eq, hk.fi_eq]; rfl
 have f21 : fi (fc (gtG xs j) 1) = vl2 := by rw [hk.gtG_eq, hb, hk.fc_eq, hk.fi_eq]; rfl
 have f22 : fi (fc (gtG xs j) 2) = sh2 := by rw [hk.gtG_eq, hb, hk.fc_eq, hk.fi_eq]; rfl
 have f23 : fl (fc (gtG xs j) 3) = ix2 := by rw [hk.gtG_eq, hb, hk.fc_eq, hk.fl_eq]; rfl
 have f24 : fi (fc (gtG xs j) 4) = lg2 := by rw [hk.gtG_eq, hb, hk.fc_eq, hk.fi_eq]; rfl
 have f25 : fi (fc (gtG xs j) 5) = gn2 := by rw [hk.gtG_eq, hb, hk.fc_eq, hk.fi_eq]; rfl
 have f26 : fi (fc (gtG xs j) 6) = pt2 := by rw [hk.gtG_eq, hb, hk.fc_eq, hk.fi_eq]; rfl
 have f27 : fl (fc (gtG xs j) 7) = rc2 := by rw [hk.gtG_eq, hb, hk.fc_eq, hk.fl_eq]; rfl
 have f28 : fl (fc (gtG xs j) 8) = da2 := by rw [hk.gtG_eq, hb, hk.fc_eq, hk.fl_eq]; rfl
 have f29 : fi (fc (gtG xs j) 9) = bt2 := by rw [hk.gtG_eq, hb, hk.fc_eq, hk.fi_eq]; rfl
 have f210 : fi (fc (gtG xs j) 10) = tn2 := by rw [hk.gtG_eq, hb, hk.fc_eq, hk.fi_eq]; rfl
 have hst : stG (stG xs i (.agg [.int .i64 kd2, .int .i64 vl2, .int .i64 sh2, .ls (.il .i64 ix2) .any, .int .i64 lg2, .int .i64 gn2, .int .i64 pt2, .ls (.il .i64 rc2) .any, .ls (.il .i64 da2) .any, .int .i64 bt2, .int .i64 tn2])) j (.agg [.int .i64 kd1, .int .i64 vl1, .int .i64 sh1, .ls (.il .i64 ix1) .any, .int .i64 lg1, .int .i64 gn1, .int .i64 pt1, .ls (.il .i64 rc1) .any, .ls (.il .i64 da1) .any, .int .i64 bt1, .int .i64 tn1]) = r := by rw [hk.stG_eq, hk.stG_eq, hr]
 (conv => cbv)
 repeat' (first | assumption | ((first | rw [hbq] | rw [hs0] | rw [hai] | rw [haj] | rw [hlG] | rw [f10] | rw [f11] | rw [f12] | rw [f13] | rw [f14] | rw [f15] | rw [f16] | rw [f17] | rw [f18] | rw [f19] | rw [f110] | rw [f20] | rw [f21] | rw [f22] | rw [f23] | rw [f24] | rw [f25] | rw [f26] | rw [f27] | rw [f28] | rw [f29] | rw [f210] | refine hk.idxI h0 h1 ?_ | refine hk.idxI h2 h3 ?_ | rw [hst] | refine stp ?_ | refine stpB (fun _ => ?_) (fun _ => ?_)) <;> (conv => cbv)) | exact stpF | fail)
 all_goals skip
theorem tpush_spec (g : Nat) (n N D : Int) (c : Trl) (xs : List AVal) (hn : n = (xs.length : Nat)) (h1 : n ≤ 100000) : Does PP 160 [.ptr 0 0, .iface 53 (ttr c)] (HQt g n N D xs) (Is (.tup []) (HQt (g + 1) (n + 1) N D (xs ++ [ttr c]))) := by
 obtain ⟨r, hr⟩ : ∃ r, r = xs ++ [ttr c] := ⟨_, rfl⟩
 obtain ⟨m, hm⟩ : ∃ m, m = n + 1 := ⟨_, rfl⟩
 rw [← hr, ← hm]
 obtain ⟨⟨kd1, vl1, sh1, ix1, lg1, gn1, pt1, rc1, da1⟩, bt1, tn1⟩ := c
 refine wlk Tryz.f160 ?_
 unhygienic intros
 have hbq : Nat.beq g g = true := Nat.beq_refl g
 conv at hbq => cbv
 have hs0 : sbt n 0 = n := by rw [hk.sb_eq]; omega
 have hlG : lnG xs = n := by rw [hk.lnG_eq]; omega
 have hl1 : ∀ x, lnG [x] = 1 := fun x => hk.lnG_eq _
 have had : ad n 1 = m := by rw [hk.ad_eq]; omega
 have hap : apG xs [.agg [.int .i64 kd1, .int .i64 vl1, .int .i64 sh1, .ls (.il .i64 ix1) .any, .int .i64 lg1, .int .i64 gn1, .int .i64 pt1, .ls (.il .i64 rc1) .any, .ls (.il .i64 da1) .any, .int .i64 bt1, .int .i64 tn1]] = r := by rw [hk.apG_eq]; exact hr.symm
 have hrl : lnG r = m := by rw [hk.lnG_eq, hr, List.length_append, List.length_singleton]; omega
 (conv => cbv)
 repeat' (first | assumption | ((first | rw [hbq] | rw [hs0] | rw [hl1] | rw [hap] | rw [hlG] | rw [had] | rw [hrl] | refine stp ?_ | refine stpB (fun _ => ?_) (fun _ => ?_)) <;> (conv => cbv)) | exact stpF | fail)
 all_goals first
  | exact hk.finI (fin_lowN 2 (Nat.le_refl 2) (Wk.refl _ _) rfl rfl ⟨rfl, rfl⟩)
  | skip
theorem tlessX (X : List Trl → List AVal) (hX : ∀ l, X l = l.map ttr) (g : Nat) (n N D i j : Int) (L : List Trl) (hn : n = (L.length : Nat)) (h0 : 0 ≤ i) (h1 : i < n) (h2 : 0 ≤ j) (h3 : j < n) :
 Does PP 159 [.ptr 0 0, I i, I j] (HQt g n N D (X L)) (Is (.bool (tlt (L.getD i.toNat dT) (L.getD j.toNat dT))) (HQt g n N D (X L))) :=
 tless2_spec g n N D i j (X L) (by rw [hX, List.length_map]; exact hn) h0 h1 h2 h3 _ _ (by rw [hX]; exact maptt_get L _ (by omega)) (by rw [hX]; exact maptt_get L _ (by omega))
theorem tswapX (X : List Trl → List AVal) (hX : ∀ l, X l = l.map ttr) (g : Nat) (n N D i j : Int) (L : List Trl) (hn : n = (L.length : Nat)) (h0 : 0 ≤ i) (h1 : i < n) (h2 : 0 ≤ j) (h3 : j < n) :
 Does PP 161 [.ptr 0 0, I i, I j] (HQt g n N D (X L)) (Is (.tup []) (HQt g n N D (X (swpL dT L i.toNat j.toNat)))) := by
 have := tswap_spec g n N D i j (X L) (by rw [hX, List.length_map]; exact hn) h0 h1 h2 h3 _ _ (by rw [hX]; exact maptt_get L _ (by omega)) (by rw [hX]; exact maptt_get L _ (by omega))
 rw [show X (swpL dT L i.toNat j.toNat) = ((X L).set i.toNat (ttr (L.getD j.toNat dT))).set j.toNat (ttr (L.getD i.toNat dT)) by rw [hX, hX, swpL, List.map_set, List.map_set]]
 exact this
theorem tup_spec (X : List Trl → List AVal) (hX : ∀ l, X l = l.map ttr) (g : Nat) (n N D j : Int) (L : List Trl) (hn : n = (L.length : Nat)) (hn2 : n ≤ 100000) (h0 : 0 ≤ j) (h1 : j < n) :
 Does PP 77 [QT, I j] (HQt g n N D (X L)) (Is (.tup []) (HQt g n N D (X (hupL tlt dT j.toNat L j.toNat)))) := by
 obtain ⟨R, hR⟩ : ∃ R, R = hupL tlt dT j.toNat L j.toNat := ⟨_, rfl⟩
 rw [← hR]
 have hls := fun (L : List Trl) (i j : Int) (hn : n = (L.length : Nat)) a b c d => tlessX X hX g n N D i j L hn a b c d
 have hsw := fun (L : List Trl) (i j : Int) (hn : n = (L.length : Nat)) a b c d => tswapX X hX g n N D i j L hn a b c d
 refine wlk Tryz.f77 ?_
 unhygienic intros
 (conv => cbv)
 repeat' (first | assumption | ((first | refine stp ?_ | refine stpB (fun _ => ?_) (fun _ => ?_)) <;> (conv => cbv)) | exact stpF | fail)
 refine hk.loopI (loop_rule (α := Int × List Trl × Nat) (fun x => [(0, .iface 45 (.ptr 0 0)), (1, .int .i64 x.1)]) (fun x => [.box [.sl 1 g 0 n, .int .i64 N, .int .i64 D], .rw g (.gl (.rc [.int .i64, .int .i64, .int .i64, .li .i64, .int .i64, .int .i64, .int .i64, .li .i64, .li .i64, .int .i64, .int .i64]) (X x.2.1))])
  (fun x => 0 ≤ x.1 ∧ x.1 < n ∧ n = (x.2.1.length : Nat) ∧ x.1.toNat ≤ x.2.2 ∧ hupL tlt dT x.2.2 x.2.1 x.1.toNat = R) (fun x => x.1.toNat) (j, L, j.toNat) ⟨h0, h1, hn, Nat.le_refl _, hR.symm⟩ ?_ ?_)
 ·exact ghT
 intro ⟨i, l, f⟩ ⟨hi, hi2, hl, hf, hu⟩ Q' hb hx hr
 simp only at hi hi2 hl hf hu
 dsimp only
 by_cases hi0 : i = 0
 ·subst hi0
  have hq : i2 .quo .i64 (i2 .sub .i64 0 1) 2 = 0 := by rw [hk.i2_quo, hk.sub64 _ _ (by omega) (by omega)]; decide
  have e : l = R := by
   rw [← hu]
   cases f with
   | zero => rfl
   | succ f => rw [hupL]; rfl
  subst e
  (conv => cbv)
  repeat' (first | assumption | ((first | rw [hq] | refine hx _ _ ?_ | refine stp ?_ | refine stpB (fun _ => ?_) (fun _ => ?_)) <;> (conv => cbv)) | exact stpF | fail)
 ·obtain ⟨p, hp⟩ : ∃ p : Int, p = (i - 1) / 2 := ⟨_, rfl⟩
  have hp2 : 0 ≤ p ∧ p < i ∧ p.toNat = (i.toNat - 1) / 2 := by omega
  have hq : i2 .quo .i64 (i2 .sub .i64 i 1) 2 = p := by
   rw [hk.i2_quo, hk.sub64 _ _ (by omega) (by omega), Int.tdiv_eq_ediv_of_nonneg (by omega), ← hp]; exact wrap64 (by omega) (by omega)
  have hls := hls l i p hl (by omega) (by omega) (by omega) (by omega)
  have hsw := hsw l p i hl (by omega) (by omega) (by omega) (by omega)
  obtain ⟨b, hb0⟩ : ∃ b, b = tlt (l.getD i.toNat dT) (l.getD p.toNat dT) := ⟨_, rfl⟩
  obtain ⟨s, hs0⟩ : ∃ s, s = swpL dT l p.toNat i.toNat := ⟨_, rfl⟩
  obtain ⟨f, rfl⟩ : ∃ f', f = f' + 1 := ⟨f - 1, by omega⟩
  rw [hupL, if_neg (show ¬ i.toNat = 0 by omega), ← hp2.2.2, ← hb0, ← hs0] at hu
  have hsl : n = (s.length : Nat) := by rw [hs0, swpL_len]; exact hl
  rw [← hb0] at hls
  rw [← hs0] at hsw
  cases b
  ·simp only [Bool.false_eq_true, if_false] at hu
   subst hu
   (conv => cbv)
   repeat' (first | assumption | ((first | rw [hq] | refine hk.callA hls ?_ | refine hx _ _ ?_ | refine stp ?_ | refine stpB (fun _ => ?_) (fun _ => ?_)) <;> (conv => cbv)) | exact stpF | fail)
  ·simp only [if_true] at hu
   (conv => cbv)
   repeat' (first | assumption | ((first | rw [hq] | refine hk.callA hls ?_ | refine hk.callA hsw ?_ | refine stp ?_ | refine stpB (fun _ => ?_) (fun _ => ?_)) <;> (conv => cbv)) | exact stpF | fail)
   refine hb (p, s, f) _ ⟨by simp only; omega, by simp only; omega, hsl, by simp only; omega, hu⟩ (by simp only; omega) ?_
   dsimp only
   refine Gh.tm ?_
   repeat' (first | exact Holds.nil _ _ | refine Holds.cons (Wk.refl _ _) ?_ | refine Holds.cons (Wk.of_eq ?_) ?_)
theorem tHpush_spec (X : List Trl → List AVal) (hX : ∀ l, X l = l.map ttr) (g : Nat) (n N D : Int) (c : Trl) (L : List Trl) (hn : n = (L.length : Nat)) (h1 : n ≤ 1000) : Does PP 42 [QT, .iface 53 (ttr c)] (HQt g n N D (X L)) (Is (.tup []) (HQt (g + 1) (n + 1) N D (X (pushL tlt dT L c)))) := by
 have hpu := tpush_spec g n N D c (X L) (by rw [hX, List.length_map]; exact hn) (by omega)
 obtain ⟨m, hm⟩ : ∃ m, m = n + 1 := ⟨_, rfl⟩
 obtain ⟨s, hs⟩ : ∃ s, s = L ++ [c] := ⟨_, rfl⟩
 have hXs : X L ++ [ttr c] = X s := by rw [hX, hX, hs, List.map_append]; rfl
 have hsl : m = (s.length : Nat) := by rw [hs, List.length_append, List.length_singleton]; omega
 have hle := tlen_spec (g + 1) m N D (X s) (by rw [hX, List.length_map]; exact hsl)
 have hup := tup_spec X hX (g + 1) m N D n s hsl (by omega) (by omega) (by omega)
 have hR : hupL tlt dT n.toNat s n.toNat = pushL tlt dT L c := by rw [pushL, ← hs, hn]; rfl
 rw [hR] at hup
 obtain ⟨R, hR0⟩ : ∃ R, R = pushL tlt dT L c := ⟨_, rfl⟩
 rw [← hR0] at hup ⊢
 rw [← hm, hXs] at hpu
 rw [← hm]
 clear hX hXs
 obtain ⟨⟨kd1, vl1, sh1, ix1, lg1, gn1, pt1, rc1, da1⟩, bt1, tn1⟩ := c
 refine wlk Tryz.f42 ?_
 unhygienic intros
 have hsu : i2 .sub .i64 m 1 = n := by rw [hk.sub64 _ _ (by omega) (by omega)]; omega
 (conv => cbv)
 repeat' (first | assumption | ((first | rw [hsu] | refine hk.callA hpu ?_ | refine hk.callA hle ?_ | refine hk.callA hup ?_ | refine stp ?_ | refine stpB (fun _ => ?_) (fun _ => ?_)) <;> (conv => cbv)) | exact stpF | fail)
end Go.Proofs.YtoeekjddeknmbaaGreat
