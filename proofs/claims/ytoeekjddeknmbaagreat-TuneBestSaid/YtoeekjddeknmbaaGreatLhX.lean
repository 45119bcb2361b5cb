/-
  Contracts of functions of the program, proved over the abstract machine of the Al texts.
-/
import Derived.Test.YtoeekjddeknmbaaGreatTryTab
import Derived.Test.YtoeekjddeknmbaaGreatAl4
import Derived.Test.YtoeekjddeknmbaaGreatBaseX
import Derived.Test.YtoeekjddeknmbaaGreatTkX3
import Derived.Test.YtoeekjddeknmbaaGreatHrX
import Derived.Test.YtoeekjddeknmbaaGreatLtX1
set_option maxHeartbeats 4000000
set_option maxRecDepth 20000
set_option linter.unusedSimpArgs false
set_option linter.unusedVariables false
open Go Go.AL
namespace Go.Proofs.YtoeekjddeknmbaaGreat
abbrev ltr (x : Lt3) : AVal := .agg [I x.1, I x.2.1, I x.2.2]
abbrev ltS : Sh := .rc [.int .i64, .int .i64, .int .i64]
abbrev HQl (g : Nat) (n : Int) (xs : List AVal) : Heap := [.box [I 0, I 0], .rw g (.gl ltS xs), .box [.sl 1 g 0 n]]
abbrev QL : AVal := .iface 129 (.ptr 2 0)
theorem llen_spec (g : Nat) (n : Int) (xs : List AVal) (hn : n = (xs.length : Nat)) : Does PP 163 [.sl 1 g 0 n] (HQl g n xs) (Is (I n) (HQl g n xs)) := by
 refine wlk Tryz.f163 ?_
 unhygienic intros
 have hbq : Nat.beq g g = true := Nat.beq_refl g
 conv at hbq => cbv
 have hs0 : sbt n 0 = n := by rw [hk.sb_eq]; omega
 (conv => cbv)
 repeat' (first | assumption | ((first | rw [hbq] | rw [hs0] | refine stp ?_ | refine stpB (fun _ => ?_) (fun _ => ?_)) <;> (conv => cbv)) | exact stpF | fail)
theorem lless_spec (g : Nat) (n i j : Int) (xs : List AVal) (hn : n = (xs.length : Nat)) (h0 : 0 ≤ i) (h1 : i < n) (h2 : 0 ≤ j) (h3 : j < n) (a b : Lt3) (ha : xs.getD i.toNat .junk = ltr a) (hb : xs.getD j.toNat .junk = ltr b) :
 Does PP 164 [.sl 1 g 0 n, I i, I j] (HQl g n xs) (Is (.bool (lt3 a b)) (HQl g n xs)) := by
 obtain ⟨a1, a2, a3⟩ := a
 obtain ⟨b1, b2, b3⟩ := b
 obtain ⟨r, hr⟩ : ∃ r, r = lt3 (a1, a2, a3) (b1, b2, b3) := ⟨_, rfl⟩
 rw [← hr]
 have hr1 : ¬ a3 = b3 → r = decide (a3 < b3) := fun h => by rw [hr, lt3, if_neg h]
 have hr2 : a3 = b3 → ¬ a1 = b1 → r = decide (a1 < b1) := fun h h' => by rw [hr, lt3, if_pos h, if_neg h']
 have hr3 : a3 = b3 → a1 = b1 → r = decide (a2 < b2) := fun h h' => by rw [hr, lt3, if_pos h, if_pos h']
 clear hr
 refine wlkS (fun f => f == 9998 || f == 9997) Tryz.f164 ?_
 unhygienic intros
 have hbq : Nat.beq g g = true := Nat.beq_refl g
 conv at hbq => cbv
 have hs0 : sbt n 0 = n := by rw [hk.sb_eq]; omega
 have hai : ad 0 i = i := by rw [hk.ad_eq]; omega
 have haj : ad 0 j = j := by rw [hk.ad_eq]; omega
 have f1 : fi (fc (gtG xs i) 0) = a1 := by rw [hk.gtG_eq, ha, hk.fc_eq, hk.fi_eq]; rfl
 have f2 : fi (fc (gtG xs i) 1) = a2 := by rw [hk.gtG_eq, ha, hk.fc_eq, hk.fi_eq]; rfl
 have f3 : fi (fc (gtG xs i) 2) = a3 := by rw [hk.gtG_eq, ha, hk.fc_eq, hk.fi_eq]; rfl
 have f4 : fi (fc (gtG xs j) 0) = b1 := by rw [hk.gtG_eq, hb, hk.fc_eq, hk.fi_eq]; rfl
 have f5 : fi (fc (gtG xs j) 1) = b2 := by rw [hk.gtG_eq, hb, hk.fc_eq, hk.fi_eq]; rfl
 have f6 : fi (fc (gtG xs j) 2) = b3 := by rw [hk.gtG_eq, hb, hk.fc_eq, hk.fi_eq]; rfl
 have hlG : lnG xs = n := by rw [hk.lnG_eq]; omega
 (conv => cbv)
 repeat' (first | assumption | ((first | rw [hbq] | rw [hs0] | rw [hai] | rw [haj] | rw [hlG] | rw [f1] | rw [f2] | rw [f3] | rw [f4] | rw [f5] | rw [f6] | refine hk.idxI h0 h1 ?_ | refine hk.idxI h2 h3 ?_ | refine stp ?_ | refine stpB (fun _ => ?_) (fun _ => ?_)) <;> (conv => cbv)) | exact stpF | fail)
 refine ⟨?_, ?_⟩
 all_goals (conv => cbv)
 all_goals repeat' (first | assumption | ((first | rw [hbq] | rw [hs0] | rw [hai] | rw [haj] | rw [hlG] | rw [f1] | rw [f2] | rw [f3] | rw [f4] | rw [f5] | rw [f6] | refine hk.idxI h0 h1 ?_ | refine hk.idxI h2 h3 ?_ | refine stp ?_ | refine stpB (fun _ => ?_) (fun _ => ?_)) <;> (conv => cbv)) | exact stpF | fail)
 all_goals first
  | exact hk.finI (fin_lowN 3 (Nat.le_refl 3) (Wk.of_eq (by rw [hk.c2_lss, ← hr1 (by assumption)])) rfl rfl ⟨rfl, rfl⟩)
  | exact hk.finI (fin_lowN 3 (Nat.le_refl 3) (Wk.of_eq (by rw [hk.c2_lss, ← hr2 (by assumption) (by assumption)])) rfl rfl ⟨rfl, rfl⟩)
  | exact hk.finI (fin_lowN 3 (Nat.le_refl 3) (Wk.of_eq (by rw [hk.c2_lss, ← hr3 (by assumption) (by assumption)])) rfl rfl ⟨rfl, rfl⟩)
theorem lswap_spec (g : Nat) (n i j : Int) (xs : List AVal) (hn : n = (xs.length : Nat)) (h0 : 0 ≤ i) (h1 : i < n) (h2 : 0 ≤ j) (h3 : j < n) (a b : Lt3) (ha : xs.getD i.toNat .junk = ltr a) (hb : xs.getD j.toNat .junk = ltr b) :
 Does PP 165 [.sl 1 g 0 n, I i, I j] (HQl g n xs) (Is (.tup []) (HQl g n ((xs.set i.toNat (ltr b)).set j.toNat (ltr a)))) := by
 obtain ⟨r, hr⟩ : ∃ r, r = (xs.set i.toNat (ltr b)).set j.toNat (ltr a) := ⟨_, rfl⟩
 rw [← hr]
 obtain ⟨a1, a2, a3⟩ := a
 obtain ⟨b1, b2, b3⟩ := b
 refine wlk Tryz.f165 ?_
 unhygienic intros
 have hbq : Nat.beq g g = true := Nat.beq_refl g
 conv at hbq => cbv
 have hs0 : sbt n 0 = n := by rw [hk.sb_eq]; omega
 have hai : ad 0 i = i := by rw [hk.ad_eq]; omega
 have haj : ad 0 j = j := by rw [hk.ad_eq]; omega
 have f1 : fi (fc (gtG xs i) 0) = a1 := by rw [hk.gtG_eq, ha, hk.fc_eq, hk.fi_eq]; rfl
 have f2 : fi (fc (gtG xs i) 1) = a2 := by rw [hk.gtG_eq, ha, hk.fc_eq, hk.fi_eq]; rfl
 have f3 : fi (fc (gtG xs i) 2) = a3 := by rw [hk.gtG_eq, ha, hk.fc_eq, hk.fi_eq]; rfl
 have f4 : fi (fc (gtG xs j) 0) = b1 := by rw [hk.gtG_eq, hb, hk.fc_eq, hk.fi_eq]; rfl
 have f5 : fi (fc (gtG xs j) 1) = b2 := by rw [hk.gtG_eq, hb, hk.fc_eq, hk.fi_eq]; rfl
 have f6 : fi (fc (gtG xs j) 2) = b3 := by rw [hk.gtG_eq, hb, hk.fc_eq, hk.fi_eq]; rfl
 have hlG : lnG xs = n := by rw [hk.lnG_eq]; omega
 have hst : stG (stG xs i (.agg [.int .i64 b1, .int .i64 b2, .int .i64 b3])) j (.agg [.int .i64 a1, .int .i64 a2, .int .i64 a3]) = r := by rw [hk.stG_eq, hk.stG_eq, hr]
 (conv => cbv)
 repeat' (first | assumption | ((first | rw [hbq] | rw [hs0] | rw [hai] | rw [haj] | rw [hlG] | rw [f1] | rw [f2] | rw [f3] | rw [f4] | rw [f5] | rw [f6] | refine hk.idxI h0 h1 ?_ | refine hk.idxI h2 h3 ?_ | rw [hst] | refine stp ?_ | refine stpB (fun _ => ?_) (fun _ => ?_)) <;> (conv => cbv)) | exact stpF | fail)
 all_goals skip
theorem mapltr_get (L : List Lt3) (i : Nat) (h : i < L.length) : (L.map ltr).getD i .junk = ltr (L.getD i e000) := by simp [List.getD, h]
theorem lessXl (X : List Lt3 → List AVal) (hX : ∀ l, X l = l.map ltr) (g : Nat) (n i j : Int) (L : List Lt3) (hn : n = (L.length : Nat)) (h0 : 0 ≤ i) (h1 : i < n) (h2 : 0 ≤ j) (h3 : j < n) :
 Does PP 164 [.sl 1 g 0 n, I i, I j] (HQl g n (X L)) (Is (.bool (lt3 (L.getD i.toNat e000) (L.getD j.toNat e000))) (HQl g n (X L))) :=
 lless_spec g n i j (X L) (by rw [hX, List.length_map]; exact hn) h0 h1 h2 h3 _ _ (by rw [hX]; exact mapltr_get L _ (by omega)) (by rw [hX]; exact mapltr_get L _ (by omega))
theorem swapXl (X : List Lt3 → List AVal) (hX : ∀ l, X l = l.map ltr) (g : Nat) (n i j : Int) (L : List Lt3) (hn : n = (L.length : Nat)) (h0 : 0 ≤ i) (h1 : i < n) (h2 : 0 ≤ j) (h3 : j < n) :
 Does PP 165 [.sl 1 g 0 n, I i, I j] (HQl g n (X L)) (Is (.tup []) (HQl g n (X (swpL e000 L i.toNat j.toNat)))) := by
 have := lswap_spec g n i j (X L) (by rw [hX, List.length_map]; exact hn) h0 h1 h2 h3 _ _ (by rw [hX]; exact mapltr_get L _ (by omega)) (by rw [hX]; exact mapltr_get L _ (by omega))
 rw [show X (swpL e000 L i.toNat j.toNat) = ((X L).set i.toNat (ltr (L.getD j.toNat e000))).set j.toNat (ltr (L.getD i.toNat e000)) by rw [hX, hX, swpL, List.map_set, List.map_set]]
 exact this
theorem ldown_spec (X : List Lt3 → List AVal) (hX : ∀ l, X l = l.map ltr) (g : Nat) (n i0 m : Int) (L : List Lt3) (hn : n = (L.length : Nat)) (hn2 : n ≤ 100000) (h0 : 0 ≤ i0) (h1 : i0 ≤ m) (h2 : m ≤ n) :
 Does PP 123 [QL, I i0, I m] (HQl g n (X L)) (Is (.bool (goesK lt3 e000 L m.toNat i0.toNat)) (HQl g n (X (downL lt3 e000 m.toNat L m.toNat i0.toNat)))) := by
 obtain ⟨R, hR⟩ : ∃ R, R = downL lt3 e000 m.toNat L m.toNat i0.toNat := ⟨_, rfl⟩
 obtain ⟨B, hB⟩ : ∃ B, B = goesK lt3 e000 L m.toNat i0.toNat := ⟨_, rfl⟩
 rw [← hR, ← hB]
 have hls := fun (L : List Lt3) (i j : Int) (hn : n = (L.length : Nat)) a b c d => lessXl X hX g n i j L hn a b c d
 have hsw := fun (L : List Lt3) (i j : Int) (hn : n = (L.length : Nat)) a b c d => swapXl X hX g n i j L hn a b c d
 refine wlk Tryz.f123 ?_
 unhygienic intros
 (conv => cbv)
 repeat' (first | assumption | ((first | refine stp ?_ | refine stpB (fun _ => ?_) (fun _ => ?_)) <;> (conv => cbv)) | exact stpF | fail)
 refine hk.loopI (loop_rule (α := Int × List Lt3 × Nat) (fun x => [(0, .iface 129 (.ptr 2 0)), (1, .int .i64 i0), (2, .int .i64 m), (6, .bool false), (7, .int .i64 x.1)]) (fun x => [.box [.int .i64 0, .int .i64 0], .rw g (.gl (.rc [.int .i64, .int .i64, .int .i64]) (X x.2.1)), .box [.sl 1 g 0 n]])
  (fun x => i0 ≤ x.1 ∧ x.1 ≤ m ∧ n = (x.2.1.length : Nat) ∧ m.toNat ≤ x.1.toNat + x.2.2 ∧ downL lt3 e000 x.2.2 x.2.1 m.toNat x.1.toNat = R ∧ ((x.1 = i0 ∧ x.2.1 = L) ∨ (i0 < x.1 ∧ goesK lt3 e000 L m.toNat i0.toNat = true))) (fun x => (m - x.1).toNat) (i0, L, m.toNat) ⟨Int.le_refl _, h1, hn, by simp only; omega, hR.symm, .inl ⟨rfl, rfl⟩⟩ ?_ ?_)
 ·exact ghT
 intro ⟨i, l, f⟩ ⟨hi, hi2, hl, hf, hu, hst⟩ Q' hb hx hr
 simp only at hi hi2 hl hf hu hst
 dsimp only
 obtain ⟨j1, hj1⟩ : ∃ j1 : Int, j1 = 2 * i + 1 := ⟨_, rfl⟩
 obtain ⟨j2, hj2⟩ : ∃ j2 : Int, j2 = 2 * i + 2 := ⟨_, rfl⟩
 have hm1 : i2 .mul .i64 2 i = 2 * i := hk.mul64 _ _ (by omega) (by omega)
 have ha1 : i2 .add .i64 (2 * i) 1 = j1 := by rw [hj1]; exact hk.add64 _ _ (by omega) (by omega)
 have ha2 : i2 .add .i64 j1 1 = j2 := by rw [hk.add64 _ _ (by omega) (by omega), hj1, hj2]; omega
 by_cases hjm : j1 < m
 ·by_cases hjm2 : j2 < m
  ·have hls1 := hls l j2 j1 hl (by omega) (by omega) (by omega) (by omega)
   obtain ⟨b1, hb1⟩ : ∃ b, b = lt3 (l.getD j2.toNat e000) (l.getD j1.toNat e000) := ⟨_, rfl⟩
   rw [← hb1] at hls1
   have e1 : j1.toNat = 2 * i.toNat + 1 := by omega
   have e2 : j2.toNat = 2 * i.toNat + 2 := by omega
   cases b1
   ·obtain ⟨k, hkk⟩ : ∃ k, k = j1 := ⟨_, rfl⟩
    have hkid : kid lt3 e000 l m.toNat i.toNat = k.toNat := by
     rw [kid, ← e1, ← e2, ← hb1, hkk]; simp
    subst hkk
    have hg9 : goesK lt3 e000 l m.toNat i.toNat = lt3 (l.getD k.toNat e000) (l.getD i.toNat e000) := by rw [goesK, hkid, decide_eq_true (by omega), Bool.true_and]
    have hls2 := hls l k i hl (by omega) (by omega) (by omega) (by omega)
    have hsw2 := hsw l i k hl (by omega) (by omega) (by omega) (by omega)
    obtain ⟨b, hb0⟩ : ∃ b, b = lt3 (l.getD k.toNat e000) (l.getD i.toNat e000) := ⟨_, rfl⟩
    obtain ⟨s, hs0⟩ : ∃ s, s = swpL e000 l i.toNat k.toNat := ⟨_, rfl⟩
    obtain ⟨f, rfl⟩ : ∃ f', f = f' + 1 := ⟨f - 1, by omega⟩
    rw [← hb0] at hg9
    rw [downL, hg9, hkid, ← hs0] at hu
    have hsl : n = (s.length : Nat) := by rw [hs0, swpL_len]; exact hl
    rw [← hb0] at hls2
    rw [← hs0] at hsw2
    cases b
    ·simp only [Bool.false_eq_true, if_false] at hu
     subst hu
     (conv => cbv)
     repeat' (first | assumption | ((first | rw [hm1] | rw [ha1] | rw [ha2] | refine hk.callA hls1 ?_ | refine hk.callA hls2 ?_ | refine hx _ _ ?_ | refine stp ?_ | refine stpB (fun _ => ?_) (fun _ => ?_)) <;> (conv => cbv)) | exact stpF | fail)
     all_goals first
      | (refine hk.fin1 (congrArg _ ?_)
         rw [hk.c2_gtr, hB]
         rcases hst with ⟨e1, e2⟩ | ⟨e1, e2⟩
         ·rw [← e2, ← e1, hg9, decide_eq_false (by omega)]
         ·rw [e2, decide_eq_true (by omega)])
      | skip
    ·simp only [if_true] at hu
     (conv => cbv)
     repeat' (first | assumption | ((first | rw [hm1] | rw [ha1] | rw [ha2] | refine hk.callA hls1 ?_ | refine hk.callA hls2 ?_ | refine hk.callA hsw2 ?_ | refine stp ?_ | refine stpB (fun _ => ?_) (fun _ => ?_)) <;> (conv => cbv)) | exact stpF | fail)
     refine hb (k, s, f) _ ⟨by simp only; omega, by simp only; omega, hsl, by simp only; omega, hu, .inr ⟨by simp only; omega, ?_⟩⟩ (by simp only; omega) ?_
     ·rcases hst with ⟨e1, e2⟩ | ⟨e1, e2⟩
      ·rw [← e2, ← e1]; exact hg9
      ·exact e2
     dsimp only
     refine Gh.tm ?_
     repeat' (first | exact Holds.nil _ _ | refine Holds.cons (Wk.refl _ _) ?_ | refine Holds.cons (Wk.of_eq ?_) ?_)
   ·obtain ⟨k, hkk⟩ : ∃ k, k = j2 := ⟨_, rfl⟩
    have hkid : kid lt3 e000 l m.toNat i.toNat = k.toNat := by
     rw [kid, ← e1, ← e2, ← hb1, hkk, if_pos ⟨by omega, rfl⟩]
    subst hkk
    have hg9 : goesK lt3 e000 l m.toNat i.toNat = lt3 (l.getD k.toNat e000) (l.getD i.toNat e000) := by rw [goesK, hkid, decide_eq_true (by omega), Bool.true_and]
    have hls2 := hls l k i hl (by omega) (by omega) (by omega) (by omega)
    have hsw2 := hsw l i k hl (by omega) (by omega) (by omega) (by omega)
    obtain ⟨b, hb0⟩ : ∃ b, b = lt3 (l.getD k.toNat e000) (l.getD i.toNat e000) := ⟨_, rfl⟩
    obtain ⟨s, hs0⟩ : ∃ s, s = swpL e000 l i.toNat k.toNat := ⟨_, rfl⟩
    obtain ⟨f, rfl⟩ : ∃ f', f = f' + 1 := ⟨f - 1, by omega⟩
    rw [← hb0] at hg9
    rw [downL, hg9, hkid, ← hs0] at hu
    have hsl : n = (s.length : Nat) := by rw [hs0, swpL_len]; exact hl
    rw [← hb0] at hls2
    rw [← hs0] at hsw2
    cases b
    ·simp only [Bool.false_eq_true, if_false] at hu
     subst hu
     (conv => cbv)
     repeat' (first | assumption | ((first | rw [hm1] | rw [ha1] | rw [ha2] | refine hk.callA hls1 ?_ | refine hk.callA hls2 ?_ | refine hx _ _ ?_ | refine stp ?_ | refine stpB (fun _ => ?_) (fun _ => ?_)) <;> (conv => cbv)) | exact stpF | fail)
     all_goals first
      | (refine hk.fin1 (congrArg _ ?_)
         rw [hk.c2_gtr, hB]
         rcases hst with ⟨e1, e2⟩ | ⟨e1, e2⟩
         ·rw [← e2, ← e1, hg9, decide_eq_false (by omega)]
         ·rw [e2, decide_eq_true (by omega)])
      | skip
    ·simp only [if_true] at hu
     (conv => cbv)
     repeat' (first | assumption | ((first | rw [hm1] | rw [ha1] | rw [ha2] | refine hk.callA hls1 ?_ | refine hk.callA hls2 ?_ | refine hk.callA hsw2 ?_ | refine stp ?_ | refine stpB (fun _ => ?_) (fun _ => ?_)) <;> (conv => cbv)) | exact stpF | fail)
     refine hb (k, s, f) _ ⟨by simp only; omega, by simp only; omega, hsl, by simp only; omega, hu, .inr ⟨by simp only; omega, ?_⟩⟩ (by simp only; omega) ?_
     ·rcases hst with ⟨e1, e2⟩ | ⟨e1, e2⟩
      ·rw [← e2, ← e1]; exact hg9
      ·exact e2
     dsimp only
     refine Gh.tm ?_
     repeat' (first | exact Holds.nil _ _ | refine Holds.cons (Wk.refl _ _) ?_ | refine Holds.cons (Wk.of_eq ?_) ?_)
  ·have hls1 := True.intro
   obtain ⟨k, hkk⟩ : ∃ k, k = j1 := ⟨_, rfl⟩
   have hkid : kid lt3 e000 l m.toNat i.toNat = k.toNat := by
    rw [kid, if_neg (by omega), hkk, hj1]; omega
   subst hkk
   have hg9 : goesK lt3 e000 l m.toNat i.toNat = lt3 (l.getD k.toNat e000) (l.getD i.toNat e000) := by rw [goesK, hkid, decide_eq_true (by omega), Bool.true_and]
   have hls2 := hls l k i hl (by omega) (by omega) (by omega) (by omega)
   have hsw2 := hsw l i k hl (by omega) (by omega) (by omega) (by omega)
   obtain ⟨b, hb0⟩ : ∃ b, b = lt3 (l.getD k.toNat e000) (l.getD i.toNat e000) := ⟨_, rfl⟩
   obtain ⟨s, hs0⟩ : ∃ s, s = swpL e000 l i.toNat k.toNat := ⟨_, rfl⟩
   obtain ⟨f, rfl⟩ : ∃ f', f = f' + 1 := ⟨f - 1, by omega⟩
   rw [← hb0] at hg9
   rw [downL, hg9, hkid, ← hs0] at hu
   have hsl : n = (s.length : Nat) := by rw [hs0, swpL_len]; exact hl
   rw [← hb0] at hls2
   rw [← hs0] at hsw2
   cases b
   ·simp only [Bool.false_eq_true, if_false] at hu
    subst hu
    (conv => cbv)
    repeat' (first | assumption | ((first | rw [hm1] | rw [ha1] | rw [ha2] | refine hk.callA hls1 ?_ | refine hk.callA hls2 ?_ | refine hx _ _ ?_ | refine stp ?_ | refine stpB (fun _ => ?_) (fun _ => ?_)) <;> (conv => cbv)) | exact stpF | fail)
    all_goals first
     | (refine hk.fin1 (congrArg _ ?_)
        rw [hk.c2_gtr, hB]
        rcases hst with ⟨e1, e2⟩ | ⟨e1, e2⟩
        ·rw [← e2, ← e1, hg9, decide_eq_false (by omega)]
        ·rw [e2, decide_eq_true (by omega)])
     | skip
   ·simp only [if_true] at hu
    (conv => cbv)
    repeat' (first | assumption | ((first | rw [hm1] | rw [ha1] | rw [ha2] | refine hk.callA hls1 ?_ | refine hk.callA hls2 ?_ | refine hk.callA hsw2 ?_ | refine stp ?_ | refine stpB (fun _ => ?_) (fun _ => ?_)) <;> (conv => cbv)) | exact stpF | fail)
    refine hb (k, s, f) _ ⟨by simp only; omega, by simp only; omega, hsl, by simp only; omega, hu, .inr ⟨by simp only; omega, ?_⟩⟩ (by simp only; omega) ?_
    ·rcases hst with ⟨e1, e2⟩ | ⟨e1, e2⟩
     ·rw [← e2, ← e1]; exact hg9
     ·exact e2
    dsimp only
    refine Gh.tm ?_
    repeat' (first | exact Holds.nil _ _ | refine Holds.cons (Wk.refl _ _) ?_ | refine Holds.cons (Wk.of_eq ?_) ?_)
 ·have hg9 : goesK lt3 e000 l m.toNat i.toNat = false := by rw [goesK, decide_eq_false (by omega), Bool.false_and]
  have e : l = R := by
   rw [← hu]
   cases f with
   | zero => rfl
   | succ f => rw [downL, hg9]; rfl
  subst e
  (conv => cbv)
  repeat' (first | assumption | ((first | rw [hm1] | rw [ha1] | rw [ha2] | refine hx _ _ ?_ | refine stp ?_ | refine stpB (fun _ => ?_) (fun _ => ?_)) <;> (conv => cbv)) | exact stpF | fail)
  all_goals first
   | (refine hk.fin1 (congrArg _ ?_)
      rw [hk.c2_gtr, hB]
      rcases hst with ⟨e1, e2⟩ | ⟨e1, e2⟩
      ·rw [← e2, ← e1, hg9, decide_eq_false (by omega)]
      ·rw [e2, decide_eq_true (by omega)])
   | skip
theorem lHinit_spec (X : List Lt3 → List AVal) (hX : ∀ l, X l = l.map ltr) (g : Nat) (n : Int) (L : List Lt3) (hn : n = (L.length : Nat)) (h1 : n ≤ 10000) : Does PP 92 [QL] (HQl g n (X L)) (Is (.tup []) (HQl g n (X (initL lt3 e000 (n.toNat / 2) L n.toNat)))) := by
 have hle := llen_spec g n (X L) (by rw [hX, List.length_map]; exact hn)
 have hdn := fun (l : List Lt3) (i : Int) (hl : n = (l.length : Nat)) a b => ldown_spec X hX g n i n l hl (by omega) a b (Int.le_refl _)
 obtain ⟨R, hR⟩ : ∃ R, R = initL lt3 e000 (n.toNat / 2) L n.toNat := ⟨_, rfl⟩
 rw [← hR]
 clear hX
 refine wlk Tryz.f92 ?_
 unhygienic intros
 obtain ⟨m, hm⟩ : ∃ m : Int, m = n / 2 := ⟨_, rfl⟩
 have hq : i2 .quo .i64 n 2 = m := by rw [hk.i2_quo, Int.tdiv_eq_ediv_of_nonneg (by omega), ← hm]; exact wrap64 (by omega) (by omega)
 obtain ⟨m1, hm1⟩ : ∃ m1 : Int, m1 = m - 1 := ⟨_, rfl⟩
 have hsu : i2 .sub .i64 m 1 = m1 := by rw [hk.sub64 _ _ (by omega) (by omega)]; exact hm1.symm
 (conv => cbv)
 repeat' (first | assumption | ((first | rw [hq] | rw [hsu] | refine hk.callA hle ?_ | refine stp ?_ | refine stpB (fun _ => ?_) (fun _ => ?_)) <;> (conv => cbv)) | exact stpF | fail)
 refine hk.loopI (loop_rule (α := Int × List Lt3) (fun x => [(0, .iface 129 (.ptr 2 0)), (2, .int .i64 n), (3, .int .i64 x.1)]) (fun x => [.box [.int .i64 0, .int .i64 0], .rw g (.gl (.rc [.int .i64, .int .i64, .int .i64]) (X x.2)), .box [.sl 1 g 0 n]])
  (fun x => -1 ≤ x.1 ∧ x.1 < m ∧ n = (x.2.length : Nat) ∧ initL lt3 e000 (x.1 + 1).toNat x.2 n.toNat = R) (fun x => (x.1 + 1).toNat) (m1, L) ⟨by simp only; omega, by simp only; omega, hn, by simp only; rw [show (m1 + 1).toNat = n.toNat / 2 by omega]; exact hR.symm⟩ ?_ ?_)
 ·exact ghT
 intro ⟨i, l⟩ ⟨hi, hi2, hl, hu⟩ Q' hb hx hr
 simp only at hi hi2 hl hu
 dsimp only
 by_cases hi0 : 0 ≤ i
 ·have hdn := hdn l i hl hi0 (by omega)
  obtain ⟨i1, hi1⟩ : ∃ i1, i1 = i - 1 := ⟨_, rfl⟩
  have hsu2 : i2 .sub .i64 i 1 = i1 := by rw [hk.sub64 _ _ (by omega) (by omega)]; exact hi1.symm
  rw [show (i + 1).toNat = i.toNat + 1 by omega, initL] at hu
  obtain ⟨t, ht⟩ : ∃ t, t = downL lt3 e000 n.toNat l n.toNat i.toNat := ⟨_, rfl⟩
  obtain ⟨b, hb0⟩ : ∃ t, t = goesK lt3 e000 l n.toNat i.toNat := ⟨_, rfl⟩
  have htl : n = (t.length : Nat) := by rw [ht, downL_len]; exact hl
  rw [← ht] at hu hdn
  rw [← hb0] at hdn
  (conv => cbv)
  repeat' (first | assumption | ((first | rw [hsu2] | refine hk.callA hdn ?_ | refine stp ?_ | refine stpB (fun _ => ?_) (fun _ => ?_)) <;> (conv => cbv)) | exact stpF | fail)
  refine hb (i1, t) _ ⟨by simp only; omega, by simp only; omega, htl, by simp only; rw [show (i1 + 1).toNat = i.toNat by omega]; exact hu⟩ (by simp only; omega) ?_
  dsimp only
  refine Gh.tm ?_
  repeat' (first | exact Holds.nil _ _ | refine Holds.cons (Wk.refl _ _) ?_ | refine Holds.cons (Wk.of_eq ?_) ?_)
 ·have : i = -1 := by omega
  subst this
  have hu : l = R := hu
  subst hu
  (conv => cbv)
  repeat' (first | assumption | ((first | refine hx _ _ ?_ | refine stp ?_ | refine stpB (fun _ => ?_) (fun _ => ?_)) <;> (conv => cbv)) | exact stpF | fail)
end Go.Proofs.YtoeekjddeknmbaaGreat
