/-
  Contracts of functions of the program, proved over the abstract machine of the Al texts.
-/
import Derived.Test.YtoeekjddeknmbaaGreatTryTab
import Derived.Test.YtoeekjddeknmbaaGreatAl4
import Derived.Test.YtoeekjddeknmbaaGreatBaseX
import Derived.Test.YtoeekjddeknmbaaGreatPpX
import Derived.Test.YtoeekjddeknmbaaGreatPpZ
import Derived.Test.YtoeekjddeknmbaaGreatSlX
import Derived.Test.YtoeekjddeknmbaaGreatBsX4
import Derived.Test.YtoeekjddeknmbaaGreatPlX
import Derived.Test.YtoeekjddeknmbaaGreatRkX
import Derived.Test.YtoeekjddeknmbaaGreatBsX1
import Derived.Test.YtoeekjddeknmbaaGreatBsX3
import Derived.Test.YtoeekjddeknmbaaGreatBsX6
import Derived.Test.YtoeekjddeknmbaaGreatSlZ
import Derived.Test.YtoeekjddeknmbaaGreatBsX2
import Derived.Test.YtoeekjddeknmbaaGreatBsX5
import Derived.Test.YtoeekjddeknmbaaGreatBsX8
set_option maxHeartbeats 4000000
set_option maxRecDepth 20000
set_option linter.unusedSimpArgs false
set_option linter.unusedVariables false
open Go Go.AL
namespace Go.Proofs.YtoeekjddeknmbaaGreat
theorem bputN_spec (vl sh : Int) (ix : List Int) (lg gn pt : Int) (rc da : List Int) (d : Int) (bits SL : List Bool) (hb : bits.length < 800000) (hsh0 : 0 ≤ sh) (hsh1 : sh < 32) (hixl : ix.length ≤ 31)
 (hix : ∀ i, i < ix.length → -2 ^ (Int.toNat (7 - 1)) ≤ ix.getD i 0 ∧ ix.getD i 0 < 2 ^ (Int.toNat (7 - 1))) (hlg0 : 0 ≤ lg) (hlg1 : lg < 256) (hgn0 : 0 ≤ gn) (hgn1 : gn < 16)
 (hsl : Does PP 113 [.ptr 0 0, LI da, .agg [I pt, LI rc]] (wr (bits ++ nhead sh ix lg gn)) (Is (.bool true) (wr (bits ++ nhead sh ix lg gn ++ SL)))) :
 Does PP 76 [.ptr 0 0, .agg [I 2, I vl, I sh, LI ix, I lg, I gn, I pt, LI rc, LI da], I d] (wr bits) (Is (.tup []) (wr (bits ++ nhead sh ix lg gn ++ SL))) := by
 have hpa := fun h => parts_spec 2 vl sh ix lg gn pt rc da h
 have hn5 : (2 : Int) ^ Int.toNat 5 = 32 := by decide
 have hn8 : (2 : Int) ^ Int.toNat 8 = 256 := by decide
 have hn4 : (2 : Int) ^ Int.toNat 4 = 16 := by decide
 obtain ⟨B1, hB1⟩ : ∃ B, B = bits ++ bitsOf 2 2 := ⟨_, rfl⟩
 obtain ⟨B2, hB2⟩ : ∃ B, B = B1 ++ bitsOf sh.toNat 5 := ⟨_, rfl⟩
 obtain ⟨B3, hB3⟩ : ∃ B, B = B2 ++ bitsOf ix.length 5 := ⟨_, rfl⟩
 obtain ⟨B4, hB4⟩ : ∃ B, B = B3 ++ sbs 7 ix := ⟨_, rfl⟩
 obtain ⟨B5, hB5⟩ : ∃ B, B = B4 ++ lagbits lg gn := ⟨_, rfl⟩
 obtain ⟨B6, hB6⟩ : ∃ B, B = B5 ++ SL := ⟨_, rfl⟩
 have e5 : bits ++ nhead sh ix lg gn = B5 := by rw [hB5, hB4, hB3, hB2, hB1, nhead]; simp only [List.append_assoc]
 rw [e5, ← hB6] at hsl ⊢
 have l1 : B1.length = bits.length + 2 := by rw [hB1, List.length_append, bitsOf_len]
 have l2 : B2.length = bits.length + 7 := by rw [hB2, List.length_append, bitsOf_len, l1]
 have l3 : B3.length = bits.length + 12 := by rw [hB3, List.length_append, bitsOf_len, l2]
 have l4 : B4.length ≤ bits.length + 300 := by
  rw [hB4, List.length_append, sbs_len, l3]
  have : Int.toNat 7 * ix.length ≤ 7 * 31 := Nat.mul_le_mul (by decide) hixl
  omega
 have p1 := put_spec bits 2 2 (by omega) (by decide) (by decide) (by decide) (by decide)
 rw [show bits ++ bitsOf (Int.toNat 2) (Int.toNat 2) = B1 by rw [hB1]; rfl] at p1
 have p2 := put_spec B1 sh 5 (by omega) (by decide) (by decide) hsh0 (by omega)
 rw [show B1 ++ bitsOf sh.toNat (Int.toNat 5) = B2 by rw [hB2]; rfl] at p2
 have p3 := put_spec B2 (ix.length : Nat) 5 (by omega) (by decide) (by decide) (by omega) (by omega)
 rw [show B2 ++ bitsOf ((ix.length : Nat) : Int).toNat (Int.toNat 5) = B3 by rw [hB3]; rfl] at p3
 have p4 := signed_spec B3 ix 7 (by omega) (by omega) (by decide) (by decide) hix
 rw [← hB4] at p4
 obtain ⟨n, hn⟩ : ∃ n : Int, n = (ix.length : Nat) := ⟨_, rfl⟩
 rw [← hn] at p3
 obtain ⟨o0, o0', h0⟩ := wr_pair bits
 obtain ⟨o1, o1', h1⟩ := wr_pair B1
 obtain ⟨o2, o2', h2⟩ := wr_pair B2
 obtain ⟨o3, o3', h3⟩ := wr_pair B3
 obtain ⟨o4, o4', h4⟩ := wr_pair B4
 obtain ⟨o5, o5', h5⟩ := wr_pair B5
 obtain ⟨o6, o6', h6⟩ := wr_pair B6
 have hlow := wr_lowp B6
 rw [h6] at hlow
 have q1 := fun G => wr_frameG G p1 rfl rfl rfl
 have q2 := fun G => wr_frameG G p2 rfl rfl rfl
 have q3 := fun G => wr_frameG G p3 rfl rfl rfl
 have q4 := fun G => wr_frameG G p4 rfl rfl rfl
 have q6 := fun G => wr_frameG G hsl rfl rfl rfl
 simp only [h0, h1, h2, h3, h4, h5, h6, List.cons_append, List.nil_append] at q1 q2 q3 q4 q6
 by_cases hz : lg = 0
 ·have p5 := put_spec B4 0 1 (by omega) (by decide) (by decide) (by decide) (by decide)
  rw [show B4 ++ bitsOf (Int.toNat 0) (Int.toNat 1) = B5 by rw [hB5, lagbits, if_pos hz]; rfl] at p5
  have q5 := fun G => wr_frameG G p5 rfl rfl rfl
  simp only [h4, h5, List.cons_append, List.nil_append] at q5
  rw [h0, h6]
  subst hz
  clear p1 p2 p3 p4 p5 hsl hix hB1 hB2 hB3 hB4 hB5 hB6 e5 l1 l2 l3 l4 h0 h1 h2 h3 h4 h5 h6
  refine wlkS (fun f => Nat.beq f 113) Tryz.f76 ?_
  unhygienic intros
  have hc2 : cv .u64 2 = 2 := by rw [hk.cv_eq]; rfl
  have hcs : cv .u64 sh = sh := by rw [hk.cv_eq]; exact wrapu64 (by omega) (by omega)
  have hln : lnI ix = n := by rw [hk.lnI_eq]; omega
  have hcn : cv .u64 n = n := by rw [hk.cv_eq]; exact wrapu64 (by omega) (by omega)
  (conv => cbv)
  repeat' (first | assumption | ((first | rw [hc2] | rw [hcs] | rw [hln] | rw [hcn] | refine hk.callA (q1 _) ?_ | refine hk.callA (q2 _) ?_ | refine hk.callA (q3 _) ?_ | refine hk.callA (q4 _) ?_ | refine hk.callA (q5 _) ?_ | refine hk.callA (q6 _) ?_ | refine hk.callS (q6 _) ?_ | refine stp ?_ | refine stpB (fun _ => ?_) (fun _ => ?_)) <;> (conv => cbv)) | exact stpF | fail)
  all_goals first
   | exact hk.finI (fin_lowN 2 (Nat.le_refl 2) (Wk.refl _ _) rfl hlow ⟨rfl, rfl⟩)
   | skip
 ·obtain ⟨C1, hC1⟩ : ∃ B, B = B4 ++ bitsOf 1 1 := ⟨_, rfl⟩
  obtain ⟨C2, hC2⟩ : ∃ B, B = C1 ++ bitsOf lg.toNat 8 := ⟨_, rfl⟩
  have m1 : C1.length ≤ bits.length + 301 := by rw [hC1, List.length_append, bitsOf_len]; omega
  have m2 : C2.length ≤ bits.length + 309 := by rw [hC2, List.length_append, bitsOf_len]; omega
  have p5 := put_spec B4 1 1 (by omega) (by decide) (by decide) (by decide) (by decide)
  rw [show B4 ++ bitsOf (Int.toNat 1) (Int.toNat 1) = C1 by rw [hC1]; rfl] at p5
  have p51 := put_spec C1 lg 8 (by omega) (by decide) (by decide) hlg0 (by omega)
  rw [show C1 ++ bitsOf lg.toNat (Int.toNat 8) = C2 by rw [hC2]; rfl] at p51
  have p52 := put_spec C2 gn 4 (by omega) (by decide) (by decide) hgn0 (by omega)
  rw [show C2 ++ bitsOf gn.toNat (Int.toNat 4) = B5 by rw [hB5, lagbits, if_neg hz, hC2, hC1]; simp only [List.append_assoc]; rfl] at p52
  obtain ⟨s1, s1', k1⟩ := wr_pair C1
  obtain ⟨s2, s2', k2⟩ := wr_pair C2
  have q5 := fun G => wr_frameG G p5 rfl rfl rfl
  have q51 := fun G => wr_frameG G p51 rfl rfl rfl
  have q52 := fun G => wr_frameG G p52 rfl rfl rfl
  simp only [h4, h5, k1, k2, List.cons_append, List.nil_append] at q5 q51 q52
  rw [h0, h6]
  clear p1 p2 p3 p4 p5 p51 p52 hsl hix hB1 hB2 hB3 hB4 hB5 hB6 hC1 hC2 e5 l1 l2 l3 l4 m1 m2 h0 h1 h2 h3 h4 h5 h6 k1 k2
  refine wlkS (fun f => Nat.beq f 113) Tryz.f76 ?_
  unhygienic intros
  have hc2 : cv .u64 2 = 2 := by rw [hk.cv_eq]; rfl
  have hcs : cv .u64 sh = sh := by rw [hk.cv_eq]; exact wrapu64 (by omega) (by omega)
  have hln : lnI ix = n := by rw [hk.lnI_eq]; omega
  have hcn : cv .u64 n = n := by rw [hk.cv_eq]; exact wrapu64 (by omega) (by omega)
  have hcl : cv .u64 lg = lg := by rw [hk.cv_eq]; exact wrapu64 (by omega) (by omega)
  have hcg : cv .u64 gn = gn := by rw [hk.cv_eq]; exact wrapu64 (by omega) (by omega)
  (conv => cbv)
  repeat' (first | assumption | ((first | rw [hc2] | rw [hcs] | rw [hln] | rw [hcn] | rw [hcl] | rw [hcg] | refine hk.callA (q1 _) ?_ | refine hk.callA (q2 _) ?_ | refine hk.callA (q3 _) ?_ | refine hk.callA (q4 _) ?_ | refine hk.callA (q5 _) ?_ | refine hk.callA (q51 _) ?_ | refine hk.callA (q52 _) ?_ | refine hk.callA (q6 _) ?_ | refine hk.callS (q6 _) ?_ | refine stp ?_ | refine stpB (fun _ => ?_) (fun _ => ?_)) <;> (conv => cbv)) | exact stpF | fail)
  all_goals first
   | exact hk.finI (fin_lowN 2 (Nat.le_refl 2) (Wk.refl _ _) rfl hlow ⟨rfl, rfl⟩)
   | skip
theorem pgood_spec (l : List Int) (p : Int) (ks : List Int) (h : Heap) (hl : l.length ≤ 1024) (hkl : ks.length ≤ 9223372036854775807) (hp : partsB (l.length : Nat) p ks = true) (hf : l.any farP = false) :
 Does PP 128 [.agg [I p, LI ks], LI l] h (Is (.bool true) h) := by
 obtain ⟨n, hn⟩ : ∃ n : Int, n = (l.length : Nat) := ⟨_, rfl⟩
 rw [← hn] at hp
 have hg := fun h => sgood_spec n p ks h hkl
 rw [hp] at hg
 have hc := fun h => contains_spec l 120 [] farP h (by omega) (fun n => sfar_spec n h)
 rw [hf] at hc
 clear hp hf
 refine pure0 ?_ rfl rfl h
 refine wlk Tryz.f128 ?_
 unhygienic intros
 have hln : lnI l = n := by rw [hk.lnI_eq]; omega
 (conv => cbv)
 repeat' (first | assumption | ((first | rw [hln] | refine stp ?_ | refine stpB (fun _ => ?_) (fun _ => ?_)) <;> (conv => cbv)) | exact stpF | fail)
 all_goals first
  | exact hk.fin0 rfl rfl (Wk.refl _ _)
  | exact hk.fin0 rfl rfl (Wk.of_eq (by rw [hk.bn_eq]; rfl))
  | skip
theorem bputT_spec (vl sh : Int) (ix : List Int) (lg gn pt : Int) (rc da : List Int) (n d : Int) (bits : List Bool) (hb : bits.length < 100000) (hf : formE 2 vl sh ix lg gn pt rc da n d = 0) (hd : d ≤ 26) (hn : n ≤ 1024) (hrl : rc.length ≤ 9223372036854775807) :
 Does PP 76 [.ptr 0 0, .agg [I 2, I vl, I sh, LI ix, I lg, I gn, I pt, LI rc, LI da], I d] (wr bits) (Is (.tup []) (wr (bits ++ nbits sh ix lg gn pt rc da))) := by
 obtain ⟨f1, f2, f3, f4, f5, f6, f7⟩ := form_two hf hd hn
 obtain ⟨_, g1, g2⟩ := form_two2 hf
 rw [← f7] at g1
 have gg := g1
 unfold partsB at g1
 simp only [Bool.and_eq_true, decide_eq_true_eq] at g1
 obtain ⟨⟨w1, w2⟩, w3⟩ := g1
 obtain ⟨_, _, p0, p3, pm⟩ := whole_iff.1 w1
 rw [allP_iff] at w3
 have hks : ∀ i, i < rc.length → 0 ≤ rc.getD i 0 ∧ rc.getD i 0 ≤ 24 := fun i hi => by
  have := w3 i hi
  simp only [kP, Bool.or_eq_false_iff, decide_eq_false_iff_not] at this
  omega
 have hfar : ∀ x ∈ da, -8589934592 ≤ x ∧ x < 8589934592 := fun x hx => by
  rw [List.any_eq_false] at g2
  have := g2 x hx
  rw [farP, Bool.or_eq_true, decide_eq_true_eq, decide_eq_true_eq] at this
  omega
 have hs : (da.length / 2 ^ pt.toNat) * 2 ^ pt.toNat = da.length := by
  have : ((da.length % 2 ^ pt.toNat : Nat) : Int) = 0 := by
   rw [Int.natCast_emod, ← Int.tmod_eq_emod_of_nonneg (by omega)]
   simpa using pm
  exact Nat.div_mul_cancel (Nat.dvd_of_mod_eq_zero (by omega))
 have hrc8 : rc.length ≤ 8 := by
  have : ∀ k : Nat, k ≤ 3 → (2 : Int) ^ k ≤ 8 := by decide
  have := this pt.toNat (by omega)
  omega
 have hsl1024 : da.length / 2 ^ pt.toNat ≤ 1024 := Nat.le_trans (Nat.div_le_self _ _) f6
 have hbl : ∀ i, i ≤ rc.length → (pcodes da rc (da.length / 2 ^ pt.toNat) i).length < 1000000 := fun i hi => by
  have h1 := pcodes_len da rc (da.length / 2 ^ pt.toNat) (fun i hi => (hks i hi).2) hfar i hi
  have h2 : i * (5 + 59 * (da.length / 2 ^ pt.toNat)) ≤ 8 * (5 + 59 * 1024) := Nat.mul_le_mul (by omega) (by omega)
  omega
 have hlb : (lagbits lg gn).length ≤ 13 := by unfold lagbits; split <;> simp [bitsOf_len]
 have hnh : (nhead sh ix lg gn).length ≤ 200 := by
  rw [nhead, List.length_append, List.length_append, List.length_append, List.length_append, bitsOf_len, bitsOf_len, bitsOf_len, sbs_len]
  have : Int.toNat 7 * ix.length ≤ 7 * 16 := Nat.mul_le_mul (by decide) f3.1
  omega
 have hsp := slideput_spec da pt rc (bits ++ nhead sh ix lg gn) f6 (by rw [List.length_append]; omega) (fun h => pgood_spec da pt rc h f6 hrl gg g2) p0 p3 w2 hs hks hfar hbl
 have htb : (lg = 0 ∧ gn = 0) ∨ (1 ≤ lg ∧ lg ≤ 255 ∧ 1 ≤ gn ∧ gn ≤ 15) := by simpa [termB] using f4
 have hix2 : ∀ i, i < ix.length → -2 ^ (Int.toNat (7 - 1)) ≤ ix.getD i 0 ∧ ix.getD i 0 < 2 ^ (Int.toNat (7 - 1)) := fun i hi => by
  have h64 : (2 : Int) ^ (Int.toNat (7 - 1)) = 64 := by decide
  have := f3.2 i hi
  omega
 rw [nbits]
 have := bputN_spec vl sh ix lg gn pt rc da d bits (bitsOf pt.toNat 2 ++ pcodes da rc (da.length / 2 ^ pt.toNat) rc.length) (by omega) f1 (by omega) (by have := f3.1; omega) hix2 (by omega) (by omega) (by omega) (by omega) (by
  rw [List.append_assoc] at hsp ⊢
  simp only [List.append_assoc] at hsp ⊢
  exact hsp)
 simp only [List.append_assoc] at this ⊢
 exact this
theorem bsamples_errT (vl sh : Int) (ix : List Int) (lg gn pt : Int) (rc da : List Int) (n d : Int) (h : Heap) (h1 : 1 ≤ n) (h2 : n ≤ 1024) (h3 : 8 ≤ d) (h4 : d ≤ 26)
 (hl1 : ix.length ≤ 9223372036854775807) (hl2 : rc.length ≤ 9223372036854775807) (hl3 : da.length ≤ 9223372036854775807) (hf : formE 2 vl sh ix lg gn pt rc da n d = 0)
 (hE : onE lg gn da = 0) (hE2 : smE ix (pw d - 1) (onL lg gn da) = 0) (hok : (nmL sh ix lg gn da d).any (lacksP d) = false) :
 Does PP 14 [.agg [I 2, I vl, I sh, LI ix, I lg, I gn, I pt, LI rc, LI da], I n, I d] h (Is (.tup [.junk, I 0]) h) := by
 refine pure0 ?_ rfl rfl h
 obtain ⟨R, hR⟩ : ∃ R, R = nmL sh ix lg gn da d := ⟨_, rfl⟩
 have h := bsamples_two vl sh ix lg gn pt rc da n d h1 h2 h3 h4 hl1 hl2 hl3 hf hE hE2 hok
 rw [← hR] at h
 refine h.fin (fun r h' ⟨e1, e2⟩ => ?_)
 subst e1
 subst e2
 have hw : Wk [AObj.box [I 2, I vl, I sh, LI ix, I lg, I gn, I pt, LI rc, LI da], AObj.box [I 2, I vl, I sh, LI ix, I lg, I gn, I pt, LI rc, LI da], AObj.rw R.length (LX.il IntKind.i64 R)] (.tup [.sl 2 R.length 0 (R.length : Nat), I 0]) (.tup [.junk, I 0]) := Wk.tup ⟨Wk.junk _ _, .refl _ _, trivial⟩
 exact fin_nil hw rfl ⟨rfl, rfl⟩
theorem bPutT_spec (vl sh : Int) (ix : List Int) (lg gn pt : Int) (rc da : List Int) (n d : Int) (bits : List Bool) (hb : bits.length < 100000) (h1 : 1 ≤ n) (h2 : n ≤ 1024) (h3 : 8 ≤ d) (h4 : d ≤ 26)
 (hl1 : ix.length ≤ 9223372036854775807) (hl2 : rc.length ≤ 9223372036854775807) (hl3 : da.length ≤ 9223372036854775807) (hf : formE 2 vl sh ix lg gn pt rc da n d = 0)
 (hE : onE lg gn da = 0) (hE2 : smE ix (pw d - 1) (onL lg gn da) = 0) (hok : (nmL sh ix lg gn da d).any (lacksP d) = false) :
 Does PP 38 [.ptr 0 0, .agg [I 2, I vl, I sh, LI ix, I lg, I gn, I pt, LI rc, LI da], I n, I d] (wr bits) (Is (.bool true) (wr (bits ++ nbits sh ix lg gn pt rc da))) :=
 bPut_spec 2 vl sh ix lg gn pt rc da n d bits _ (fun h => bsamples_errT vl sh ix lg gn pt rc da n d h h1 h2 h3 h4 hl1 hl2 hl3 hf hE hE2 hok) (bputT_spec vl sh ix lg gn pt rc da n d bits hb hf h4 h2 hl2)
end Go.Proofs.YtoeekjddeknmbaaGreat
