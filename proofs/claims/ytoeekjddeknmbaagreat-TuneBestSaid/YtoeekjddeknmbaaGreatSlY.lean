/-
  Contracts of functions of the program, proved over the abstract machine of the Al texts.
-/
import Derived.Test.YtoeekjddeknmbaaGreatTryTab
import Derived.Test.YtoeekjddeknmbaaGreatAl4
import Derived.Test.YtoeekjddeknmbaaGreatBaseX
import Derived.Test.YtoeekjddeknmbaaGreatPpZ
import Derived.Test.YtoeekjddeknmbaaGreatSlX
import Derived.Test.YtoeekjddeknmbaaGreatPpX
set_option maxHeartbeats 4000000
set_option maxRecDepth 20000
set_option linter.unusedSimpArgs false
set_option linter.unusedVariables false
open Go Go.AL
namespace Go.Proofs.YtoeekjddeknmbaaGreat
theorem wzeros_spec (bits : List Bool) (n : Int) (hl : bits.length < 100000000) (h0 : 0 ≤ n) (h1 : n ≤ 1000) : Does PP 139 [.ptr 0 0, I n] (wr bits) (Is (.bool true) (wr (bits ++ zb n))) := by
 obtain ⟨H, hH⟩ : ∃ H : Int → Heap, ∀ i, H i = wr (bits ++ List.replicate i.toNat false) := ⟨_, fun _ => rfl⟩
 have hbf : ∀ i : Int, 0 ≤ i → i < n → Does PP 127 [.ptr 0 0, .bool false] (H i) (Is (.tup []) (H (i + 1))) := fun i a b => by
  have := bit_spec (bits ++ List.replicate i.toNat false) false (by rw [List.length_append, List.length_replicate]; omega)
  rw [hH, hH, show (i + 1).toNat = i.toNat + 1 by omega, List.replicate_succ', ← List.append_assoc]
  exact this
 have hbt : Does PP 127 [.ptr 0 0, .bool true] (H n) (Is (.tup []) (wr (bits ++ zb n))) := by
  have := bit_spec (bits ++ List.replicate n.toNat false) true (by rw [List.length_append, List.length_replicate]; omega)
  rw [hH, zb, ← List.append_assoc]
  exact this
 obtain ⟨H1, hH1⟩ : ∃ H1, H1 = wr (bits ++ zb n) := ⟨_, rfl⟩
 have hH0 : wr bits = H 0 := by rw [hH]; simp
 rw [← hH1] at hbt ⊢
 rw [hH0]
 clear hH hH0 hH1
 refine wlk Tryz.f139 ?_
 unhygienic intros
 (conv => cbv)
 repeat' (first | assumption | ((first | refine stp ?_ | refine stpB (fun _ => ?_) (fun _ => ?_)) <;> (conv => cbv)) | exact stpF | fail)
 refine hk.loopI (loop_rule (α := Int) (fun i => [(0, .ptr 0 0), (4, .bool false), (11, .int .i64 n), (12, .int .i64 i)]) (fun i => H i)
  (fun i => 0 ≤ i ∧ i ≤ n) (fun i => (n - i).toNat) 0 ⟨by omega, by omega⟩ ?_ ?_)
 ·exact ghT
 intro i ⟨hi, hi2⟩ Q' hb hx hr
 by_cases hin : i < n
 ·have hbf := hbf i hi hin
  obtain ⟨H2, hH2⟩ : ∃ x, x = H (i + 1) := ⟨_, rfl⟩
  rw [← hH2] at hbf
  (conv => cbv)
  repeat' (first | assumption | ((first | refine hk.callA hbf ?_ | refine stp ?_ | refine stpB (fun _ => ?_) (fun _ => ?_)) <;> (conv => cbv)) | exact stpF | fail)
  refine hb (i + 1) _ ⟨by omega, by omega⟩ (by omega) ?_
  rw [← hH2]
  refine Gh.tm ?_
  repeat' (first | exact Holds.nil _ _ | refine Holds.cons (Wk.refl _ _) ?_ | refine Holds.cons (Wk.of_eq ?_) ?_)
  all_goals first
   | (rw [← hk.add64 i 1 (by omega) (by omega)]; rfl)
   | rfl
   | skip
 ·have : i = n := by omega
  subst this
  (conv => cbv)
  repeat' (first | assumption | ((first | refine hx _ _ ?_ | refine hk.callA hbt ?_ | refine stp ?_ | refine stpB (fun _ => ?_) (fun _ => ?_)) <;> (conv => cbv)) | exact stpF | fail)
theorem fold_spec (n : Int) (h : Heap) (h0 : -8589934592 ≤ n) (h1 : n < 8589934592) : Does PP 138 [I n] h (Is (I (foldZ n)) h) := by
 obtain ⟨r, hr⟩ : ∃ r, r = foldZ n := ⟨_, rfl⟩
 rw [← hr]
 have hr1 : n < 0 → r = -2 * n - 1 := fun h => by rw [hr, foldZ, if_pos h]
 have hr2 : ¬ n < 0 → r = 2 * n := fun h => by rw [hr, foldZ, if_neg h]
 clear hr
 refine pure0 ?_ rfl rfl h
 refine wlk Tryz.f138 ?_
 unhygienic intros
 obtain ⟨a, ha⟩ : ∃ a, a = -2 * n := ⟨_, rfl⟩
 obtain ⟨b, hb⟩ : ∃ a, a = 2 * n := ⟨_, rfl⟩
 have hm : i2 .mul .i64 (-2) n = a := by rw [hk.mul64 _ _ (by omega) (by omega)]; exact ha.symm
 have hm2 : i2 .mul .i64 2 n = b := by rw [hk.mul64 _ _ (by omega) (by omega)]; exact hb.symm
 have hs : i2 .sub .i64 a 1 = a - 1 := hk.sub64 _ _ (by omega) (by omega)
 by_cases hn : n < 0
 ·have hr1 := hr1 hn
  obtain ⟨a1, ha1⟩ : ∃ x, x = a - 1 := ⟨_, rfl⟩
  rw [← ha1] at hs
  have : r = a1 := by omega
  subst this
  (conv => cbv)
  repeat' (first | assumption | ((first | rw [hm] | rw [hs] | rw [hm2] | refine stp ?_ | refine stpB (fun _ => ?_) (fun _ => ?_)) <;> (conv => cbv)) | exact stpF | fail)
  all_goals first
   | exact hk.fin0 rfl rfl (Wk.refl _ _)
   | skip
 ·have hr2 := hr2 hn
  have : r = b := by omega
  subst this
  (conv => cbv)
  repeat' (first | assumption | ((first | rw [hm] | rw [hs] | rw [hm2] | refine stp ?_ | refine stpB (fun _ => ?_) (fun _ => ?_)) <;> (conv => cbv)) | exact stpF | fail)
  all_goals first
   | exact hk.fin0 rfl rfl (Wk.refl _ _)
   | skip
theorem may_spec (n k : Int) (h : Heap) (h0 : -8589934592 ≤ n) (h1 : n < 8589934592) (h2 : 0 ≤ k) (h3 : k ≤ 24) : Does PP 137 [I n, I k] h (Is (.bool true) h) := by
 refine pure0 ?_ rfl rfl h
 refine wlk Tryz.f137 ?_
 unhygienic intros
 (conv => cbv)
 repeat' (first | assumption | ((first | refine stp ?_ | refine stpB (fun _ => ?_) (fun _ => ?_)) <;> (conv => cbv)) | exact stpF | fail)
 all_goals first
  | exact hk.fin0 rfl rfl (Wk.of_eq (by rw [hk.c2_leq, decide_eq_true (by omega)]))
  | exact hk.fin0 rfl rfl (Wk.refl _ _)
  | skip
theorem and_mask64 (v n : Nat) (h : v < 9223372036854775808) (hn : n ≤ 62) : rI2 .and .i64 (v : Int) (((2 ^ n - 1 : Nat)) : Int) = ((v % 2 ^ n : Nat) : Int) := by
 have hp : 2 ^ n ≤ 2 ^ 62 := Nat.pow_le_pow_right (by decide) hn
 have hp2 : 0 < 2 ^ n := Nat.pow_pos (by decide)
 have e : (BitVec.ofInt 64 (v : Int) &&& BitVec.ofInt 64 (((2 ^ n - 1 : Nat)) : Int)).toNat = v % 2 ^ n := by
  rw [BitVec.toNat_and, BitVec.toNat_ofInt, BitVec.toNat_ofInt]
  have e1 : ((v : Int) % ((2 ^ 64 : Nat) : Int)).toNat = v := by omega
  have e2 : ((((2 ^ n - 1 : Nat)) : Int) % ((2 ^ 64 : Nat) : Int)).toNat = 2 ^ n - 1 := by omega
  rw [e1, e2, Nat.and_two_pow_sub_one_eq_mod]
 have hm : v % 2 ^ n < 9223372036854775808 := Nat.lt_of_le_of_lt (Nat.mod_le _ _) h
 have : rI2 .and .i64 (v : Int) (((2 ^ n - 1 : Nat)) : Int) = IntKind.wrap .i64 (((BitVec.ofInt 64 (v : Int) &&& BitVec.ofInt 64 (((2 ^ n - 1 : Nat)) : Int)).toNat : Nat) : Int) := rfl
 rw [this, e]
 exact wrap64 (by omega) (by omega)
theorem riceput_spec (bits : List Bool) (n k : Int) (hl : bits.length < 10000000) (h0 : -8589934592 ≤ n) (h1 : n < 8589934592) (h2 : 0 ≤ k) (h3 : k ≤ 24) :
 Does PP 131 [.ptr 0 0, I n, I k] (wr bits) (Is (.bool true) (wr (bits ++ rcode n k))) := by
 obtain ⟨z0, z1⟩ := foldZ_range h0 h1
 have hmy := fun h => may_spec n k h h0 h1 h2 h3
 have hfo := fun h => fold_spec n h h0 h1
 have hrc : rcode n k = if foldZ n / 2 ^ k.toNat < 24 then zb (foldZ n / 2 ^ k.toNat) ++ bitsOf (foldZ n % 2 ^ k.toNat).toNat k.toNat else zb 24 ++ bitsOf (foldZ n).toNat 34 := rfl
 rw [hrc]
 obtain ⟨z, hz⟩ : ∃ z, z = foldZ n := ⟨_, rfl⟩
 simp only [← hz] at z0 z1 hfo ⊢
 clear hrc hz
 have hp0 : (0 : Int) < 2 ^ k.toNat := Int.pow_pos (by decide)
 have hpk : (2 : Int) ^ k.toNat ≤ 2 ^ 24 := by
  have := Nat.pow_le_pow_right (n := 2) (by decide) (show k.toNat ≤ 24 by omega)
  exact Int.ofNat_le.2 this
 have hsh := shr_pow z k.toNat z0 (by omega)
 rw [show ((k.toNat : Nat) : Int) = k by omega] at hsh
 obtain ⟨s1, _⟩ := shl_one k.toNat (by omega)
 rw [show ((k.toNat : Nat) : Int) = k by omega] at s1
 have hmask : rI2 .and .i64 z (2 ^ k.toNat - 1) = z % 2 ^ k.toNat := by
  have e1 : (2 : Int) ^ k.toNat - 1 = ((2 ^ k.toNat - 1 : Nat) : Int) := by
   have : 0 < 2 ^ k.toNat := Nat.pow_pos (by decide)
   have : ((2 ^ k.toNat : Nat) : Int) = 2 ^ k.toNat := by simp
   omega
  have e2 : z = ((z.toNat : Nat) : Int) := by omega
  rw [e1, e2, and_mask64 _ _ (by omega) (by omega)]
  simp
 have hq0 : 0 ≤ z / 2 ^ k.toNat := Int.ediv_nonneg z0 (by omega)
 have hm0 : 0 ≤ z % 2 ^ k.toNat := Int.emod_nonneg _ (by omega)
 have hm1 : z % 2 ^ k.toNat < 2 ^ k.toNat := Int.emod_lt_of_pos _ hp0
 obtain ⟨q, hq⟩ : ∃ q, q = z / 2 ^ k.toNat := ⟨_, rfl⟩
 obtain ⟨r, hr⟩ : ∃ q, q = z % 2 ^ k.toNat := ⟨_, rfl⟩
 rw [← hq] at hsh hq0 ⊢
 rw [← hr] at hmask hm0 hm1 ⊢
 by_cases hq24 : q < 24
 ·rw [if_pos hq24]
  have hz1 := wzeros_spec bits q (by omega) hq0 (by omega)
  have hz2 := put_spec (bits ++ zb q) r k (by rw [List.length_append, zb_len]; omega) h2 (by omega) hm0 hm1
  rw [List.append_assoc] at hz2
  obtain ⟨P, hP⟩ : ∃ P : Int, P = 2 ^ k.toNat := ⟨_, rfl⟩
  rw [← hP] at hpk hp0 s1 hmask hm1
  obtain ⟨P1, hP1⟩ : ∃ P1, P1 = P - 1 := ⟨_, rfl⟩
  rw [← hP1] at hmask
  obtain ⟨H0, hH0⟩ : ∃ H, H = wr bits := ⟨_, rfl⟩
  obtain ⟨H1, hH1⟩ : ∃ H, H = wr (bits ++ zb q) := ⟨_, rfl⟩
  obtain ⟨H2, hH2⟩ : ∃ H, H = wr (bits ++ (zb q ++ bitsOf r.toNat k.toNat)) := ⟨_, rfl⟩
  rw [← hH0, ← hH1] at hz1
  rw [← hH1, ← hH2] at hz2
  rw [← hH0, ← hH2]
  clear hH0 hH1 hH2 hP hq hr
  refine wlk Tryz.f131 ?_
  unhygienic intros
  have t1 : i2 .shr .i64 z k = q := by rw [hk.i2_eq]; exact hsh
  have t2 : i2 .shl .i64 1 k = P := by rw [hk.i2_eq]; exact s1
  have t3 : i2 .sub .i64 P 1 = P1 := by rw [hk.sub64 _ _ (by omega) (by omega)]; exact hP1.symm
  have t4 : i2 .and .i64 z P1 = r := by rw [hk.i2_eq]; exact hmask
  have t5 : cv .u64 r = r := by rw [hk.cv_eq]; exact wrapu64 (by omega) (by omega)
  clear hmask hsh s1
  (conv => cbv)
  repeat' (first | assumption | ((first | rw [t1] | rw [t2] | rw [t3] | rw [t4] | rw [t5] | refine hk.callA hz1 ?_ | refine hk.callA hz2 ?_ | refine stp ?_ | refine stpB (fun _ => ?_) (fun _ => ?_)) <;> (conv => cbv)) | exact stpF | fail)
 ·rw [if_neg hq24]
  have hz1 := wzeros_spec bits 24 (by omega) (by decide) (by decide)
  have hz2 := put_spec (bits ++ zb 24) z 34 (by rw [List.length_append, zb_len]; omega) (by decide) (by decide) z0 z1
  rw [List.append_assoc, show Int.toNat 34 = 34 from rfl] at hz2
  obtain ⟨H0, hH0⟩ : ∃ H, H = wr bits := ⟨_, rfl⟩
  obtain ⟨H1, hH1⟩ : ∃ H, H = wr (bits ++ zb 24) := ⟨_, rfl⟩
  obtain ⟨H2, hH2⟩ : ∃ H, H = wr (bits ++ (zb 24 ++ bitsOf z.toNat 34)) := ⟨_, rfl⟩
  rw [← hH0, ← hH1] at hz1
  rw [← hH1, ← hH2] at hz2
  rw [← hH0, ← hH2]
  clear hH0 hH1 hH2 hq hr hmask s1 hpk hp0 hm1
  refine wlk Tryz.f131 ?_
  unhygienic intros
  have t1 : i2 .shr .i64 z k = q := by rw [hk.i2_eq]; exact hsh
  have t5 : cv .u64 z = z := by rw [hk.cv_eq]; exact wrapu64 (by omega) (by omega)
  clear hsh
  (conv => cbv)
  repeat' (first | assumption | ((first | rw [t1] | rw [t5] | refine hk.callA hz1 ?_ | refine hk.callA hz2 ?_ | refine stp ?_ | refine stpB (fun _ => ?_) (fun _ => ?_)) <;> (conv => cbv)) | exact stpF | fail)
theorem part_spec (p : Int) (ks l : List Int) (i : Int) (h : Heap) (hl : l.length ≤ 1024) (h0 : 0 ≤ p) (h1 : p ≤ 12) (hi : 0 ≤ i) (hi2 : i < 2 ^ p.toNat) (hs : (l.length / 2 ^ p.toNat) * 2 ^ p.toNat = l.length) :
 Does PP 130 [.agg [I p, LI ks], LI l, I i] h (Is (LI (partL l (l.length / 2 ^ p.toNat) i.toNat)) h) := by
 have hp12 : (2 : Int) ^ p.toNat ≤ 2 ^ 12 := by
  have := Nat.pow_le_pow_right (n := 2) (by decide) (show p.toNat ≤ 12 by omega)
  exact Int.ofNat_le.2 this
 have hi9 : i < 4096 := by omega
 have hsh := shr_nat .i64 l.length p.toNat (by simp [IntKind.bits]; omega)
 rw [show ((p.toNat : Nat) : Int) = p by omega] at hsh
 obtain ⟨s, hs0⟩ : ∃ s, s = l.length / 2 ^ p.toNat := ⟨_, rfl⟩
 rw [← hs0] at hsh hs ⊢
 have hile : (i.toNat + 1) * s ≤ l.length := by
  rw [← hs, Nat.mul_comm s]
  refine Nat.mul_le_mul_right _ ?_
  have : i < ((2 ^ p.toNat : Nat) : Int) := by simpa using hi2
  omega
 obtain ⟨n, hn⟩ : ∃ n : Int, n = (l.length : Nat) := ⟨_, rfl⟩
 rw [← hn] at hsh
 obtain ⟨S, hS⟩ : ∃ S : Int, S = (s : Nat) := ⟨_, rfl⟩
 rw [← hS] at hsh
 have hm1 : i * S = ((i.toNat * s : Nat) : Int) := by rw [hS, Int.natCast_mul]; congr 1; omega
 have hm2 : (i + 1) * S = (((i.toNat + 1) * s : Nat) : Int) := by rw [hS, Int.natCast_mul]; congr 1; omega
 have hadd : (i.toNat + 1) * s = i.toNat * s + s := Nat.succ_mul _ _
 obtain ⟨R, hR⟩ : ∃ R, R = partL l s i.toNat := ⟨_, rfl⟩
 rw [← hR]
 obtain ⟨a, ha⟩ : ∃ a : Int, a = i * S := ⟨_, rfl⟩
 obtain ⟨b, hb⟩ : ∃ b : Int, b = (i + 1) * S := ⟨_, rfl⟩
 have hRe : (l.drop a.toNat).take (b - a).toNat = R := by
  rw [hR, partL, ha, hb, hm1, hm2]
  congr 1
  ·omega
 refine pure0 ?_ rfl rfl h
 refine wlk Tryz.f130 ?_
 unhygienic intros
 have hln : lnI l = n := by rw [hk.lnI_eq]; omega
 have t1 : i2 .shr .i64 n p = S := by rw [hk.i2_eq]; exact hsh
 have t2 : i2 .mul .i64 i S = a := by rw [hk.mul64 _ _ (by omega) (by omega)]; exact ha.symm
 obtain ⟨i1, hi1⟩ : ∃ i1, i1 = i + 1 := ⟨_, rfl⟩
 have t3 : i2 .add .i64 i 1 = i1 := by rw [hk.add64 _ _ (by omega) (by omega)]; exact hi1.symm
 have t4 : i2 .mul .i64 i1 S = b := by rw [hi1, hk.mul64 _ _ (by omega) (by omega)]; exact hb.symm
 have t5 : sbI l a b = R := by rw [hk.sbI_eq]; exact hRe
 have hab : 0 ≤ a ∧ a ≤ b ∧ b ≤ n := by omega
 clear hm1 hm2 hsh hRe hS ha hb hi1 hR
 (conv => cbv)
 repeat' (first | assumption | ((first | rw [hln] | rw [t1] | rw [t2] | rw [t3] | rw [t4] | rw [t5] | refine stp ?_ | refine stpB (fun _ => ?_) (fun _ => ?_)) <;> (conv => cbv)) | exact stpF | fail)
 all_goals first
  | exact hk.fin0 rfl rfl (Wk.refl _ _)
  | exact hk.fin0 rfl rfl (Wk.any _ _ _)
  | skip
abbrev ptC (p : Int) (ks : List Int) : AVal := .clo (.func 130) [.agg [I p, LI ks]] []
theorem each_clo (l : List Int) (m p : Int) (ks : List Int) : Does PP 129 [LI l, I m, ptC p ks] [] (Is (.clo (.func 136) [] [.ptr 1 0, .ptr 2 0, .ptr 0 0]) [.box [LI l], .box [I m], .box [ptC p ks]]) := by
 refine wlk Tryz.f129 ?_
 unhygienic intros
 (conv => cbv)
 repeat' (first | assumption | ((first | refine stp ?_ | refine stpB (fun _ => ?_) (fun _ => ?_)) <;> (conv => cbv)) | exact stpF | fail)
end Go.Proofs.YtoeekjddeknmbaaGreat
