/-
  Contracts of functions of the program, proved over the abstract machine of the Al texts.
-/
import Derived.Test.YtoeekjddeknmbaaGreatBaseX
import Derived.Test.YtoeekjddeknmbaaGreatTuX1
import Derived.Test.YtoeekjddeknmbaaGreatBsX1
import Derived.Test.YtoeekjddeknmbaaGreatGuX1
set_option maxHeartbeats 4000000
set_option maxRecDepth 20000
set_option linter.unusedSimpArgs false
set_option linter.unusedVariables false
open Go Go.AL
namespace Go.Proofs.YtoeekjddeknmbaaGreat
abbrev lad (n : Int) : AVal := .agg [.sl 0 1 0 n, .sl 1 1 0 n]
theorem wish_spec (f b : List Int) (n m : Int) (hn : n = (f.length : Nat)) (hnb : n = (b.length : Nat)) (hn2 : n ≤ 1024) (hf : Bd17 f) (hb : Bd17 b) (h0 : 0 ≤ m) (h1 : m ≤ 100) :
 Does PP 81 [lad n, I m] [.rw 1 (.il .i64 f), .rw 1 (.il .i64 b)] (Is (I (wishK f b m.toNat)) [.rw 1 (.il .i64 f), .rw 1 (.il .i64 b)]) := by
 obtain ⟨lo, hlo⟩ : ∃ x : Int, x = m + 1 := ⟨_, rfl⟩
 obtain ⟨J, hJ⟩ : ∃ x : Int, x = if n < lo then lo else n := ⟨_, rfl⟩
 have hJ2 : lo ≤ J ∧ n ≤ J ∧ (J = n ∨ J = lo) ∧ (J - lo).toNat = f.length - (m.toNat + 1) := by split at hJ <;> omega
 obtain ⟨N, hN⟩ : ∃ N : Int → Int, ∀ i, N i = wN f b (m.toNat + 1) (i - lo).toNat := ⟨_, fun _ => rfl⟩
 obtain ⟨D, hD⟩ : ∃ N : Int → Int, ∀ i, N i = wD f b (m.toNat + 1) (i - lo).toNat := ⟨_, fun _ => rfl⟩
 have hN0 : N lo = 0 := by rw [hN, show (lo - lo).toNat = 0 by omega]; rfl
 have hD0 : D lo = 0 := by rw [hD, show (lo - lo).toNat = 0 by omega]; rfl
 have hst : ∀ i : Int, lo ≤ i → i < n → ∃ P Q1 Q2 : Int, P = f.getD i.toNat 0 * b.getD (i - 1).toNat 0 ∧ Q1 = f.getD i.toNat 0 * f.getD i.toNat 0 ∧ Q2 = b.getD (i - 1).toNat 0 * b.getD (i - 1).toNat 0 ∧ N (i + 1) = N i + P ∧ D (i + 1) = D i + (Q1 + Q2) ∧
  (-17179869184 ≤ P ∧ P ≤ 17179869184) ∧ (0 ≤ Q1 ∧ Q1 ≤ 17179869184) ∧ (0 ≤ Q2 ∧ Q2 ≤ 17179869184) := fun i a c => by
  refine ⟨_, _, _, rfl, rfl, rfl, ?_, ?_, mul17 (bd17_get hf _) (bd17_get hb _), sq17 (bd17_get hf _), sq17 (bd17_get hb _)⟩
  ·rw [hN, hN, show (i + 1 - lo).toNat = (i - lo).toNat + 1 by omega, wN, show m.toNat + 1 + (i - lo).toNat = i.toNat by omega, show i.toNat - 1 = (i - 1).toNat by omega]
  ·rw [hD, hD, show (i + 1 - lo).toNat = (i - lo).toNat + 1 by omega, wD, show m.toNat + 1 + (i - lo).toNat = i.toNat by omega, show i.toNat - 1 = (i - 1).toNat by omega]
 have hNr : ∀ i : Int, lo ≤ i → i ≤ J → -20000000000000 ≤ N i ∧ N i ≤ 20000000000000 := fun i a c => by
  have := wN_rg hf hb (m.toNat + 1) (i - lo).toNat
  rw [hN]; omega
 have hDr : ∀ i : Int, lo ≤ i → i ≤ J → 0 ≤ D i ∧ D i ≤ 40000000000000 := fun i a c => by
  have := wD_rg hf hb (m.toNat + 1) (i - lo).toNat
  rw [hD]; omega
 have hrs : wishK f b m.toNat = if D J = 0 then 0 else (-32768 * N J).tdiv (D J) := by rw [hD, hN, hJ2.2.2.2]; rfl
 have hrr := wishK_rg hf hb m.toNat (by omega)
 rw [hrs] at hrr ⊢
 obtain ⟨r, hr0⟩ : ∃ r, r = if D J = 0 then 0 else (-32768 * N J).tdiv (D J) := ⟨_, rfl⟩
 rw [← hr0] at hrr ⊢
 clear hrs hN hD hf hb
 refine wlk Tryz.f81 ?_
 unhygienic intros
 have hlo1 : i2 .add .i64 m 1 = lo := by rw [hlo]; exact hk.add64 _ _ (by omega) (by omega)
 have hs0 : sbt n 0 = n := by rw [hk.sb_eq]; omega
 have had : ∀ i, 0 ≤ i → ad 0 i = i := fun i a => by rw [hk.ad_eq]; omega
 have hlf : lnI f = n := by rw [hk.lnI_eq]; omega
 have hlb : lnI b = n := by rw [hk.lnI_eq]; omega
 have hgf := hk.gtI_eq f
 have hgb := hk.gtI_eq b
 clear hJ
 obtain ⟨j1, j2, j3, j4⟩ := hJ2
 clear j4
 (conv => cbv)
 repeat' (first | assumption | ((first | rw [hlo1] | rw [hs0] | refine stp ?_ | refine stpB (fun _ => ?_) (fun _ => ?_)) <;> (conv => cbv)) | exact stpF | fail)
 refine hk.loopI (loop_rule (α := Int) (fun i => [(2, .ptr 2 0), (4, .int .i64 0), (5, .int .i64 (N i)), (6, .int .i64 (D i)), (7, .int .i64 i)]) (fun _ => [.rw 1 (.il .i64 f), .rw 1 (.il .i64 b), .box [.sl 0 1 0 n, .sl 1 1 0 n]])
  (fun i => lo ≤ i ∧ i ≤ J) (fun i => (J - i).toNat) lo ⟨by omega, j1⟩ ?_ ?_)
 ·rw [hN0, hD0]
  exact ghT
 intro i ⟨hi, hi2⟩ Q' hb hx hr
 obtain ⟨n0, n1⟩ := hNr i hi hi2
 obtain ⟨d0, d1⟩ := hDr i hi hi2
 by_cases h3 : i < n
 ·obtain ⟨P, Q1, Q2, hP, hQ1, hQ2, hNs, hDs, ⟨p0, p1⟩, ⟨q0, q1⟩, ⟨q2, q3⟩⟩ := hst i hi h3
  have hgf := hgf i
  have hgb := hgb (i - 1)
  obtain ⟨x, hx0⟩ : ∃ x, x = f.getD i.toNat 0 := ⟨_, rfl⟩
  obtain ⟨y, hy0⟩ : ∃ x, x = b.getD (i - 1).toNat 0 := ⟨_, rfl⟩
  rw [← hx0] at hgf hP hQ1
  rw [← hy0] at hgb hP hQ2
  obtain ⟨i1, hi1⟩ : ∃ x, x = i - 1 := ⟨_, rfl⟩
  rw [← hi1] at hgb
  have hsi : i2 .sub .i64 i 1 = i1 := by rw [hi1]; exact hk.sub64 _ _ (by omega) (by omega)
  have m1 : i2 .mul .i64 x y = P := by rw [hP]; exact hk.mul64 _ _ (by rw [← hP]; omega) (by rw [← hP]; omega)
  have m2 : i2 .mul .i64 x x = Q1 := by rw [hQ1]; exact hk.mul64 _ _ (by rw [← hQ1]; omega) (by rw [← hQ1]; omega)
  have m3 : i2 .mul .i64 y y = Q2 := by rw [hQ2]; exact hk.mul64 _ _ (by rw [← hQ2]; omega) (by rw [← hQ2]; omega)
  obtain ⟨N0, hN00⟩ : ∃ x, x = N i := ⟨_, rfl⟩
  obtain ⟨D0, hD00⟩ : ∃ x, x = D i := ⟨_, rfl⟩
  obtain ⟨N1, hN10⟩ : ∃ x, x = N (i + 1) := ⟨_, rfl⟩
  obtain ⟨D1, hD10⟩ : ∃ x, x = D (i + 1) := ⟨_, rfl⟩
  obtain ⟨s, hs⟩ : ∃ x, x = Q1 + Q2 := ⟨_, rfl⟩
  rw [← hN00, ← hN10] at hNs
  rw [← hD00, ← hD10, ← hs] at hDs
  rw [← hN00, ← hD00]
  rw [← hN00] at n0 n1
  rw [← hD00] at d0 d1
  have a1 : i2 .add .i64 N0 P = N1 := by rw [hNs]; exact hk.add64 _ _ (by omega) (by omega)
  have a2 : i2 .add .i64 Q1 Q2 = s := by rw [hs]; exact hk.add64 _ _ (by omega) (by omega)
  have a3 : i2 .add .i64 D0 s = D1 := by rw [hDs]; exact hk.add64 _ _ (by omega) (by omega)
  have b1 := had i (by omega)
  have b2 := had i1 (by omega)
  have e1 : 0 ≤ i := by omega
  have e2 : 0 ≤ i1 := by omega
  have e3 : i1 < n := by omega
  clear hP hQ1 hQ2 hNs hDs
  (conv => cbv)
  repeat' (first | assumption | ((first | rw [hs0] | rw [b1] | rw [hsi] | rw [b2] | rw [hlf] | rw [hlb] | rw [hgf] | rw [hgb] | rw [m1] | rw [m2] | rw [m3] | rw [a1] | rw [a2] | rw [a3] | refine hk.idxI e1 h3 ?_ | refine hk.idxI e2 e3 ?_ | refine stp ?_ | refine stpB (fun _ => ?_) (fun _ => ?_)) <;> (conv => cbv)) | exact stpF | fail)
  refine hb (i + 1) _ ⟨by omega, by omega⟩ (by omega) ?_
  rw [← hN10, ← hD10]
  refine Gh.low 3 (Nat.le_of_ble_eq_true rfl) ?_ rfl rfl rfl
  repeat' (first | exact Holds.nil _ _ | refine Holds.cons (Wk.refl _ _) ?_ | refine Holds.cons (Wk.of_eq ?_) ?_)
  all_goals first
   | (rw [← hk.add64 i 1 (by omega) (by omega)]; rfl)
   | rfl
   | skip
 ·have : i = J := by omega
  subst this
  have i0 := i
  obtain ⟨N0, hN00⟩ : ∃ x, x = N i := ⟨_, rfl⟩
  obtain ⟨D0, hD00⟩ : ∃ x, x = D i := ⟨_, rfl⟩
  rw [← hN00, ← hD00] at hr0 ⊢
  rw [← hN00] at n0 n1
  by_cases h4 : D0 = 0
  ·have hr0 : r = 0 := by rw [hr0, if_pos h4]
   subst hr0
   (conv => cbv)
   repeat' (first | assumption | ((first | rw [hs0] | refine hx _ _ ?_ | refine stp ?_ | refine stpB (fun _ => ?_) (fun _ => ?_)) <;> (conv => cbv)) | exact stpF | fail)
   all_goals exact hk.finI (fin_lowN 2 (Nat.le_refl 2) (Wk.refl _ _) rfl rfl ⟨rfl, rfl⟩)
  ·rw [if_neg h4] at hr0
   have m1 : i2 .mul .i64 (-32768) N0 = -32768 * N0 := hk.mul64 _ _ (by omega) (by omega)
   have q1 : i2 .quo .i64 (-32768 * N0) D0 = r := by rw [hk.i2_quo, hr0]; exact wrap64 (by rw [← hr0]; omega) (by rw [← hr0]; omega)
   clear hr0
   (conv => cbv)
   repeat' (first | assumption | ((first | rw [hs0] | rw [m1] | rw [q1] | refine hx _ _ ?_ | refine hk.nzI h4 ?_ | refine stp ?_ | refine stpB (fun _ => ?_) (fun _ => ?_)) <;> (conv => cbv)) | exact stpF | fail)
   all_goals exact hk.finI (fin_lowN 2 (Nat.le_refl 2) (Wk.refl _ _) rfl rfl ⟨rfl, rfl⟩)
def dmxL (n : Nat) (f g : Nat → Int) (i : Int) : List Int := (List.range n).map fun (j : Nat) => if i < (j : Int) then f j else g j
theorem dmxL_len (n : Nat) (f g : Nat → Int) (i : Int) : (dmxL n f g i).length = n := by simp [dmxL]
theorem dmxL_get (n : Nat) (f g : Nat → Int) (i : Int) (j : Nat) (h : j < n) : (dmxL n f g i).getD j 0 = if i < (j : Int) then f j else g j := rmap_get n _ j h
theorem dmxL_set (n : Nat) (f g : Nat → Int) (i : Int) (h0 : 0 ≤ i) (h : i < n) : (dmxL n f g i).set i.toNat (f i.toNat) = dmxL n f g (i - 1) := by
 apply List.ext_getElem (by simp [dmxL])
 intro j h1 h2
 simp only [dmxL, List.getElem_set, List.getElem_map, List.getElem_range]
 by_cases e : i.toNat = j
 ·rw [if_pos e, if_pos (by omega), e]
 ·rw [if_neg e]
  by_cases h3 : i < (j : Int)
  ·rw [if_pos h3, if_pos (by omega)]
  ·rw [if_neg h3, if_neg (by omega)]
theorem rnd_rg {p : Int} (h : -4294967296 ≤ p ∧ p ≤ 4294967296) : -262145 ≤ rnd p ∧ rnd p ≤ 262145 := by
 unfold rnd
 have : W (p + 8192) = p + 8192 := wrap64 (by omega) (by omega)
 rw [this]; omega
theorem mulk {k y : Int} (hk : -16384 ≤ k ∧ k ≤ 16384) (hy : -131072 ≤ y ∧ y ≤ 131072) : -2147483648 ≤ k * y ∧ k * y ≤ 2147483648 := by
 have h1 : k.natAbs * y.natAbs ≤ 16384 * 131072 := Nat.mul_le_mul (by omega) (by omega)
 rw [← Int.natAbs_mul] at h1
 omega
theorem climb_spec (f b : List Int) (n m k : Int) (hn : n = (f.length : Nat)) (hnb : n = (b.length : Nat)) (h1n : 1 ≤ n) (hn2 : n ≤ 1024) (hf : Bd17 f) (hb : Bd17 b) (h0 : 0 ≤ m) (h1 : m ≤ 100) (hkr : -16384 ≤ k ∧ k ≤ 16384) :
 Does PP 82 [lad n, I m, I k] [.rw 1 (.il .i64 f), .rw 1 (.il .i64 b)] (Is (.tup []) [.rw 1 (.il .i64 (cliF f b m.toNat k)), .rw 1 (.il .i64 (cliB f b m.toNat k))]) := by
 obtain ⟨J, hJ⟩ : ∃ x : Int, x = if n - 1 < m then n - 1 else m := ⟨_, rfl⟩
 have hJ2 : J ≤ n - 1 ∧ J ≤ m ∧ (J = m ∨ J = n - 1) := by split at hJ <;> omega
 obtain ⟨F, hF⟩ : ∃ N : Int → List Int, ∀ i, N i = dmxL f.length (fun j => clipZ (f.getD j 0 + rnd (k * b.getD (j - 1) 0))) (fun j => f.getD j 0) i := ⟨_, fun _ => rfl⟩
 obtain ⟨B, hB⟩ : ∃ N : Int → List Int, ∀ i, N i = dmxL b.length (fun j => clipZ (b.getD (j - 1) 0 + rnd (k * f.getD j 0))) (fun j => b.getD j 0) i := ⟨_, fun _ => rfl⟩
 have hF0 : F (n - 1) = f := by
  rw [hF]
  unfold dmxL
  refine Eq.trans (List.map_congr_left fun j hj => ?_) (self_map f)
  rw [List.mem_range] at hj
  rw [if_neg (by omega)]
 have hB0 : B (n - 1) = b := by
  rw [hB]
  unfold dmxL
  refine Eq.trans (List.map_congr_left fun j hj => ?_) (self_map b)
  rw [List.mem_range] at hj
  rw [if_neg (by omega)]
 have hFJ : cliF f b m.toNat k = F J := by
  rw [hF]
  unfold dmxL cliF
  refine List.map_congr_left fun j hj => ?_
  rw [List.mem_range] at hj
  by_cases e : m.toNat < j
  ·rw [if_pos e, if_pos (by omega)]
  ·rw [if_neg e, if_neg (by omega)]
 have hBJ : cliB f b m.toNat k = B J := by
  rw [hB]
  unfold dmxL cliB
  refine List.map_congr_left fun j hj => ?_
  rw [List.mem_range] at hj
  by_cases e : m.toNat < j
  ·rw [if_pos e, if_pos (by omega)]
  ·rw [if_neg e, if_neg (by omega)]
 have hFl : ∀ i, ((F i).length : Int) = n := fun i => by rw [hF, dmxL_len]; omega
 have hBl : ∀ i, ((B i).length : Int) = n := fun i => by rw [hB, dmxL_len]; omega
 have hst : ∀ i : Int, 0 < i → i < n → ∃ x y P Q : Int, x = (F i).getD i.toNat 0 ∧ y = (B i).getD (i - 1).toNat 0 ∧ P = k * y ∧ Q = k * x ∧
  (F i).set i.toNat (clipZ (x + rnd P)) = F (i - 1) ∧ (B i).set i.toNat (clipZ (y + rnd Q)) = B (i - 1) ∧
  (-131072 ≤ x ∧ x ≤ 131072) ∧ (-131072 ≤ y ∧ y ≤ 131072) ∧ (-2147483648 ≤ P ∧ P ≤ 2147483648) ∧ (-2147483648 ≤ Q ∧ Q ≤ 2147483648) := fun i a c => by
  have ex : (F i).getD i.toNat 0 = f.getD i.toNat 0 := by rw [hF, dmxL_get _ _ _ _ _ (by omega), if_neg (by omega)]
  have ey : (B i).getD (i - 1).toNat 0 = b.getD (i - 1).toNat 0 := by rw [hB, dmxL_get _ _ _ _ _ (by omega), if_neg (by omega)]
  refine ⟨_, _, _, _, rfl, rfl, rfl, rfl, ?_, ?_, ?_, ?_, ?_, ?_⟩
  ·rw [ex, ey, hF, hF, show (i - 1).toNat = i.toNat - 1 by omega]
   exact dmxL_set f.length (fun j => clipZ (f.getD j 0 + rnd (k * b.getD (j - 1) 0))) (fun j => f.getD j 0) i (by omega) (by omega)
  ·rw [ex, ey, hB, hB, show (i - 1).toNat = i.toNat - 1 by omega]
   exact dmxL_set b.length (fun j => clipZ (b.getD (j - 1) 0 + rnd (k * f.getD j 0))) (fun j => b.getD j 0) i (by omega) (by omega)
  ·rw [ex]; exact bd17_get hf _
  ·rw [ey]; exact bd17_get hb _
  ·rw [ey]; exact mulk hkr (bd17_get hb _)
  ·rw [ex]; exact mulk hkr (bd17_get hf _)
 rw [hFJ, hBJ]
 obtain ⟨RF, hRF⟩ : ∃ x, x = F J := ⟨_, rfl⟩
 obtain ⟨RB, hRB⟩ : ∃ x, x = B J := ⟨_, rfl⟩
 rw [← hRF, ← hRB]
 clear hFJ hBJ hF hB hf hb
 have hrd := fun a h => lround_spec a h
 have hcl := fun a h => tclip_spec a h
 refine wlk Tryz.f82 ?_
 unhygienic intros
 obtain ⟨i0, hi0⟩ : ∃ x : Int, x = n - 1 := ⟨_, rfl⟩
 rw [← hi0] at hF0 hB0
 have hs1 : i2 .sub .i64 n 1 = i0 := by rw [hi0]; exact hk.sub64 _ _ (by omega) (by omega)
 have hs0 : sbt n 0 = n := by rw [hk.sb_eq]; omega
 have had : ∀ i, 0 ≤ i → ad 0 i = i := fun i a => by rw [hk.ad_eq]; omega
 have hln := hk.lnI_eq
 have hgt := hk.gtI_eq
 have hse := hk.stI_eq
 clear hJ
 obtain ⟨j1, j2, j3⟩ := hJ2
 (conv => cbv)
 repeat' (first | assumption | ((first | rw [hs1] | rw [hs0] | refine stp ?_ | refine stpB (fun _ => ?_) (fun _ => ?_)) <;> (conv => cbv)) | exact stpF | fail)
 refine hk.loopI (loop_rule (α := Int) (fun i => [(1, .int .i64 m), (2, .int .i64 k), (3, .ptr 2 0), (6, .int .i64 i)]) (fun i => [.rw 1 (.il .i64 (F i)), .rw 1 (.il .i64 (B i)), .box [.sl 0 1 0 n, .sl 1 1 0 n]])
  (fun i => J ≤ i ∧ i < n) (fun i => (i - J).toNat) i0 ⟨by omega, by omega⟩ ?_ ?_)
 ·rw [hF0, hB0]
  exact ghT
 intro i ⟨hi, hi2⟩ Q' hb hx hr
 by_cases h3 : i > m
 ·obtain ⟨x, y, P, Q, hx0, hy0, hP, hQ, hFs, hBs, ⟨x0, x1⟩, ⟨y0, y1⟩, ⟨p0, p1⟩, ⟨q0, q1⟩⟩ := hst i (by omega) hi2
  obtain ⟨i1, hi1⟩ : ∃ x, x = i - 1 := ⟨_, rfl⟩
  rw [← hi1] at hy0 hFs hBs
  have hsi : i2 .sub .i64 i 1 = i1 := by rw [hi1]; exact hk.sub64 _ _ (by omega) (by omega)
  have lF := hln (F i)
  rw [hFl] at lF
  have lB := hln (B i)
  rw [hBl] at lB
  have gF := hgt (F i) i
  rw [← hx0] at gF
  have gB := hgt (B i) i1
  rw [← hy0] at gB
  obtain ⟨rp0, rp1⟩ := rnd_rg (p := P) ⟨by omega, by omega⟩
  obtain ⟨rq0, rq1⟩ := rnd_rg (p := Q) ⟨by omega, by omega⟩
  have sF := hse (F i) i (clipZ (x + rnd P))
  rw [hFs] at sF
  have sB := hse (B i) i (clipZ (y + rnd Q))
  rw [hBs] at sB
  have m1 : i2 .mul .i64 k y = P := by rw [hP]; exact hk.mul64 _ _ (by rw [← hP]; omega) (by rw [← hP]; omega)
  have m2 : i2 .mul .i64 k x = Q := by rw [hQ]; exact hk.mul64 _ _ (by rw [← hQ]; omega) (by rw [← hQ]; omega)
  have r1 := hrd P
  have r2 := hrd Q
  obtain ⟨rp, hrp⟩ : ∃ z, z = rnd P := ⟨_, rfl⟩
  obtain ⟨rq, hrq⟩ : ∃ z, z = rnd Q := ⟨_, rfl⟩
  simp only [← hrp] at r1 sF rp0 rp1
  simp only [← hrq] at r2 sB rq0 rq1
  have a1 : i2 .add .i64 x rp = x + rp := hk.add64 _ _ (by omega) (by omega)
  have a2 : i2 .add .i64 y rq = y + rq := hk.add64 _ _ (by omega) (by omega)
  obtain ⟨sp', hsp⟩ : ∃ z, z = x + rp := ⟨_, rfl⟩
  obtain ⟨sq, hsq⟩ : ∃ z, z = y + rq := ⟨_, rfl⟩
  rw [← hsp] at a1 sF
  rw [← hsq] at a2 sB
  have c1 := hcl sp'
  have c3 := hcl sq
  obtain ⟨cp, hcp⟩ : ∃ z, z = clipZ sp' := ⟨_, rfl⟩
  obtain ⟨cq, hcq⟩ : ∃ z, z = clipZ sq := ⟨_, rfl⟩
  simp only [← hcp] at c1 sF
  simp only [← hcq] at c3 sB
  obtain ⟨F0, hF00⟩ : ∃ x, x = F i := ⟨_, rfl⟩
  obtain ⟨B0, hB00⟩ : ∃ x, x = B i := ⟨_, rfl⟩
  obtain ⟨F1, hF10⟩ : ∃ x, x = F i1 := ⟨_, rfl⟩
  obtain ⟨B1, hB10⟩ : ∃ x, x = B i1 := ⟨_, rfl⟩
  rw [← hF00] at lF gF sF ⊢
  rw [← hB00] at lB gB sB ⊢
  rw [← hF10] at sF
  rw [← hB10] at sB
  have b1 := had i (by omega)
  have b2 := had i1 (by omega)
  have e1 : 0 ≤ i := by omega
  have e2 : 0 ≤ i1 := by omega
  have e3 : i1 < n := by omega
  clear hP hQ hx0 hy0 hFs hBs hrp hrq hsp hsq hcp hcq
  (conv => cbv)
  repeat' (first | assumption | ((first | rw [hs0] | rw [b1] | rw [hsi] | rw [b2] | rw [lF] | rw [lB] | rw [gF] | rw [gB] | rw [m1] | rw [m2] | rw [a1] | rw [a2] | rw [sF] | rw [sB] | refine hk.idxI e1 hi2 ?_ | refine hk.idxI e2 e3 ?_ | refine stp ?_ | refine stpB (fun _ => ?_) (fun _ => ?_)) <;> (conv => cbv)) | exact stpF | fail)
  refine hb i1 _ ⟨by omega, by omega⟩ (by omega) ?_
  rw [← hF10, ← hB10]
  refine Gh.low 3 (Nat.le_of_ble_eq_true rfl) ?_ rfl rfl rfl
  repeat' (first | exact Holds.nil _ _ | refine Holds.cons (Wk.refl _ _) ?_ | refine Holds.cons (Wk.of_eq ?_) ?_)
  all_goals first
   | rfl
   | skip
 ·have : i = J := by omega
  subst this
  have i00 := i
  rw [← hRF, ← hRB]
  (conv => cbv)
  repeat' (first | assumption | ((first | rw [hs0] | refine hx _ _ ?_ | refine stp ?_ | refine stpB (fun _ => ?_) (fun _ => ?_)) <;> (conv => cbv)) | exact stpF | fail)
  all_goals exact hk.finI (fin_lowN 2 (Nat.le_refl 2) (Wk.refl _ _) rfl rfl ⟨rfl, rfl⟩)
end Go.Proofs.YtoeekjddeknmbaaGreat
