/-
  Contracts of functions of the program, proved over the abstract machine of the Al texts.
-/
import Derived.Test.YtoeekjddeknmbaaGreatTryTab
import Derived.Test.YtoeekjddeknmbaaGreatAl4
import Derived.Test.YtoeekjddeknmbaaGreatBaseX
import Derived.Test.YtoeekjddeknmbaaGreatBsX1
import Derived.Test.YtoeekjddeknmbaaGreatTkX3
import Derived.Test.YtoeekjddeknmbaaGreatLtX1
import Derived.Test.YtoeekjddeknmbaaGreatHrX
import Derived.Test.YtoeekjddeknmbaaGreatRbX
import Derived.Test.YtoeekjddeknmbaaGreatLhX
set_option maxHeartbeats 4000000
set_option maxRecDepth 20000
set_option linter.unusedSimpArgs false
set_option linter.unusedVariables false
open Go Go.AL
namespace Go.Proofs.YtoeekjddeknmbaaGreat
theorem ltry_spec (a g : Int) (l : List Int) (h : Heap) (ht : termB a g = true) (hl : l.length ≤ 1024) : Does PP 91 [.agg [I a, I g], LI l] h (Is (.agg [I a, I g, I (sumS (offW a g l) l.length)]) h) := by
 have hq := fun h => offW_spec a g l h ht hl
 have hlq : (offW a g l).length = l.length := offW_len a g l
 rw [← hlq]
 obtain ⟨q, hq0⟩ : ∃ q, q = offW a g l := ⟨_, rfl⟩
 simp only [← hq0] at hq hlq ⊢
 obtain ⟨S, hS⟩ : ∃ S : Int → Int, ∀ i, S i = sumS q i.toNat := ⟨_, fun _ => rfl⟩
 have hS0 : S 0 = 0 := by rw [hS]; rfl
 have hSs : ∀ i : Int, 0 ≤ i → S (i + 1) = W (S i + szW (q.getD i.toNat 0)) := fun i a => by rw [hS, hS, show (i + 1).toNat = i.toNat + 1 by omega, sumS]
 obtain ⟨n, hn⟩ : ∃ n : Int, n = (q.length : Nat) := ⟨_, rfl⟩
 have hn0 : 0 ≤ n ∧ n ≤ 1024 := by omega
 have hR : sumS q q.length = S n := by rw [hS, hn]; rfl
 rw [hR]
 clear hR hS hq0 hlq
 refine pure0 ?_ rfl rfl h
 refine wlk Tryz.f91 ?_
 unhygienic intros
 have hln : lnI q = n := by rw [hk.lnI_eq]; omega
 have hgl := hk.gtI_eq q
 have hmx : ∀ x, mx x (u1 .neg .i64 x) = szW x := fun x => by rw [hk.mx_eq, hk.u1_neg]; rfl
 clear hn
 (conv => cbv)
 repeat' (first | assumption | ((first | rw [hln] | refine stp ?_ | refine stpB (fun _ => ?_) (fun _ => ?_)) <;> (conv => cbv)) | exact stpF | fail)
 refine hk.loopI (loop_rule (α := Int) (fun i => [(2, .ptr 0 0), (4, .ptr 1 0), (5, .int .i64 (S i)), (10, .ls (.il .i64 q) .any), (11, .int .i64 n), (12, .int .i64 i)]) (fun _ => [.box [.int .i64 a, .int .i64 g], .box [.int .i64 0, .int .i64 0, .int .i64 0]])
  (fun i => 0 ≤ i ∧ i ≤ n) (fun i => (n - i).toNat) 0 ⟨by omega, by omega⟩ ?_ ?_)
 ·rw [hS0]
  exact ghT
 intro i ⟨hi, hi2⟩ Q' hb hx hr
 by_cases h2 : i < n
 ·have hs1 := hSs i hi
  rw [← hgl] at hs1
  obtain ⟨x, hx0⟩ : ∃ x, x = gtI q i := ⟨_, rfl⟩
  rw [← hx0] at hs1
  have hmx := hmx x
  obtain ⟨z, hz⟩ : ∃ z, z = szW x := ⟨_, rfl⟩
  rw [← hz] at hmx hs1
  obtain ⟨s0, hs0⟩ : ∃ y, y = S i := ⟨_, rfl⟩
  obtain ⟨s1, hs10⟩ : ∃ y, y = S (i + 1) := ⟨_, rfl⟩
  rw [← hs0, ← hs10] at hs1
  rw [← hs0]
  have had : i2 .add .i64 s0 z = s1 := by rw [hk.i2_add, hs1]
  clear hz hs1
  (conv => cbv)
  repeat' (first | assumption | ((first | rw [hln] | refine hk.idxI hi h2 ?_ | rw [← hx0] | rw [hmx] | rw [had] | refine stp ?_ | refine stpB (fun _ => ?_) (fun _ => ?_)) <;> (conv => cbv)) | exact stpF | fail)
  refine hb (i + 1) _ ⟨by omega, by omega⟩ (by omega) ?_
  rw [← hs10]
  refine Gh.low 2 (Nat.le_of_ble_eq_true rfl) ?_ rfl rfl rfl
  repeat' (first | exact Holds.nil _ _ | refine Holds.cons (Wk.refl _ _) ?_ | refine Holds.cons (Wk.of_eq ?_) ?_)
  all_goals first
   | (rw [← hk.add64 i 1 (by omega) (by omega)]; rfl)
   | rfl
   | skip
 ·have : i = n := by omega
  subst this
  (conv => cbv)
  repeat' (first | assumption | ((first | refine hx _ _ ?_ | refine stp ?_ | refine stpB (fun _ => ?_) (fun _ => ?_)) <;> (conv => cbv)) | exact stpF | fail)
  all_goals exact hk.fin0 rfl rfl (Wk.refl _ _)
theorem rsum_spec (q : List Int) (h : Heap) (hr : R64 q) (hl : q.length ≤ 1024) : Does PP 63 [LI q] h (Is (I (sumS q q.length)) h) := by
 obtain ⟨n, hn⟩ : ∃ n : Int, n = (q.length : Nat) := ⟨_, rfl⟩
 have hn0 : 0 ≤ n ∧ n ≤ 1024 := by omega
 obtain ⟨S, hS⟩ : ∃ S : Int → Int, ∀ i, S i = sumS q i.toNat := ⟨_, fun _ => rfl⟩
 have hS0 : S 0 = 0 := by rw [hS]; rfl
 have hSs : ∀ i : Int, 0 ≤ i → i < n → S (i + 1) = if q.getD i.toNat 0 < 0 then W (S i - q.getD i.toNat 0) else W (S i + q.getD i.toNat 0) := fun i a b => by
  rw [hS, hS, show (i + 1).toNat = i.toNat + 1 by omega, sumS_alt hr (by omega)]
 have hR : sumS q q.length = S n := by rw [hS, hn]; rfl
 rw [hR]
 clear hR hS hr
 refine pure0 ?_ rfl rfl h
 refine wlk Tryz.f63 ?_
 unhygienic intros
 have hln : lnI q = n := by rw [hk.lnI_eq]; omega
 have hgl := hk.gtI_eq q
 clear hn
 (conv => cbv)
 repeat' (first | assumption | ((first | rw [hln] | refine stp ?_ | refine stpB (fun _ => ?_) (fun _ => ?_)) <;> (conv => cbv)) | exact stpF | fail)
 refine hk.loopI (loop_rule (α := Int) (fun i => [(0, .ls (.il .i64 q) .any), (2, .int .i64 0), (3, .int .i64 (S i)), (6, .int .i64 n), (7, .int .i64 i)]) (fun _ => [])
  (fun i => 0 ≤ i ∧ i ≤ n) (fun i => (n - i).toNat) 0 ⟨by omega, by omega⟩ ?_ ?_)
 ·rw [hS0]
  exact ghT
 intro i ⟨hi, hi2⟩ Q' hb hx hr
 by_cases h2 : i < n
 ·have hs1 := hSs i hi h2
  rw [← hgl] at hs1
  obtain ⟨x, hx0⟩ : ∃ x, x = gtI q i := ⟨_, rfl⟩
  rw [← hx0] at hs1
  obtain ⟨s0, hs0⟩ : ∃ y, y = S i := ⟨_, rfl⟩
  obtain ⟨s1, hs10⟩ : ∃ y, y = S (i + 1) := ⟨_, rfl⟩
  rw [← hs0, ← hs10] at hs1
  rw [← hs0]
  by_cases hx2 : x < 0
  ·rw [if_pos hx2] at hs1
   have had : i2 .sub .i64 s0 x = s1 := by rw [hk.i2_sub, hs1]
   clear hs1
   (conv => cbv)
   repeat' (first | assumption | ((first | rw [hln] | refine hk.idxI hi h2 ?_ | rw [← hx0] | rw [had] | refine stp ?_ | refine stpB (fun _ => ?_) (fun _ => ?_)) <;> (conv => cbv)) | exact stpF | fail)
   refine hb (i + 1) _ ⟨by omega, by omega⟩ (by omega) ?_
   rw [← hs10]
   refine Gh.tm ?_
   repeat' (first | exact Holds.nil _ _ | refine Holds.cons (Wk.refl _ _) ?_ | refine Holds.cons (Wk.of_eq ?_) ?_)
   all_goals first
    | (rw [← hk.add64 i 1 (by omega) (by omega)]; rfl)
    | rfl
    | skip
  ·rw [if_neg hx2] at hs1
   have had : i2 .add .i64 s0 x = s1 := by rw [hk.i2_add, hs1]
   clear hs1
   (conv => cbv)
   repeat' (first | assumption | ((first | rw [hln] | refine hk.idxI hi h2 ?_ | rw [← hx0] | rw [had] | refine stp ?_ | refine stpB (fun _ => ?_) (fun _ => ?_)) <;> (conv => cbv)) | exact stpF | fail)
   refine hb (i + 1) _ ⟨by omega, by omega⟩ (by omega) ?_
   rw [← hs10]
   refine Gh.tm ?_
   repeat' (first | exact Holds.nil _ _ | refine Holds.cons (Wk.refl _ _) ?_ | refine Holds.cons (Wk.of_eq ?_) ?_)
   all_goals first
    | (rw [← hk.add64 i 1 (by omega) (by omega)]; rfl)
    | rfl
    | skip
 ·have : i = n := by omega
  subst this
  (conv => cbv)
  repeat' (first | assumption | ((first | refine hx _ _ ?_ | refine stp ?_ | refine stpB (fun _ => ?_) (fun _ => ?_)) <;> (conv => cbv)) | exact stpF | fail)
  all_goals exact hk.fin0 rfl rfl (Wk.refl _ _)
def bestT (l : List Int) : Int × Int := trG l (bestG l (trN l))
theorem trG_at (l : List Int) (a b : Int) (k : Nat) (hk : (k : Int) = 15 * (a - 1) + (b - 1)) (a1 : 1 ≤ a) (b1 : 1 ≤ b) (b2 : b ≤ 15) : trG l (k + 1) = (a, b) := by
 unfold trG
 rw [if_neg (by omega)]
 refine Prod.ext ?_ ?_
 ·simp only; omega
 ·simp only; omega
theorem init_root (l : List Int) (k : Nat) : (initL lt3 e000 ((k + 1) / 2) (trP l k) (k + 1)).getD 0 e000 = trE l (bestG l k) := by
 have hl := trP_len l k
 have hh := init_heap (d := e000) lt3_ordr (trP l k)
 have hp := initL_perm lt3 e000 ((trP l k).length / 2) (trP l k) (trP l k).length (Nat.le_refl _) (by omega)
 rw [hl] at hh hp
 exact trP_root l k hp (by rw [hp.length_eq, hl]; exact hh)
theorem bestT_ok (l : List Int) : termB (bestT l).1 (bestT l).2 = true := by
 unfold bestT trG
 have h := (lstK_spec (trS l) (trN l)).1
 unfold trN at h
 unfold bestG trN
 generalize lstK (trS l) (15 * min (l.length - 1) 255) = j at *
 split
 ·decide
 ·rw [termB, decide_eq_true_eq]
  simp only
  omega
theorem lbest_spec (l : List Int) (h : Heap) (hl : l.length ≤ 600) : Does PP 47 [LI l] h (Is (.agg [I (bestT l).1, I (bestT l).2]) h) := by
 obtain ⟨X, hX⟩ : ∃ X : List Lt3 → List AVal, ∀ l, X l = l.map ltr := ⟨_, fun _ => rfl⟩
 obtain ⟨m, hm⟩ : ∃ m : Int, m = (l.length : Nat) := ⟨_, rfl⟩
 obtain ⟨N, hN⟩ : ∃ N : Int, N = if m - 1 < 255 then (if m < 1 then 0 else m - 1) else 255 := ⟨_, rfl⟩
 have hNt : trN l = (15 * N).toNat := by
  unfold trN
  split at hN
  ·split at hN <;> omega
  ·omega
 have hN0 : 0 ≤ N ∧ N ≤ 255 ∧ (N < m ∨ N = 0) := by
  split at hN
  ·split at hN <;> omega
  ·omega
 have hNm : ∀ a : Int, 1 ≤ a → a < m → a ≤ 255 → a ≤ N := fun a x y z => by
  split at hN
  ·split at hN <;> omega
  ·omega
 obtain ⟨Y, hY⟩ : ∃ Y : Nat → List AVal, ∀ k, Y k = X (trP l k) := ⟨_, fun _ => rfl⟩
 obtain ⟨S, hS⟩ : ∃ S : Nat → Int, ∀ k, S k = trS l k := ⟨_, fun _ => rfl⟩
 have hYl : ∀ k, (Y k).length = k + 1 := fun k => by rw [hY, hX, List.length_map, trP_len]
 have hYs : ∀ (a b : Int) (k : Nat), (k : Int) = 15 * (a - 1) + (b - 1) → 1 ≤ a → 1 ≤ b → b ≤ 15 → Y (k + 1) = Y k ++ [.agg [I a, I b, I (S (k + 1))]] := fun a b k hk a1 b1 b2 => by
  rw [hY, hY, hX, hX, trP_succ, List.map_append, trE, trG_at l a b k hk a1 b1 b2, hS]
  rfl
 have hY0 : Y 0 = [.agg [I 0, I 0, I (S 0)]] := by rw [hY, hX, hS]; rfl
 have htry : ∀ (a b : Int) (k : Nat) (h : Heap), (k : Int) = 15 * (a - 1) + (b - 1) → 1 ≤ a → a ≤ 255 → 1 ≤ b → b ≤ 15 → Does PP 91 [.agg [I a, I b], LI l] h (Is (.agg [I a, I b, I (S (k + 1))]) h) := fun a b k h hk a1 a2 b1 b2 => by
  have := ltry_spec a b l h (by rw [termB, decide_eq_true_eq]; omega) (by omega)
  rw [hS, trS, trG_at l a b k hk a1 b1 b2]
  exact this
 have htry0 : ∀ (h : Heap), Does PP 91 [.agg [I 0, I 0], LI l] h (Is (.agg [I 0, I 0, I (S 0)]) h) := fun h => by
  have := ltry_spec 0 0 l h (by decide) (by omega)
  rw [hS]
  exact this
 obtain ⟨Z, hZ⟩ : ∃ Z : List AVal, Z = X (initL lt3 e000 ((trN l + 1) / 2) (trP l (trN l)) (trN l + 1)) := ⟨_, rfl⟩
 have hini : Does PP 92 [QL] (HQl (trN l) ((trN l : Nat) + 1) (Y (trN l))) (Is (.tup []) (HQl (trN l) ((trN l : Nat) + 1) Z)) := by
  have := lHinit_spec X hX (trN l) ((trN l : Nat) + 1) (trP l (trN l)) (by rw [trP_len]; omega) (by rw [hNt]; omega)
  rw [show (((trN l : Nat) : Int) + 1).toNat = trN l + 1 by omega, ← hY, ← hZ] at this
  exact this
 have hroot : Z.getD 0 .junk = .agg [I (bestT l).1, I (bestT l).2, I (S (bestG l (trN l)))] := by
  have hlen : (initL lt3 e000 ((trN l + 1) / 2) (trP l (trN l)) (trN l + 1)).length = trN l + 1 := by
   have hp := initL_perm lt3 e000 ((trN l + 1) / 2) (trP l (trN l)) (trN l + 1) (by rw [trP_len]; exact Nat.le_refl _) (by omega)
   rw [hp.length_eq, trP_len]
  rw [hZ, hX, mapltr_get _ _ (by omega), init_root, hS]
  rfl
 have hZl : Z.length = trN l + 1 := by
  rw [hZ, hX, List.length_map]
  have hp := initL_perm lt3 e000 ((trN l + 1) / 2) (trP l (trN l)) (trN l + 1) (by rw [trP_len]; exact Nat.le_refl _) (by omega)
  rw [hp.length_eq, trP_len]
 rw [hNt] at hini hroot hZl
 obtain ⟨T1, hT1⟩ : ∃ x, x = (bestT l).1 := ⟨_, rfl⟩
 obtain ⟨T2, hT2⟩ : ∃ x, x = (bestT l).2 := ⟨_, rfl⟩
 rw [← hT1, ← hT2] at hroot ⊢
 obtain ⟨S9, hS9⟩ : ∃ x, x = S (bestG l (15 * N).toNat) := ⟨_, rfl⟩
 rw [← hS9] at hroot
 obtain ⟨S0, hS0⟩ : ∃ x, x = S 0 := ⟨_, rfl⟩
 rw [← hS0] at htry0 hY0
 clear hT1 hT2 hS9 hZ hY hX hS hNt hN hS0
 refine pure0 ?_ rfl rfl h
 refine doesFr (fun i => Nat.ble 64 i) P_ok Tryz.f47 (by kernel_rfl) (by kernel_rfl) ?_
 intro i2 c2 u1 cv mx mn ad sbt bn bq ba lnI gtI apI sbI stI rpI lnG gtG apG sbG stG rpG fi fb fs fl fg fc sln sgt sap ssb sc b2s s2b nd call calld callv callvd loop rfun fin hk
 have hln : lnI l = m := by rw [hk.lnI_eq]; omega
 have hlG := hk.lnG_eq
 have hl1 : ∀ x, lnG [x] = 1 := fun x => hk.lnG_eq _
 have hs0 : ∀ n, sbt n 0 = n := fun n => by rw [hk.sb_eq]; omega
 have hsb1 : ∀ x, sbG [x] 0 (Int.ofNat 1) = [x] := fun x => by rw [hk.sbG_eq]; rfl
 have hap0 := hk.apG_eq
 have had0 := hk.ad_eq
 (conv => cbv)
 repeat' (first | assumption | ((first | rw [hln] | refine stp ?_ | refine stpB (fun _ => ?_) (fun _ => ?_)) <;> (conv => cbv)) | exact stpF | fail)
 refine hk.loopI (loop_rule (α := Int) (fun a => [(0, .ls (.il .i64 l) .any), (2, .ptr 0 0), (3, .ptr 2 0), (4, .int .i64 a)]) (fun a => HQl (15 * (a - 1)).toNat (15 * (a - 1) + 1) (Y (15 * (a - 1)).toNat))
  (fun a => 1 ≤ a ∧ a ≤ N + 1) (fun a => (N + 1 - a).toNat) 1 ⟨by omega, by omega⟩ ?_ ?_)
 ·rw [show (15 * ((1 : Int) - 1)).toNat = 0 by decide, hY0]
  exact ghT
 intro a ⟨ha, ha2⟩ Q' hb hx hr
 by_cases h1 : a ≤ N
 ·have h3 : a < m := by omega
  have h4 : a ≤ 255 := by omega
  obtain ⟨K, hK⟩ : ∃ K : Nat, K = (15 * (a - 1)).toNat := ⟨_, rfl⟩
  obtain ⟨k1, hk1⟩ : ∃ k1 : Int, k1 = 15 * (a - 1) + 1 := ⟨_, rfl⟩
  obtain ⟨Y0, hY00⟩ : ∃ y, y = Y K := ⟨_, rfl⟩
  rw [← hK, ← hk1, ← hY00]
  (conv => cbv)
  repeat' (first | assumption | ((first | rw [hln] | refine stp ?_ | refine stpB (fun _ => ?_) (fun _ => ?_)) <;> (conv => cbv)) | exact stpF | fail)
  refine hk.loopI (loop_rule (α := Int) (fun b => [(0, .ls (.il .i64 l) .any), (2, .ptr 0 0), (3, .ptr 2 0), (4, .int .i64 a), (5, .int .i64 b)]) (fun b => HQl (K + (b - 1).toNat) (K + (b - 1) + 1) (Y (K + (b - 1).toNat)))
   (fun b => 1 ≤ b ∧ b ≤ 16) (fun b => (16 - b).toNat) 1 ⟨by omega, by omega⟩ ?_ ?_)
  ·rw [show ((1 : Int) - 1).toNat = 0 by decide, Nat.add_zero, ← hY00, show (K : Int) + (1 - 1) + 1 = k1 by omega]
   exact ghT
  clear hY00 Y0
  intro b ⟨hb1, hb2⟩ Q2 hbb hxb hrb
  by_cases h5 : b ≤ 15
  ·obtain ⟨k, hkk⟩ : ∃ k : Nat, k = K + (b - 1).toNat := ⟨_, rfl⟩
   obtain ⟨n, hn⟩ : ∃ n : Int, n = K + (b - 1) + 1 := ⟨_, rfl⟩
   have hkI : (k : Int) = 15 * (a - 1) + (b - 1) := by omega
   have ht := fun h => htry a b k h hkI ha h4 hb1 h5
   have hys := hYs a b k hkI ha hb1 h5
   have hyl := hlG (Y k)
   rw [hYl] at hyl
   rw [← hkk, ← hn]
   obtain ⟨s, hs⟩ : ∃ s, s = S (k + 1) := ⟨_, rfl⟩
   simp only [← hs] at ht hys
   have hyl1 := hlG (Y (k + 1))
   rw [hYl] at hyl1
   have hap := hap0 (Y k) [.agg [I a, I b, I s]]
   rw [← hys] at hap
   obtain ⟨Y0, hY00⟩ : ∃ y, y = Y k := ⟨_, rfl⟩
   obtain ⟨Y1, hY10⟩ : ∃ y, y = Y (k + 1) := ⟨_, rfl⟩
   rw [← hY10] at hap hyl1
   rw [← hY00] at hap hyl ⊢
   obtain ⟨n1, hn1⟩ : ∃ x : Int, x = n + 1 := ⟨_, rfl⟩
   have hyl : lnG Y0 = n := by rw [hyl]; omega
   have hyl1 : lnG Y1 = n1 := by rw [hyl1]; omega
   have had : ad n 1 = n1 := by rw [had0]; exact hn1.symm
   have hs0 := hs0 n
   have hbq : Nat.beq k k = true := Nat.beq_refl k
   conv at hbq => cbv
   clear hys hs
   (conv => cbv)
   repeat' (first | assumption | ((first | rw [hbq] | rw [hs0] | rw [hsb1] | rw [hl1] | rw [hap] | rw [hyl] | rw [had] | rw [hyl1] | refine stp ?_ | refine stpB (fun _ => ?_) (fun _ => ?_)) <;> (conv => cbv)) | exact stpF | fail)
   refine hbb (b + 1) _ ⟨by omega, by omega⟩ (by omega) ?_
   rw [show K + (b + 1 - 1).toNat = k + 1 by omega, show (K : Int) + (b + 1 - 1) + 1 = n1 by omega, ← hY10]
   refine Gh.low 3 (Nat.le_of_ble_eq_true rfl) ?_ rfl rfl rfl
   repeat' (first | exact Holds.nil _ _ | refine Holds.cons (Wk.refl _ _) ?_ | refine Holds.cons (Wk.of_eq ?_) ?_)
   all_goals first
    | (rw [← hk.add64 b 1 (by omega) (by omega)]; rfl)
    | rfl
    | skip
  ·have : b = 16 := by omega
   subst this
   obtain ⟨k, hkk⟩ : ∃ k : Nat, k = K + ((16 : Int) - 1).toNat := ⟨_, rfl⟩
   obtain ⟨n, hn⟩ : ∃ n : Int, n = K + ((16 : Int) - 1) + 1 := ⟨_, rfl⟩
   obtain ⟨Y0, hY00⟩ : ∃ y, y = Y k := ⟨_, rfl⟩
   rw [← hkk, ← hn, ← hY00]
   (conv => cbv)
   repeat' (first | assumption | ((first | refine hxb _ _ ?_ | refine stp ?_ | refine stpB (fun _ => ?_) (fun _ => ?_)) <;> (conv => cbv)) | exact stpF | fail)
   refine hb (a + 1) _ ⟨by omega, by omega⟩ (by omega) ?_
   rw [show (15 * (a + 1 - 1)).toNat = k by omega, ← hY00, show 15 * (a + 1 - 1) + 1 = n by omega]
   refine Gh.tm ?_
   repeat' (first | exact Holds.nil _ _ | refine Holds.cons (Wk.refl _ _) ?_ | refine Holds.cons (Wk.of_eq ?_) ?_)
   all_goals first
    | (rw [← hk.add64 a 1 (by omega) (by omega)]; rfl)
    | rfl
    | skip
 ·have : a = N + 1 := by omega
  subst this
  rw [show (15 * (N + 1 - 1)).toNat = (15 * N).toNat by congr 1; omega]
  obtain ⟨k, hkk⟩ : ∃ k : Nat, k = (15 * N).toNat := ⟨_, rfl⟩
  obtain ⟨n, hn⟩ : ∃ n : Int, n = 15 * (N + 1 - 1) + 1 := ⟨_, rfl⟩
  obtain ⟨a, haa⟩ : ∃ a : Int, a = N + 1 := ⟨_, rfl⟩
  rw [← hkk, show ((k : Nat) : Int) + 1 = n by omega] at hini
  rw [← hkk] at hZl
  rw [← hkk, ← hn, ← haa]
  obtain ⟨Y0, hY00⟩ : ∃ y, y = Y k := ⟨_, rfl⟩
  rw [← hY00] at hini ⊢
  have f1 : fi (fc (gtG Z 0) 0) = T1 := by rw [hk.gtG_eq]; rw [show Int.toNat 0 = 0 from rfl, hroot, hk.fc_eq, hk.fi_eq]; rfl
  have f2 : fi (fc (gtG Z 0) 1) = T2 := by rw [hk.gtG_eq]; rw [show Int.toNat 0 = 0 from rfl, hroot, hk.fc_eq, hk.fi_eq]; rfl
  have hlZ : lnG Z = n := by rw [hlG]; omega
  have hbq : Nat.beq k k = true := Nat.beq_refl k
  conv at hbq => cbv
  have hs0 := hs0 n
  have hn1 : 0 < n := by omega
  by_cases h5 : a < m
  ·have h6 : ¬ a ≤ 255 := fun h => by have := hNm a (by omega) h5 h; omega
   (conv => cbv)
   repeat' (first | assumption | ((first | rw [hln] | rw [hbq] | rw [hs0] | rw [hlZ] | rw [f1] | rw [f2] | refine hx _ _ ?_ | refine hk.callA hini ?_ | refine hk.idxI (by decide) hn1 ?_ | refine stp ?_ | refine stpB (fun _ => ?_) (fun _ => ?_)) <;> (conv => cbv)) | exact stpF | fail)
   all_goals exact hk.fin0 rfl rfl (Wk.refl _ _)
  ·(conv => cbv)
   repeat' (first | assumption | ((first | rw [hln] | rw [hbq] | rw [hs0] | rw [hlZ] | rw [f1] | rw [f2] | refine hx _ _ ?_ | refine hk.callA hini ?_ | refine hk.idxI (by decide) hn1 ?_ | refine stp ?_ | refine stpB (fun _ => ?_) (fun _ => ?_)) <;> (conv => cbv)) | exact stpF | fail)
   all_goals exact hk.fin0 rfl rfl (Wk.refl _ _)
theorem rlbest_spec (l : List Int) (h : Heap) (hr64 : R64 l) (hl : l.length ≤ 600) : Does PP 29 [LI l] h (Is (.tup [I (bestT l).1, I (bestT l).2]) h) := by
 obtain ⟨m, hm⟩ : ∃ m : Int, m = (l.length : Nat) := ⟨_, rfl⟩
 obtain ⟨N, hN⟩ : ∃ N : Int, N = if m - 1 < 255 then (if m < 1 then 0 else m - 1) else 255 := ⟨_, rfl⟩
 have hNt : trN l = (15 * N).toNat := by
  unfold trN
  split at hN
  ·split at hN <;> omega
  ·omega
 have hN0 : 0 ≤ N ∧ N ≤ 255 ∧ (N < m ∨ N = 0) := by
  split at hN
  ·split at hN <;> omega
  ·omega
 have hNm : ∀ a : Int, 1 ≤ a → a < m → a ≤ 255 → a ≤ N := fun a x y z => by
  split at hN
  ·split at hN <;> omega
  ·omega
 obtain ⟨G1, hG1⟩ : ∃ Y : Nat → Int, ∀ k, Y k = (trG l (bestG l k)).1 := ⟨_, fun _ => rfl⟩
 obtain ⟨G2, hG2⟩ : ∃ Y : Nat → Int, ∀ k, Y k = (trG l (bestG l k)).2 := ⟨_, fun _ => rfl⟩
 obtain ⟨L, hL⟩ : ∃ Y : Nat → Int, ∀ k, Y k = trS l (bestG l k) := ⟨_, fun _ => rfl⟩
 have hst : ∀ (a b : Int) (k : Nat) , (k : Int) = 15 * (a - 1) + (b - 1) → 1 ≤ a → a ≤ 255 → 1 ≤ b → b ≤ 15 → ∃ (q : List Int) (s : Int), (∀ h, Does PP 59 [I a, I b, LI l] h (Is (LI q) h)) ∧ (∀ h, Does PP 63 [LI q] h (Is (I s) h)) ∧
  (s < L k → G1 (k + 1) = a ∧ G2 (k + 1) = b ∧ L (k + 1) = s) ∧ (¬ s < L k → G1 (k + 1) = G1 k ∧ G2 (k + 1) = G2 k ∧ L (k + 1) = L k) := fun a b k hk a1 a2 b1 b2 => by
  have hg := trG_at l a b k hk a1 b1 b2
  have hs : trS l (k + 1) = sumS (offW a b l) (offW a b l).length := by rw [trS, hg, offW_len]
  refine ⟨offW a b l, trS l (k + 1), fun h => roffW_spec a b l h (by rw [termB, decide_eq_true_eq]; omega) hr64 (by omega), fun h => ?_, fun hlt => ?_, fun hlt => ?_⟩
  ·rw [hs]
   exact rsum_spec _ h (offW_r64 a b l) (by rw [offW_len]; omega)
  ·rw [hL] at hlt
   have e : bestG l (k + 1) = k + 1 := by rw [bestG, lstK]; exact if_pos hlt
   rw [hG1, hG2, hL, e, hg]
   exact ⟨rfl, rfl, rfl⟩
  ·rw [hL] at hlt
   have e : bestG l (k + 1) = bestG l k := by rw [bestG, lstK]; exact if_neg hlt
   rw [hG1, hG2, hL, e, hG1, hG2, hL]
   exact ⟨rfl, rfl, rfl⟩
 have hsum0 : ∀ (h : Heap), Does PP 63 [LI l] h (Is (I (L 0)) h) := fun h => by
  have := rsum_spec l h hr64 (by omega)
  rw [hL]
  show Does PP 63 [LI l] h (Is (I (sumS (offW 0 0 l) l.length)) h)
  rw [offW_zero hr64]
  exact this
 have hG10 : G1 0 = 0 := by rw [hG1]; rfl
 have hG20 : G2 0 = 0 := by rw [hG2]; rfl
 have hT1 : (bestT l).1 = G1 (15 * N).toNat := by rw [hG1, ← hNt]; rfl
 have hT2 : (bestT l).2 = G2 (15 * N).toNat := by rw [hG2, ← hNt]; rfl
 rw [hT1, hT2]
 clear hT1 hT2 hG1 hG2 hL hNt hN hr64
 refine pure0 ?_ rfl rfl h
 refine wlk Tryz.f29 ?_
 unhygienic intros
 have hln : lnI l = m := by rw [hk.lnI_eq]; omega
 clear hm
 (conv => cbv)
 repeat' (first | assumption | ((first | rw [hln] | refine stp ?_ | refine stpB (fun _ => ?_) (fun _ => ?_)) <;> (conv => cbv)) | exact stpF | fail)
 refine hk.loopI (loop_rule (α := Int) (fun a => [(0, .ls (.il .i64 l) .any), (3, .int .i64 0), (4, .int .i64 (G1 (15 * (a - 1)).toNat)), (5, .int .i64 (G2 (15 * (a - 1)).toNat)), (6, .int .i64 (L (15 * (a - 1)).toNat)), (7, .int .i64 a)]) (fun a => [])
  (fun a => 1 ≤ a ∧ a ≤ N + 1) (fun a => (N + 1 - a).toNat) 1 ⟨by omega, by omega⟩ ?_ ?_)
 ·rw [show (15 * ((1 : Int) - 1)).toNat = 0 by decide, hG10, hG20]
  exact ghT
 intro a ⟨ha, ha2⟩ Q' hb hx hr
 by_cases h1 : a ≤ N
 ·have h3 : a < m := by omega
  have h4 : a ≤ 255 := by omega
  obtain ⟨K, hK⟩ : ∃ K : Nat, K = (15 * (a - 1)).toNat := ⟨_, rfl⟩
  obtain ⟨g1, hg1⟩ : ∃ x, x = G1 K := ⟨_, rfl⟩
  obtain ⟨g2, hg2⟩ : ∃ x, x = G2 K := ⟨_, rfl⟩
  obtain ⟨lk, hlk⟩ : ∃ x, x = L K := ⟨_, rfl⟩
  rw [← hK, ← hg1, ← hg2, ← hlk]
  (conv => cbv)
  repeat' (first | assumption | ((first | rw [hln] | refine stp ?_ | refine stpB (fun _ => ?_) (fun _ => ?_)) <;> (conv => cbv)) | exact stpF | fail)
  refine hk.loopI (loop_rule (α := Int) (fun b => [(0, .ls (.il .i64 l) .any), (3, .int .i64 0), (4, .int .i64 (G1 (K + (b - 1).toNat))), (5, .int .i64 (G2 (K + (b - 1).toNat))), (6, .int .i64 (L (K + (b - 1).toNat))), (7, .int .i64 a), (8, .int .i64 b)]) (fun a => [])
   (fun b => 1 ≤ b ∧ b ≤ 16) (fun b => (16 - b).toNat) 1 ⟨by omega, by omega⟩ ?_ ?_)
  ·rw [show ((1 : Int) - 1).toNat = 0 by decide, Nat.add_zero, ← hg1, ← hg2, ← hlk]
   exact ghT
  clear hg1 hg2 hlk g1 g2 lk
  intro b ⟨hb1, hb2⟩ Q2 hbb hxb hrb
  by_cases h5 : b ≤ 15
  ·obtain ⟨k, hkk⟩ : ∃ k : Nat, k = K + (b - 1).toNat := ⟨_, rfl⟩
   obtain ⟨q, s, ho, hsm, hlt, hge⟩ := hst a b k (by omega) ha h4 hb1 h5
   have hk1 : K + (b + 1 - 1).toNat = k + 1 := by omega
   rw [← hkk]
   obtain ⟨g1, hg1⟩ : ∃ x, x = G1 k := ⟨_, rfl⟩
   obtain ⟨g2, hg2⟩ : ∃ x, x = G2 k := ⟨_, rfl⟩
   obtain ⟨lk, hlk⟩ : ∃ x, x = L k := ⟨_, rfl⟩
   obtain ⟨g1', hg1'⟩ : ∃ x, x = G1 (k + 1) := ⟨_, rfl⟩
   obtain ⟨g2', hg2'⟩ : ∃ x, x = G2 (k + 1) := ⟨_, rfl⟩
   obtain ⟨lk', hlk'⟩ : ∃ x, x = L (k + 1) := ⟨_, rfl⟩
   rw [← hg1', ← hg2', ← hlk'] at hlt hge
   rw [← hlk] at hlt
   rw [← hg1, ← hg2, ← hlk] at hge ⊢
   by_cases h6 : s < lk
   ·obtain ⟨e1, e2, e3⟩ := hlt h6
    clear hge hlt
    (conv => cbv)
    repeat' (first | assumption | ((first | refine stp ?_ | refine stpB (fun _ => ?_) (fun _ => ?_)) <;> (conv => cbv)) | exact stpF | fail)
    refine hbb (b + 1) _ ⟨by omega, by omega⟩ (by omega) ?_
    rw [hk1, ← hg1', ← hg2', ← hlk', e1, e2, e3]
    refine Gh.tm ?_
    repeat' (first | exact Holds.nil _ _ | refine Holds.cons (Wk.refl _ _) ?_ | refine Holds.cons (Wk.of_eq ?_) ?_)
    all_goals first
     | (rw [← hk.add64 b 1 (by omega) (by omega)]; rfl)
     | rfl
     | skip
   ·obtain ⟨e1, e2, e3⟩ := hge h6
    clear hge hlt
    (conv => cbv)
    repeat' (first | assumption | ((first | refine stp ?_ | refine stpB (fun _ => ?_) (fun _ => ?_)) <;> (conv => cbv)) | exact stpF | fail)
    refine hbb (b + 1) _ ⟨by omega, by omega⟩ (by omega) ?_
    rw [hk1, ← hg1', ← hg2', ← hlk', e1, e2, e3]
    refine Gh.tm ?_
    repeat' (first | exact Holds.nil _ _ | refine Holds.cons (Wk.refl _ _) ?_ | refine Holds.cons (Wk.of_eq ?_) ?_)
    all_goals first
     | (rw [← hk.add64 b 1 (by omega) (by omega)]; rfl)
     | rfl
     | skip
  ·have : b = 16 := by omega
   subst this
   obtain ⟨k, hkk⟩ : ∃ k : Nat, k = K + ((16 : Int) - 1).toNat := ⟨_, rfl⟩
   obtain ⟨g1, hg1⟩ : ∃ x, x = G1 k := ⟨_, rfl⟩
   obtain ⟨g2, hg2⟩ : ∃ x, x = G2 k := ⟨_, rfl⟩
   obtain ⟨lk, hlk⟩ : ∃ x, x = L k := ⟨_, rfl⟩
   rw [← hkk, ← hg1, ← hg2, ← hlk]
   (conv => cbv)
   repeat' (first | assumption | ((first | refine hxb _ _ ?_ | refine stp ?_ | refine stpB (fun _ => ?_) (fun _ => ?_)) <;> (conv => cbv)) | exact stpF | fail)
   refine hb (a + 1) _ ⟨by omega, by omega⟩ (by omega) ?_
   rw [show (15 * (a + 1 - 1)).toNat = k by omega, ← hg1, ← hg2, ← hlk]
   refine Gh.tm ?_
   repeat' (first | exact Holds.nil _ _ | refine Holds.cons (Wk.refl _ _) ?_ | refine Holds.cons (Wk.of_eq ?_) ?_)
   all_goals first
    | (rw [← hk.add64 a 1 (by omega) (by omega)]; rfl)
    | rfl
    | skip
 ·have : a = N + 1 := by omega
  subst this
  rw [show (15 * (N + 1 - 1)).toNat = (15 * N).toNat by congr 1; omega]
  obtain ⟨a, haa⟩ : ∃ a : Int, a = N + 1 := ⟨_, rfl⟩
  obtain ⟨g1, hg1⟩ : ∃ x, x = G1 (15 * N).toNat := ⟨_, rfl⟩
  obtain ⟨g2, hg2⟩ : ∃ x, x = G2 (15 * N).toNat := ⟨_, rfl⟩
  obtain ⟨lk, hlk⟩ : ∃ x, x = L (15 * N).toNat := ⟨_, rfl⟩
  rw [← hg1, ← hg2, ← hlk, ← haa]
  by_cases h5 : a < m
  ·have h6 : ¬ a ≤ 255 := fun h => by have := hNm a (by omega) h5 h; omega
   (conv => cbv)
   repeat' (first | assumption | ((first | rw [hln] | refine hx _ _ ?_ | refine stp ?_ | refine stpB (fun _ => ?_) (fun _ => ?_)) <;> (conv => cbv)) | exact stpF | fail)
   all_goals exact hk.fin0 rfl rfl (Wk.of_eq (by rw [hg1, hg2]))
  ·(conv => cbv)
   repeat' (first | assumption | ((first | rw [hln] | refine hx _ _ ?_ | refine stp ?_ | refine stpB (fun _ => ?_) (fun _ => ?_)) <;> (conv => cbv)) | exact stpF | fail)
   all_goals exact hk.fin0 rfl rfl (Wk.of_eq (by rw [hg1, hg2]))
end Go.Proofs.YtoeekjddeknmbaaGreat
