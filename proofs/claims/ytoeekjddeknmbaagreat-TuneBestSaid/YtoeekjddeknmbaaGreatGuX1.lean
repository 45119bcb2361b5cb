/-
  Contracts of functions of the program, proved over the abstract machine of the Al texts.
-/
import Derived.Test.YtoeekjddeknmbaaGreatTryTab
import Derived.Test.YtoeekjddeknmbaaGreatAl4
import Derived.Test.YtoeekjddeknmbaaGreatBaseX
import Derived.Test.YtoeekjddeknmbaaGreatBsX1
import Derived.Test.YtoeekjddeknmbaaGreatRbX
import Derived.Test.YtoeekjddeknmbaaGreatTuX1
import Derived.Test.YtoeekjddeknmbaaGreatRkX
import Derived.Test.YtoeekjddeknmbaaGreatTkX3
import Derived.Test.YtoeekjddeknmbaaGreatBsX8
set_option maxHeartbeats 4000000
set_option maxRecDepth 20000
set_option linter.unusedSimpArgs false
set_option linter.unusedVariables false
open Go Go.AL
namespace Go.Proofs.YtoeekjddeknmbaaGreat
def absZ (n : Int) : Int := if n < 0 then -n else n
theorem lsize_spec (n : Int) (h : Heap) (h0 : -4611686018427387904 ≤ n) (h1 : n ≤ 4611686018427387904) : Does PP 115 [I n] h (Is (I (absZ n)) h) := by
 obtain ⟨r, hr⟩ : ∃ r, r = absZ n := ⟨_, rfl⟩
 rw [← hr]
 refine pure0 ?_ rfl rfl h
 refine wlk Tryz.f115 ?_
 unhygienic intros
 have hu : u1 .neg .i64 n = 0 - n := by rw [hk.u1_neg]; exact wrap64 (by omega) (by omega)
 have hm : mx n (0 - n) = r := by
  rw [hk.mx_eq, hr, absZ]
  split <;> split <;> omega
 clear hr
 (conv => cbv)
 repeat' (first | assumption | ((first | rw [hu, hm] | refine stp ?_ | refine stpB (fun _ => ?_) (fun _ => ?_)) <;> (conv => cbv)) | exact stpF | fail)
 all_goals exact hk.fin0 rfl rfl (Wk.refl _ _)
theorem tclip_spec (n : Int) (h : Heap) : Does PP 117 [I n] h (Is (I (clipZ n)) h) := by
 obtain ⟨r, hr⟩ : ∃ r, r = clipZ n := ⟨_, rfl⟩
 rw [← hr]
 refine pure0 ?_ rfl rfl h
 refine wlk Tryz.f117 ?_
 unhygienic intros
 have hm : mn (mx n (-131072)) 131072 = r := by
  rw [hk.mx_eq, hk.mn_eq, hr, clipZ]
  split <;> split <;> (first | omega | (split <;> omega))
 clear hr
 (conv => cbv)
 repeat' (first | assumption | ((first | rw [hm] | refine stp ?_ | refine stpB (fun _ => ?_) (fun _ => ?_)) <;> (conv => cbv)) | exact stpF | fail)
 all_goals exact hk.fin0 rfl rfl (Wk.of_eq (by rw [hm]))
theorem rclip_spec (n : Int) (h : Heap) : Does PP 53 [I n] h (Is (I (clipZ n)) h) := by
 obtain ⟨r, hr⟩ : ∃ r, r = clipZ n := ⟨_, rfl⟩
 rw [← hr]
 refine pure0 ?_ rfl rfl h
 refine wlk Tryz.f53 ?_
 unhygienic intros
 have hm : mx (-131072) (mn 131072 n) = r := by
  rw [hk.mx_eq, hk.mn_eq, hr, clipZ]
  split <;> split <;> (first | omega | (split <;> omega))
 clear hr
 (conv => cbv)
 repeat' (first | assumption | ((first | rw [hm] | refine stp ?_ | refine stpB (fun _ => ?_) (fun _ => ?_)) <;> (conv => cbv)) | exact stpF | fail)
 all_goals exact hk.fin0 rfl rfl (Wk.of_eq (by rw [hm]))
theorem rhalf_spec (n : Int) (h : Heap) (h0 : -4611686018427387904 ≤ n) (h1 : n ≤ 4611686018427387904) : Does PP 95 [I n] h (Is (I (n / 2)) h) := by
 obtain ⟨r, hr⟩ : ∃ r, r = n / 2 := ⟨_, rfl⟩
 rw [← hr]
 refine pure0 ?_ rfl rfl h
 refine wlk Tryz.f95 ?_
 unhygienic intros
 have hd := tdiv_floor n 2 (by decide)
 have hq : i2 .quo .i64 n 2 = n.tdiv 2 := by rw [hk.i2_quo]; exact wrap64 (by omega) (by omega)
 have hm : i2 .rem .i64 n 2 = n.tmod 2 := hk.i2_rem _ _ _
 obtain ⟨q, hq0⟩ : ∃ q, q = n.tdiv 2 := ⟨_, rfl⟩
 obtain ⟨m, hm0⟩ : ∃ q, q = n.tmod 2 := ⟨_, rfl⟩
 have hrel : n = 2 * q + m := by rw [hq0, hm0]; exact (Int.mul_tdiv_add_tmod n 2).symm
 have hm1 : n < 0 → m ≤ 0 := fun h => by rw [hm0]; have := Int.neg_tmod (-n) 2; rw [Int.neg_neg] at this; rw [this]; have := Int.tmod_nonneg (a := -n) 2 (by omega); omega
 have hm2 : ¬ n < 0 → 0 ≤ m := fun h => by rw [hm0]; exact Int.tmod_nonneg 2 (by omega)
 rw [← hq0, ← hm0] at hd
 rw [← hq0] at hq
 rw [← hm0] at hm
 have hsu : i2 .sub .i64 q 1 = q - 1 := hk.sub64 _ _ (by omega) (by omega)
 have e1 : n < 0 → m ≠ 0 → q - 1 = r := fun a b => by have := hm1 a; rw [if_pos (by omega)] at hd; omega
 have e2 : m = 0 → q = r := fun a => by rw [if_neg (by omega)] at hd; omega
 have e3 : ¬ n < 0 → q = r := fun a => by have := hm2 a; rw [if_neg (by omega)] at hd; omega
 clear hq0 hm0 hr hd
 by_cases c1 : n < 0
 ·by_cases c2' : m = 0
  ·have e2 := e2 c2'
   (conv => cbv)
   repeat' (first | assumption | ((first | rw [hm] | rw [hq] | refine stp ?_ | refine stpB (fun _ => ?_) (fun _ => ?_)) <;> (conv => cbv)) | exact stpF | fail)
   all_goals exact hk.fin0 rfl rfl (Wk.of_eq (by rw [e2]))
  ·have e1 := e1 c1 c2'
   (conv => cbv)
   repeat' (first | assumption | ((first | rw [hm] | rw [hq] | rw [hsu] | refine stp ?_ | refine stpB (fun _ => ?_) (fun _ => ?_)) <;> (conv => cbv)) | exact stpF | fail)
   all_goals exact hk.fin0 rfl rfl (Wk.of_eq (by rw [e1]))
 ·have e3 := e3 c1
  (conv => cbv)
  repeat' (first | assumption | ((first | rw [hm] | rw [hq] | refine stp ?_ | refine stpB (fun _ => ?_) (fun _ => ?_)) <;> (conv => cbv)) | exact stpF | fail)
  all_goals exact hk.fin0 rfl rfl (Wk.of_eq (by rw [e3]))
theorem lnear_spec (p w : Int) (h : Heap) (hw0 : -4000000000000000000 ≤ w) (hw1 : w ≤ 4000000000000000000) : Does PP 80 [I p, I w] h (Is (I (nearI p w)) h) := by
 obtain ⟨T, hT⟩ : ∃ T, T = nearT p w := ⟨_, rfl⟩
 obtain ⟨R, hR⟩ : ∃ R : Int → Int, ∀ i, R i = refl_ p i := ⟨_, fun _ => rfl⟩
 obtain ⟨D, hD⟩ : ∃ D : Int → Int, ∀ i, D i = refl_ p i - w := ⟨_, fun _ => rfl⟩
 obtain ⟨O, hO⟩ : ∃ O : Nat → Nat, ∀ i, O i = lstK T i := ⟨_, fun _ => rfl⟩
 have hDr : ∀ i : Int, -64 ≤ i → i ≤ 63 → R i - w = D i ∧ -4611686018427387904 ≤ D i ∧ D i ≤ 4611686018427387904 := fun i a b => by
  have := refl_rg p i a b
  rw [hR, hD]; omega
 have hTD : ∀ i : Int, -64 ≤ i → i ≤ 63 → T (i + 64).toNat = absZ (D i) := fun i a b => by
  rw [hT, nearT, absZ, hD, show (((i + 64).toNat : Nat) : Int) - 64 = i by omega]
 have hT0 : ∀ j, 0 ≤ T j := fun j => by
  rw [hT, nearT]; split <;> omega
 have hO0 : O 0 = 0 := by rw [hO]; rfl
 have hOle : ∀ j, O j ≤ j := fun j => by rw [hO]; exact (lstK_spec T j).1
 have hOs : ∀ j, O (j + 1) = if T (j + 1) < T (O j) then j + 1 else O j := fun j => by rw [hO, hO, lstK]
 have hRes : nearI p w = (O 127 : Nat) - 64 := by rw [nearI, hO, hT]
 have hrf1 : ∀ i, R i = refl_ p i := hR
 obtain ⟨r9, hr9⟩ : ∃ x : Int, x = (O 127 : Nat) - 64 := ⟨_, rfl⟩
 rw [hRes, ← hr9]
 clear hRes hO
 have hrf : ∀ (i : Int) h, -64 ≤ i → i ≤ 63 → Does PP 116 [I p, I i] h (Is (I (R i)) h) := fun i h a b => by rw [hR]; exact lrefl_spec p i h a b
 have hsz : ∀ (i : Int) h, -64 ≤ i → i ≤ 63 → Does PP 115 [I (D i)] h (Is (I (T (i + 64).toNat)) h) := fun i h a b => by
  rw [hTD i a b]; exact lsize_spec _ h (hDr i a b).2.1 (hDr i a b).2.2
 have hst : ∀ i : Int, -64 ≤ i → i ≤ 63 → (T (i + 64).toNat < T (O (i + 63).toNat) → ((O (i + 1 + 63).toNat : Nat) : Int) - 64 = i) ∧ (¬ T (i + 64).toNat < T (O (i + 63).toNat) → O (i + 1 + 63).toNat = O (i + 63).toNat) := fun i a b => by
  rcases Int.lt_or_eq_of_le a with h | h
  ·have e := hOs (i + 63).toNat
   rw [show (i + 63).toNat + 1 = (i + 64).toNat by omega] at e
   rw [show (i + 1 + 63).toNat = (i + 64).toNat by omega, e]
   constructor
   ·intro h2; rw [if_pos h2]; omega
   ·intro h2; rw [if_neg h2]
  ·subst h
   rw [show ((-64 : Int) + 64).toNat = 0 by decide, show ((-64 : Int) + 63).toNat = 0 by decide, show ((-64 : Int) + 1 + 63).toNat = 0 by decide, hO0]
   exact ⟨fun h => absurd h (by omega), fun _ => rfl⟩
 have hOr : ∀ i : Int, -64 ≤ i → i ≤ 64 → -64 ≤ ((O (i + 63).toNat : Nat) : Int) - 64 ∧ ((O (i + 63).toNat : Nat) : Int) - 64 ≤ 63 := fun i a b => by
  have := hOle (i + 63).toNat; omega
 clear hT hR hD hTD hOs hOle hrf1
 refine pure0 ?_ rfl rfl h
 refine wlk Tryz.f80 ?_
 unhygienic intros
 have hsu : ∀ i, -64 ≤ i → i ≤ 63 → i2 .sub .i64 (R i) w = D i := fun i a b => by
  obtain ⟨d1, d2, d3⟩ := hDr i a b
  rw [← d1]; exact hk.sub64 _ _ (by omega) (by omega)
 (conv => cbv)
 repeat' (first | assumption | ((first | refine stp ?_ | refine stpB (fun _ => ?_) (fun _ => ?_)) <;> (conv => cbv)) | exact stpF | fail)
 refine hk.loopI (loop_rule (α := Int) (fun i => [(0, .int .i64 p), (1, .int .i64 w), (4, .int .i64 0), (5, .int .i64 (((O (i + 63).toNat : Nat) : Int) - 64)), (6, .int .i64 i)]) (fun _ => [])
  (fun i => -64 ≤ i ∧ i ≤ 64) (fun i => (64 - i).toNat) (-64) ⟨by omega, by omega⟩ ?_ ?_)
 ·rw [show ((-64 : Int) + 63).toNat = 0 by decide, hO0]
  exact ghT
 intro i ⟨hi, hi2⟩ Q' hb hx hr
 by_cases h2 : i ≤ 63
 ·obtain ⟨s1, s2⟩ := hst i hi h2
  obtain ⟨o1, o2⟩ := hOr i hi (by omega)
  obtain ⟨o, ho⟩ : ∃ o : Int, o = ((O (i + 63).toNat : Nat) : Int) - 64 := ⟨_, rfl⟩
  rw [← ho] at o1 o2 ⊢
  have r1 := fun h => hrf i h hi h2
  have r2 := fun h => hrf o h o1 o2
  have z1 := fun h => hsz i h hi h2
  have z2 := fun h => hsz o h o1 o2
  have u1' := hsu i hi h2
  have u2 := hsu o o1 o2
  rw [show (o + 64).toNat = O (i + 63).toNat by omega] at z2
  obtain ⟨t1, ht1⟩ : ∃ t, t = T (i + 64).toNat := ⟨_, rfl⟩
  obtain ⟨t2, ht2⟩ : ∃ t, t = T (O (i + 63).toNat) := ⟨_, rfl⟩
  obtain ⟨x1, hx1⟩ : ∃ t, t = R i := ⟨_, rfl⟩
  obtain ⟨x2, hx2⟩ : ∃ t, t = R o := ⟨_, rfl⟩
  obtain ⟨y1, hy1⟩ : ∃ t, t = D i := ⟨_, rfl⟩
  obtain ⟨y2, hy2⟩ : ∃ t, t = D o := ⟨_, rfl⟩
  simp only [← ht1, ← ht2, ← hx1, ← hx2, ← hy1, ← hy2] at *
  by_cases h3 : t1 < t2
  ·have s1 := s1 h3
   clear s2
   (conv => cbv)
   repeat' (first | assumption | ((first | rw [u1'] | rw [u2] | refine stp ?_ | refine stpB (fun _ => ?_) (fun _ => ?_)) <;> (conv => cbv)) | exact stpF | fail)
   refine hb (i + 1) _ ⟨by omega, by omega⟩ (by omega) ?_
   rw [s1]
   refine Gh.tm ?_
   repeat' (first | exact Holds.nil _ _ | refine Holds.cons (Wk.refl _ _) ?_ | refine Holds.cons (Wk.of_eq ?_) ?_)
   all_goals first
    | (rw [← hk.add64 i 1 (by omega) (by omega)]; rfl)
    | rfl
    | skip
  ·have s2 := s2 h3
   clear s1
   (conv => cbv)
   repeat' (first | assumption | ((first | rw [u1'] | rw [u2] | refine stp ?_ | refine stpB (fun _ => ?_) (fun _ => ?_)) <;> (conv => cbv)) | exact stpF | fail)
   refine hb (i + 1) _ ⟨by omega, by omega⟩ (by omega) ?_
   rw [s2, ← ho]
   refine Gh.tm ?_
   repeat' (first | exact Holds.nil _ _ | refine Holds.cons (Wk.refl _ _) ?_ | refine Holds.cons (Wk.of_eq ?_) ?_)
   all_goals first
    | (rw [← hk.add64 i 1 (by omega) (by omega)]; rfl)
    | rfl
    | skip
 ·have : i = 64 := by omega
  subst this
  obtain ⟨r, hr0⟩ : ∃ o : Int, o = ((O ((64 : Int) + 63).toNat : Nat) : Int) - 64 := ⟨_, rfl⟩
  rw [← hr0]
  rw [show ((64 : Int) + 63).toNat = 127 by decide, ← hr9] at hr0
  (conv => cbv)
  repeat' (first | assumption | ((first | refine hx _ _ ?_ | refine stp ?_ | refine stpB (fun _ => ?_) (fun _ => ?_)) <;> (conv => cbv)) | exact stpF | fail)
  all_goals exact hk.fin0 rfl rfl (Wk.of_eq (by rw [hr0]))
theorem rnear_spec (p w : Int) (h : Heap) (hw0 : -4000000000000000000 ≤ w) (hw1 : w ≤ 4000000000000000000) : Does PP 51 [I p, I w] h (Is (I (nearI p w)) h) := by
 obtain ⟨T, hT⟩ : ∃ T, T = nearT p w := ⟨_, rfl⟩
 obtain ⟨R, hR⟩ : ∃ R : Int → Int, ∀ i, R i = refl_ p i := ⟨_, fun _ => rfl⟩
 obtain ⟨D, hD⟩ : ∃ D : Int → Int, ∀ i, D i = refl_ p i - w := ⟨_, fun _ => rfl⟩
 obtain ⟨O, hO⟩ : ∃ O : Nat → Nat, ∀ i, O i = lstK T i := ⟨_, fun _ => rfl⟩
 have hDr : ∀ i : Int, -64 ≤ i → i ≤ 63 → R i - w = D i ∧ -4611686018427387904 ≤ D i ∧ D i ≤ 4611686018427387904 := fun i a b => by
  have := refl_rg p i a b
  rw [hR, hD]; omega
 have hTD : ∀ i : Int, -64 ≤ i → i ≤ 63 → T (i + 64).toNat = absZ (D i) := fun i a b => by
  rw [hT, nearT, absZ, hD, show (((i + 64).toNat : Nat) : Int) - 64 = i by omega]
 have hT0 : ∀ j, 0 ≤ T j := fun j => by
  rw [hT, nearT]; split <;> omega
 have hO0 : O 0 = 0 := by rw [hO]; rfl
 have hOle : ∀ j, O j ≤ j := fun j => by rw [hO]; exact (lstK_spec T j).1
 have hOs : ∀ j, O (j + 1) = if T (j + 1) < T (O j) then j + 1 else O j := fun j => by rw [hO, hO, lstK]
 have hRes : nearI p w = (O 127 : Nat) - 64 := by rw [nearI, hO, hT]
 have hrf1 : ∀ i, R i = refl_ p i := hR
 obtain ⟨r9, hr9⟩ : ∃ x : Int, x = (O 127 : Nat) - 64 := ⟨_, rfl⟩
 rw [hRes, ← hr9]
 clear hRes hO
 have hrf : ∀ (i : Int) h, -64 ≤ i → i ≤ 63 → Does PP 52 [I p, I i] h (Is (I (R i)) h) := fun i h a b => by rw [hR]; exact rrefl_spec p i h a b
 obtain ⟨U, hU⟩ : ∃ U : Int → Int, ∀ i, U i = if i = -64 then 0 else ((O (i + 63).toNat : Nat) : Int) - 64 := ⟨_, fun _ => rfl⟩
 obtain ⟨V, hV⟩ : ∃ U : Int → Int, ∀ i, U i = if i = -64 then -1 else T (O (i + 63).toNat) := ⟨_, fun _ => rfl⟩
 have hst : ∀ i : Int, -64 ≤ i → i ≤ 63 → (V i < 0 ∨ absZ (D i) < V i → U (i + 1) = i ∧ V (i + 1) = absZ (D i)) ∧ (¬ (V i < 0 ∨ absZ (D i) < V i) → U (i + 1) = U i ∧ V (i + 1) = V i) := fun i a b => by
  have hTD := hTD i a b
  rw [← hTD, hU (i + 1), hV (i + 1), if_neg (by omega), if_neg (by omega), show (i + 1 + 63).toNat = (i + 64).toNat by omega]
  rcases Int.lt_or_eq_of_le a with h | h
  ·have e := hOs (i + 63).toNat
   rw [show (i + 63).toNat + 1 = (i + 64).toNat by omega] at e
   rw [hU i, hV i, if_neg (by omega), if_neg (by omega), e]
   have := hT0 (O (i + 63).toNat)
   constructor
   ·intro h2
    have h3 : T (i + 64).toNat < T (O (i + 63).toNat) := by omega
    rw [if_pos h3]
    exact ⟨by omega, rfl⟩
   ·intro h2
    rw [if_neg (fun h => h2 (.inr h))]
    exact ⟨rfl, rfl⟩
  ·subst h
   rw [hV, if_pos rfl, show ((-64 : Int) + 64).toNat = 0 by decide, hO0]
   exact ⟨fun _ => ⟨rfl, rfl⟩, fun h => absurd (.inl (by decide)) h⟩
 have hres : r9 = U 64 := by rw [hr9, hU, if_neg (by decide)]; rfl
 have hU0 : U (-64) = 0 := by rw [hU, if_pos rfl]
 have hV0 : V (-64) = -1 := by rw [hV, if_pos rfl]
 clear hT hR hD hTD hOs hOle hrf1 hU hV
 refine pure0 ?_ rfl rfl h
 refine wlk Tryz.f51 ?_
 unhygienic intros
 have hsu : ∀ i, -64 ≤ i → i ≤ 63 → i2 .sub .i64 (R i) w = D i := fun i a b => by
  obtain ⟨d1, d2, d3⟩ := hDr i a b
  rw [← d1]; exact hk.sub64 _ _ (by omega) (by omega)
 (conv => cbv)
 repeat' (first | assumption | ((first | refine stp ?_ | refine stpB (fun _ => ?_) (fun _ => ?_)) <;> (conv => cbv)) | exact stpF | fail)
 refine hk.loopI (loop_rule (α := Int) (fun i => [(0, .int .i64 p), (1, .int .i64 w), (4, .int .i64 0), (5, .int .i64 (U i)), (6, .int .i64 (V i)), (7, .int .i64 i)]) (fun _ => [])
  (fun i => -64 ≤ i ∧ i ≤ 64) (fun i => (64 - i).toNat) (-64) ⟨by omega, by omega⟩ ?_ ?_)
 ·rw [hU0, hV0]
  exact ghT
 intro i ⟨hi, hi2⟩ Q' hb hx hr
 by_cases h2 : i ≤ 63
 ·obtain ⟨s1, s2⟩ := hst i hi h2
  have r1 := fun h => hrf i h hi h2
  have u2 := hsu i hi h2
  obtain ⟨d1, d2, d3⟩ := hDr i hi h2
  obtain ⟨x1, hx1⟩ : ∃ t, t = R i := ⟨_, rfl⟩
  obtain ⟨y1, hy1⟩ : ∃ t, t = D i := ⟨_, rfl⟩
  obtain ⟨U0, hU00⟩ : ∃ t, t = U i := ⟨_, rfl⟩
  obtain ⟨V0, hV00⟩ : ∃ t, t = V i := ⟨_, rfl⟩
  obtain ⟨U1, hU10⟩ : ∃ t, t = U (i + 1) := ⟨_, rfl⟩
  obtain ⟨V1, hV10⟩ : ∃ t, t = V (i + 1) := ⟨_, rfl⟩
  simp only [← hx1, ← hy1, ← hU00, ← hV00, ← hU10, ← hV10] at r1 u2 d1 d2 d3 s1 s2 ⊢
  have hng : y1 < 0 → u1 .neg .i64 y1 = absZ y1 := fun h => by rw [hk.u1_neg, absZ, if_pos h]; rw [show 0 - y1 = -y1 by omega]; exact wrap64 (by omega) (by omega)
  have hps : ¬ y1 < 0 → y1 = absZ y1 := fun h => by rw [absZ, if_neg h]
  obtain ⟨z, hz⟩ : ∃ t, t = absZ y1 := ⟨_, rfl⟩
  simp only [← hz] at hng hps s1 s2
  clear hz
  by_cases h3 : y1 < 0
  ·have hng := hng h3
   by_cases h4 : V0 < 0
   ·obtain ⟨e1, e2⟩ := s1 (.inl h4)
    clear s1 s2
    (conv => cbv)
    repeat' (first | assumption | ((first | rw [u2] | rw [hng] | refine stp ?_ | refine stpB (fun _ => ?_) (fun _ => ?_)) <;> (conv => cbv)) | exact stpF | fail)
    refine hb (i + 1) _ ⟨by omega, by omega⟩ (by omega) ?_
    rw [← hU10, ← hV10, e1, e2]
    refine Gh.tm ?_
    repeat' (first | exact Holds.nil _ _ | refine Holds.cons (Wk.refl _ _) ?_ | refine Holds.cons (Wk.of_eq ?_) ?_)
    all_goals first
     | (rw [← hk.add64 i 1 (by omega) (by omega)]; rfl)
     | rfl
     | skip
   ·by_cases h5 : z < V0
    ·obtain ⟨e1, e2⟩ := s1 (.inr h5)
     clear s1 s2
     (conv => cbv)
     repeat' (first | assumption | ((first | rw [u2] | rw [hng] | refine stp ?_ | refine stpB (fun _ => ?_) (fun _ => ?_)) <;> (conv => cbv)) | exact stpF | fail)
     refine hb (i + 1) _ ⟨by omega, by omega⟩ (by omega) ?_
     rw [← hU10, ← hV10, e1, e2]
     refine Gh.tm ?_
     repeat' (first | exact Holds.nil _ _ | refine Holds.cons (Wk.refl _ _) ?_ | refine Holds.cons (Wk.of_eq ?_) ?_)
     all_goals first
      | (rw [← hk.add64 i 1 (by omega) (by omega)]; rfl)
      | rfl
      | skip
    ·obtain ⟨e1, e2⟩ := s2 (by omega)
     clear s1 s2
     (conv => cbv)
     repeat' (first | assumption | ((first | rw [u2] | rw [hng] | refine stp ?_ | refine stpB (fun _ => ?_) (fun _ => ?_)) <;> (conv => cbv)) | exact stpF | fail)
     refine hb (i + 1) _ ⟨by omega, by omega⟩ (by omega) ?_
     rw [← hU10, ← hV10, e1, e2]
     refine Gh.tm ?_
     repeat' (first | exact Holds.nil _ _ | refine Holds.cons (Wk.refl _ _) ?_ | refine Holds.cons (Wk.of_eq ?_) ?_)
     all_goals first
      | (rw [← hk.add64 i 1 (by omega) (by omega)]; rfl)
      | rfl
      | skip
  ·have hps := hps h3
   by_cases h4 : V0 < 0
   ·obtain ⟨e1, e2⟩ := s1 (.inl h4)
    clear s1 s2
    (conv => cbv)
    repeat' (first | assumption | ((first | rw [u2] | refine stp ?_ | refine stpB (fun _ => ?_) (fun _ => ?_)) <;> (conv => cbv)) | exact stpF | fail)
    refine hb (i + 1) _ ⟨by omega, by omega⟩ (by omega) ?_
    rw [← hU10, ← hV10, e1, e2, ← hps]
    refine Gh.tm ?_
    repeat' (first | exact Holds.nil _ _ | refine Holds.cons (Wk.refl _ _) ?_ | refine Holds.cons (Wk.of_eq ?_) ?_)
    all_goals first
     | (rw [← hk.add64 i 1 (by omega) (by omega)]; rfl)
     | rfl
     | skip
   ·by_cases h5 : z < V0
    ·obtain ⟨e1, e2⟩ := s1 (.inr h5)
     clear s1 s2
     (conv => cbv)
     repeat' (first | assumption | ((first | rw [u2] | refine stp ?_ | refine stpB (fun _ => ?_) (fun _ => ?_)) <;> (conv => cbv)) | exact stpF | fail)
     refine hb (i + 1) _ ⟨by omega, by omega⟩ (by omega) ?_
     rw [← hU10, ← hV10, e1, e2, ← hps]
     refine Gh.tm ?_
     repeat' (first | exact Holds.nil _ _ | refine Holds.cons (Wk.refl _ _) ?_ | refine Holds.cons (Wk.of_eq ?_) ?_)
     all_goals first
      | (rw [← hk.add64 i 1 (by omega) (by omega)]; rfl)
      | rfl
      | skip
    ·obtain ⟨e1, e2⟩ := s2 (by omega)
     clear s1 s2
     (conv => cbv)
     repeat' (first | assumption | ((first | rw [u2] | refine stp ?_ | refine stpB (fun _ => ?_) (fun _ => ?_)) <;> (conv => cbv)) | exact stpF | fail)
     refine hb (i + 1) _ ⟨by omega, by omega⟩ (by omega) ?_
     rw [← hU10, ← hV10, e1, e2]
     refine Gh.tm ?_
     repeat' (first | exact Holds.nil _ _ | refine Holds.cons (Wk.refl _ _) ?_ | refine Holds.cons (Wk.of_eq ?_) ?_)
     all_goals first
      | (rw [← hk.add64 i 1 (by omega) (by omega)]; rfl)
      | rfl
      | skip
 ·have : i = 64 := by omega
  subst this
  obtain ⟨r, hr0⟩ : ∃ o : Int, o = U 64 := ⟨_, rfl⟩
  obtain ⟨v, hv0⟩ : ∃ o : Int, o = V 64 := ⟨_, rfl⟩
  rw [← hr0, ← hv0]
  (conv => cbv)
  repeat' (first | assumption | ((first | refine hx _ _ ?_ | refine stp ?_ | refine stpB (fun _ => ?_) (fun _ => ?_)) <;> (conv => cbv)) | exact stpF | fail)
  all_goals exact hk.fin0 rfl rfl (Wk.of_eq (by rw [hr0, hres]))
def mixL (n : Nat) (f g : Nat → Int) (i : Nat) : List Int := (List.range n).map fun j => if j < i then f j else g j
theorem mixL_len (n : Nat) (f g : Nat → Int) (i : Nat) : (mixL n f g i).length = n := by simp [mixL]
theorem mixL_get (n : Nat) (f g : Nat → Int) (i j : Nat) (h : j < n) : (mixL n f g i).getD j 0 = if j < i then f j else g j := rmap_get n _ j h
theorem mixL_set (n : Nat) (f g : Nat → Int) (i : Nat) (h : i < n) : (mixL n f g i).set i (f i) = mixL n f g (i + 1) := by
 apply List.ext_getElem (by simp [mixL])
 intro j h1 h2
 simp only [mixL, List.getElem_set, List.getElem_map, List.getElem_range]
 by_cases e : i = j
 ·subst e; simp
 ·rw [if_neg e]
  by_cases h3 : j < i
  ·rw [if_pos h3, if_pos (by omega)]
  ·rw [if_neg h3, if_neg (by omega)]
theorem mixL_zero (n : Nat) (f g : Nat → Int) : mixL n f g 0 = (List.range n).map g := by simp [mixL]
theorem mixL_full (n : Nat) (f g : Nat → Int) : mixL n f g n = (List.range n).map f := by
 unfold mixL
 apply List.map_congr_left
 intro j hj
 rw [List.mem_range] at hj
 rw [if_pos hj]
theorem self_map (l : List Int) : (List.range l.length).map (fun j => l.getD j 0) = l := by
 apply List.ext_getElem (by simp)
 intro j h1 h2
 simp [List.getD_eq_getElem?_getD, h2]
theorem half_map (l : List Int) : (List.range l.length).map (fun j => l.getD j 0 / 2) = halfL l := by
 apply List.ext_getElem (by simp [halfL])
 intro j h1 h2
 have h2 : j < l.length := by simpa [halfL] using h2
 simp [halfL, List.getD_eq_getElem?_getD, h2]
theorem scaled1_spec (n : Int) (h : Heap) : Does PP 114 [I n] h (Is (.bool (bigP n)) h) := by
 obtain ⟨r, hr⟩ : ∃ r, r = bigP n := ⟨_, rfl⟩
 rw [← hr]
 refine pure0 ?_ rfl rfl h
 refine wlk Tryz.f114 ?_
 unhygienic intros
 have h1 : n < -65536 → r = true := fun h => by rw [hr, bigP, decide_eq_true h]; rfl
 have h2 : ¬ n < -65536 → r = decide (65536 ≤ n) := fun h => by rw [hr, bigP, decide_eq_false h, Bool.false_or]
 clear hr
 (conv => cbv)
 repeat' (first | assumption | ((first | refine stp ?_ | refine stpB (fun _ => ?_) (fun _ => ?_)) <;> (conv => cbv)) | exact stpF | fail)
 all_goals first
  | exact hk.fin0 rfl rfl (Wk.of_eq (by rw [h1 (by assumption)]))
  | exact hk.fin0 rfl rfl (Wk.of_eq (by rw [h2 (by assumption), hk.c2_geq]))
theorem indexS_spec (l : List Int) (g : Nat) (n : Int) (fid : Nat) (gg : Int → Bool) (hn : n = (l.length : Nat)) (hn2 : n ≤ 1024) (hg : ∀ n h, Does PP fid [.int .i64 n] h (Is (.bool (gg n)) h)) :
 Does PP 75 [.sl 0 g 0 n, .clo (.func fid) [] []] [.rw g (.il .i64 l)] (Is (I (findI gg l)) [.rw g (.il .i64 l)]) := by
 obtain ⟨r, hr0⟩ : ∃ r, r = findI gg l := ⟨_, rfl⟩
 rw [← hr0]
 obtain ⟨h0, hh0⟩ : ∃ h0 : Heap, h0 = [.rw g (.il .i64 l)] := ⟨_, rfl⟩
 have hg' := fun n => hg n [.rw g (.il .i64 l)]
 refine wlk Tryz.f75 ?_
 unhygienic intros
 have hln : lnI l = n := by rw [hk.lnI_eq]; omega
 have hgl := hk.gtI_eq l
 have hbq : Nat.beq g g = true := Nat.beq_refl g
 conv at hbq => cbv
 (conv => cbv)
 repeat' (first | assumption | ((first | rw [hbq] | rw [hln] | refine stp ?_ | refine stpB (fun _ => ?_) (fun _ => ?_)) <;> (conv => cbv)) | exact stpF | fail)
 refine hk.loopI (loop_rule (α := Int) (fun i => [(1, .clo (.func fid) [] []), (0, .sl 0 g 0 n), (7, .int .i64 n), (8, .int .i64 i)]) (fun i => [.rw g (.il .i64 l)])
  (fun i => 0 ≤ i ∧ i ≤ n ∧ ∀ j, j < i.toNat → gg (l.getD j 0) = false) (fun i => (n - i).toNat) 0 ⟨by omega, by omega, upto_zero⟩ ?_ ?_)
 ·exact ghT
 intro i ⟨hi, hi2, hi3⟩ Q' hb hx hr
 (conv => cbv)
 refine hk.brLss (fun hlt => ?_) (fun hge => ?_)
 ·obtain ⟨y, hy⟩ : ∃ y, y = gtI l i := ⟨_, rfl⟩
  obtain ⟨b, hb0⟩ : ∃ b, b = gg y := ⟨_, rfl⟩
  have hg'' := hg' y
  rw [← hb0] at hg''
  have hyl := hy
  rw [hgl] at hyl
  (conv => cbv)
  repeat' (first | assumption | ((first | rw [hbq] | rw [hln] | refine hk.idxI hi hlt ?_ | rw [← hy] | refine hk.callA hg'' ?_ | refine hk.calldA (fun h => by have := hg y h; rw [← hb0] at this; exact this) ?_ | refine stp ?_ | refine stpB (fun _ => ?_) (fun _ => ?_)) <;> (conv => cbv)) | exact stpF | fail)
  cases b
  ·(conv => cbv)
   repeat' (first | assumption | ((first | refine stp ?_ | refine stpB (fun _ => ?_) (fun _ => ?_)) <;> (conv => cbv)) | exact stpF | fail)
   refine hb (i + 1) _ ⟨by omega, by omega, upto_step hi hi3 (by rw [← hyl]; exact hb0.symm)⟩ (by omega) ?_
   refine Gh.tm ?_
   repeat' (first | exact Holds.nil _ _ | refine Holds.cons (Wk.refl _ _) ?_ | refine Holds.cons (Wk.of_eq ?_) ?_)
   all_goals first
    | (rw [← hk.add64 i 1 (by omega) (by omega)]; rfl)
    | rfl
    | skip
  ·refine hr _ ?_
   (conv => cbv)
   exact hk.fin1 (congrArg _ (by rw [hr0]; exact find_some hi (by omega) hi3 (by rw [← hyl]; exact hb0.symm)))
 ·refine hx _ _ ?_
  (conv => cbv)
  exact hk.fin1 (congrArg _ (by rw [hr0]; exact find_none (by omega) hi3))
theorem containsS_spec (l : List Int) (g : Nat) (n : Int) (fid : Nat) (gg : Int → Bool) (hn : n = (l.length : Nat)) (hn2 : n ≤ 1024) (hg : ∀ n h, Does PP fid [.int .i64 n] h (Is (.bool (gg n)) h)) :
 Does PP 36 [.sl 0 g 0 n, .clo (.func fid) [] []] [.rw g (.il .i64 l)] (Is (.bool (l.any gg)) [.rw g (.il .i64 l)]) := by
 have hix := indexS_spec l g n fid gg hn hn2 hg
 have hfa := find_any gg l
 obtain ⟨r, hr0⟩ : ∃ r, r = findI gg l := ⟨_, rfl⟩
 obtain ⟨b, hb0⟩ : ∃ b, b = l.any gg := ⟨_, rfl⟩
 rw [← hr0] at hix
 rw [← hr0, ← hb0] at hfa
 rw [← hb0]
 refine wlk Tryz.f36 ?_
 unhygienic intros
 (conv => cbv)
 refine hk.callA hix ?_
 (conv => cbv)
 refine hk.fin1 ?_
 show AVal.bool (c2 .geq r 0) = _
 rw [hk.c2_geq, hfa]
theorem tscaled_spec (l : List Int) (n : Int) (hn : n = (l.length : Nat)) (h1 : 1 ≤ n) (h2 : n ≤ 1024) (hs : ∀ i, i < l.length → -67108864 ≤ l.getD i 0 ∧ l.getD i 0 ≤ 67108864) :
 Does PP 79 [LI l] [] (Is (.sl 0 1 0 n) [.rw 1 (.il .i64 (scl l))]) := by
 have hcl := cloneR_spec l n hn h1 h2
 obtain ⟨R, hR⟩ : ∃ R, R = scl l := ⟨_, rfl⟩
 rw [← hR]
 have hct := fun (x : List Int) (hx : n = (x.length : Nat)) => containsS_spec x 1 n 114 bigP hx h2 (fun n h => scaled1_spec n h)
 refine wlk Tryz.f79 ?_
 unhygienic intros
 (conv => cbv)
 repeat' (first | assumption | ((first | refine hk.callA hcl ?_ | refine stp ?_ | refine stpB (fun _ => ?_) (fun _ => ?_)) <;> (conv => cbv)) | exact stpF | fail)
 refine hk.loopI (loop_rule (α := Nat × List Int) (fun _ => [(2, .ls .nl .nil), (3, .sl 0 1 0 n)]) (fun x => [.rw 1 (.il .i64 x.2)])
  (fun x => n = (x.2.length : Nat) ∧ BdF x.1 x.2 ∧ sclG x.1 x.2 = R) (fun x => x.1) (12, l) ⟨hn, small_bdF hs, hR.symm⟩ ?_ ?_)
 ·exact ghT
 intro ⟨f, x⟩ ⟨hx, hbd, hu⟩ Q' hb hxx hr
 simp only at hx hbd hu
 dsimp only
 have hct := hct x hx
 cases hany : x.any bigP
 ·have hxR : x = R := by
   rw [← hu]
   cases f with
   | zero => rfl
   | succ f => rw [sclG, hany]; rfl
  rw [hany] at hct
  clear hany hu hbd
  subst hxR
  (conv => cbv)
  repeat' (first | assumption | ((first | refine hk.callA hct ?_ | refine hxx _ _ ?_ | refine stp ?_ | refine stpB (fun _ => ?_) (fun _ => ?_)) <;> (conv => cbv)) | exact stpF | fail)
  all_goals exact hk.fin1 rfl
 ·rw [hany] at hct
  obtain ⟨f, rfl⟩ : ∃ f', f = f' + 1 := by
   cases f with
   | zero => rw [bdF_zero hbd] at hany; cases hany
   | succ f => exact ⟨f, rfl⟩
  rw [sclG, if_pos hany] at hu
  have hbd := bdF_half hbd
  clear hany
  obtain ⟨H, hH⟩ : ∃ H : Int → List Int, ∀ i, H i = mixL x.length (fun j => x.getD j 0 / 2) (fun j => x.getD j 0) i.toNat := ⟨_, fun _ => rfl⟩
  have hH0 : H 0 = x := by rw [hH]; exact (mixL_zero _ _ _).trans (self_map x)
  have hHn : H n = halfL x := by rw [hH, show n.toNat = x.length by omega, mixL_full, half_map]
  have hHl : ∀ i, (H i).length = x.length := fun i => by rw [hH, mixL_len]
  have hHg : ∀ i : Int, 0 ≤ i → i < n → (H i).getD i.toNat 0 = x.getD i.toNat 0 := fun i a b => by rw [hH, mixL_get _ _ _ _ _ (by omega), if_neg (by omega)]
  have hHs : ∀ i : Int, 0 ≤ i → i < n → (H i).set i.toNat (x.getD i.toNat 0 / 2) = H (i + 1) := fun i a b => by
   rw [hH, hH, show (i + 1).toNat = i.toNat + 1 by omega]
   exact mixL_set x.length (fun j => x.getD j 0 / 2) (fun j => x.getD j 0) i.toNat (by omega)
  have hln : lnI x = n := by rw [hk.lnI_eq]; omega
  have hgt := hk.gtI_eq
  have hset := hk.stI_eq
  have hlen := hk.lnI_eq
  have had : ∀ i, 0 ≤ i → ad 0 i = i := fun i a => by rw [hk.ad_eq]; omega
  have hs0 : sbt n 0 = n := by rw [hk.sb_eq]; omega
  have hshr : ∀ y, i2 .shr .i64 y 1 = y / 2 := fun y => by
   rw [hk.i2_eq]
   show (_ : Int).fdiv (2 ^ (min (1 : Int).toNat 64)) = _
   rw [show min (1 : Int).toNat 64 = 1 by decide, Int.fdiv_eq_ediv_of_nonneg _ (by decide)]
   rfl
  obtain ⟨y, hy⟩ : ∃ y, y = halfL x := ⟨_, rfl⟩
  rw [← hy] at hHn hu hbd
  (conv => cbv)
  repeat' (first | assumption | ((first | refine hk.callA hct ?_ | rw [hln] | rw [hs0] | refine stp ?_ | refine stpB (fun _ => ?_) (fun _ => ?_)) <;> (conv => cbv)) | exact stpF | fail)
  refine hk.loopI (loop_rule (α := Int) (fun i => [(2, .ls .nl .nil), (3, .sl 0 1 0 n), (10, .int .i64 n), (11, .int .i64 i)]) (fun i => [.rw 1 (.il .i64 (H i))])
   (fun i => 0 ≤ i ∧ i ≤ n) (fun i => (n - i).toNat) 0 ⟨by omega, by omega⟩ ?_ ?_)
  ·rw [hH0]
   exact ghT
  intro i ⟨hi, hi2⟩ Q2 hb2 hx2 hr2
  by_cases h3 : i < n
  ·have hg := hHg i hi h3
   have hset := hset (H i) i (x.getD i.toNat 0 / 2)
   rw [hHs i hi h3] at hset
   have hlH := hlen (H i)
   rw [hHl] at hlH
   have hlH : lnI (H i) = n := by omega
   have hgi := hgt (H i) i
   rw [hg] at hgi
   obtain ⟨v, hv⟩ : ∃ v, v = x.getD i.toNat 0 := ⟨_, rfl⟩
   rw [← hv] at hgi hset
   have hshr := hshr v
   obtain ⟨w, hw⟩ : ∃ w, w = v / 2 := ⟨_, rfl⟩
   rw [← hw] at hset hshr
   obtain ⟨H0, hH00⟩ : ∃ v, v = H i := ⟨_, rfl⟩
   obtain ⟨H1, hH10⟩ : ∃ v, v = H (i + 1) := ⟨_, rfl⟩
   rw [← hH00, ← hH10] at hset
   rw [← hH00] at hgi hlH ⊢
   have had := had i hi
   clear hw hv hg
   (conv => cbv)
   repeat' (first | assumption | ((first | rw [hs0] | rw [had] | rw [hlH] | rw [hgi] | rw [hshr] | rw [hset] | refine hk.idxI hi h3 ?_ | refine stp ?_ | refine stpB (fun _ => ?_) (fun _ => ?_)) <;> (conv => cbv)) | exact stpF | fail)
   refine hb2 (i + 1) _ ⟨by omega, by omega⟩ (by omega) ?_
   rw [← hH10]
   refine Gh.tm ?_
   repeat' (first | exact Holds.nil _ _ | refine Holds.cons (Wk.refl _ _) ?_ | refine Holds.cons (Wk.of_eq ?_) ?_)
   all_goals first
    | (rw [← hk.add64 i 1 (by omega) (by omega)]; rfl)
    | rfl
    | skip
  ·have : i = n := by omega
   subst this
   rw [hHn]
   (conv => cbv)
   repeat' (first | assumption | ((first | refine hx2 _ _ ?_ | refine stp ?_ | refine stpB (fun _ => ?_) (fun _ => ?_)) <;> (conv => cbv)) | exact stpF | fail)
   refine hb (f, y) _ ⟨by simp only; rw [hy, halfL_len]; exact hx, hbd, hu⟩ (by simp only; omega) ?_
   dsimp only
   refine Gh.tm ?_
   repeat' (first | exact Holds.nil _ _ | refine Holds.cons (Wk.refl _ _) ?_ | refine Holds.cons (Wk.of_eq ?_) ?_)
theorem rgreat_spec (l : List Int) (n : Int) (hn : n = (l.length : Nat)) (h2 : n ≤ 1024) : Does PP 94 [.sl 0 1 0 n] [.rw 1 (.il .i64 l)] (Is (.bool (l.any bigP)) [.rw 1 (.il .i64 l)]) := by
 have hf1 : ∀ i : Int, 0 ≤ i → i < n → (l.getD i.toNat 0 > 65535 ∨ l.getD i.toNat 0 < -65536) → l.any bigP = true := fun i a b h => by
  rw [List.any_eq_true]
  refine ⟨l.getD i.toNat 0, by rw [List.getD_eq_getElem?_getD, List.getElem?_eq_getElem (by omega)]; exact List.getElem_mem _, ?_⟩
  unfold bigP
  simp only [Bool.or_eq_true, decide_eq_true_eq]
  omega
 have hf2 : (∀ j, j < n.toNat → ¬ (l.getD j 0 > 65535 ∨ l.getD j 0 < -65536)) → l.any bigP = false := fun h => by
  rw [List.any_eq_false]
  intro x hx
  obtain ⟨j, hj, rfl⟩ := List.getElem_of_mem hx
  have := h j (by omega)
  rw [List.getD_eq_getElem?_getD, List.getElem?_eq_getElem hj] at this
  unfold bigP
  simp only [Bool.or_eq_true, decide_eq_true_eq]
  simp only [Option.getD_some] at this
  omega
 obtain ⟨b, hb0⟩ : ∃ b, b = l.any bigP := ⟨_, rfl⟩
 simp only [← hb0] at hf1 hf2 ⊢
 clear hb0
 refine wlk Tryz.f94 ?_
 unhygienic intros
 have hln : lnI l = n := by rw [hk.lnI_eq]; omega
 have hs0 : sbt n 0 = n := by rw [hk.sb_eq]; omega
 have had : ∀ i, 0 ≤ i → ad 0 i = i := fun i a => by rw [hk.ad_eq]; omega
 have hgl := hk.gtI_eq l
 (conv => cbv)
 repeat' (first | assumption | ((first | rw [hs0] | refine stp ?_ | refine stpB (fun _ => ?_) (fun _ => ?_)) <;> (conv => cbv)) | exact stpF | fail)
 refine hk.loopI (loop_rule (α := Int) (fun i => [(0, .sl 0 1 0 n), (2, .bool false), (5, .int .i64 n), (6, .int .i64 i)]) (fun _ => [.rw 1 (.il .i64 l)])
  (fun i => 0 ≤ i ∧ i ≤ n ∧ ∀ j, j < i.toNat → ¬ (l.getD j 0 > 65535 ∨ l.getD j 0 < -65536)) (fun i => (n - i).toNat) 0 ⟨by omega, by omega, fun j hj => by omega⟩ ?_ ?_)
 ·exact ghT
 intro i ⟨hi, hi2, hi3⟩ Q' hb hx hr
 by_cases h3 : i < n
 ·have hf1 := hf1 i hi h3
  have hgi := hgl i
  obtain ⟨v, hv⟩ : ∃ v, v = l.getD i.toNat 0 := ⟨_, rfl⟩
  rw [← hv] at hgi hf1
  have had := had i hi
  by_cases h4 : v > 65535
  ·have hf1 := hf1 (.inl h4)
   subst hf1
   (conv => cbv)
   repeat' (first | assumption | ((first | rw [hs0] | rw [had] | rw [hln] | rw [hgi] | refine hk.idxI hi h3 ?_ | refine hr _ ?_ | refine stp ?_ | refine stpB (fun _ => ?_) (fun _ => ?_)) <;> (conv => cbv)) | exact stpF | fail)
  ·by_cases h5 : v < -65536
   ·have hf1 := hf1 (.inr h5)
    subst hf1
    (conv => cbv)
    repeat' (first | assumption | ((first | rw [hs0] | rw [had] | rw [hln] | rw [hgi] | refine hk.idxI hi h3 ?_ | refine hr _ ?_ | refine stp ?_ | refine stpB (fun _ => ?_) (fun _ => ?_)) <;> (conv => cbv)) | exact stpF | fail)
   ·clear hf1
    (conv => cbv)
    repeat' (first | assumption | ((first | rw [hs0] | rw [had] | rw [hln] | rw [hgi] | refine hk.idxI hi h3 ?_ | refine stp ?_ | refine stpB (fun _ => ?_) (fun _ => ?_)) <;> (conv => cbv)) | exact stpF | fail)
    refine hb (i + 1) _ ⟨by omega, by omega, fun j hj => ?_⟩ (by omega) ?_
    ·by_cases e : j < i.toNat
     ·exact hi3 j e
     ·have : j = i.toNat := by omega
      rw [this, ← hv]; omega
    refine Gh.tm ?_
    repeat' (first | exact Holds.nil _ _ | refine Holds.cons (Wk.refl _ _) ?_ | refine Holds.cons (Wk.of_eq ?_) ?_)
    all_goals first
     | (rw [← hk.add64 i 1 (by omega) (by omega)]; rfl)
     | rfl
     | skip
 ·have : i = n := by omega
  subst this
  have hf2 := hf2 hi3
  subst hf2
  (conv => cbv)
  repeat' (first | assumption | ((first | refine hx _ _ ?_ | refine stp ?_ | refine stpB (fun _ => ?_) (fun _ => ?_)) <;> (conv => cbv)) | exact stpF | fail)
theorem rscaled_spec (l : List Int) (h : Heap) (h1 : 1 ≤ l.length) (h2 : l.length ≤ 1024) (hs : ∀ i, i < l.length → -67108864 ≤ l.getD i 0 ∧ l.getD i 0 ≤ 67108864) :
 Does PP 50 [LI l] h (Is (LI (scl l)) h) := by
 obtain ⟨n, hn⟩ : ∃ n : Int, n = (l.length : Nat) := ⟨_, rfl⟩
 have h2 : n ≤ 1024 := by omega
 have h1 : 1 ≤ n := by omega
 obtain ⟨R, hR⟩ : ∃ R, R = scl l := ⟨_, rfl⟩
 rw [← hR]
 have hct := fun (x : List Int) (hx : n = (x.length : Nat)) => rgreat_spec x n hx h2
 have hsub : ∀ x : List Int, n = (x.length : Nat) → rSub x 0 n = x := fun x hx => by
  unfold rSub
  simp only [Int.toNat_zero, List.drop_zero, Int.sub_zero]
  exact List.take_of_length_le (by omega)
 refine pure0 ?_ rfl rfl h
 refine doesFr (fun i => Nat.ble 64 i) P_ok Tryz.f50 (by kernel_rfl) (by kernel_rfl) ?_
 intro i2 c2 u1 cv mx mn ad sbt bn bq ba lnI gtI apI sbI stI rpI lnG gtG apG sbG stG rpG fi fb fs fl fg fc sln sgt sap ssb sc b2s s2b nd call calld callv callvd loop rfun fin hk
 have hln : lnI l = n := by rw [hk.lnI_eq]; omega
 have hl0 : lnI [] = 0 := hk.lnI_eq _
 have hap : apI [] l = l := hk.apI_eq _ _
 have had0 : ad 0 n = n := by rw [hk.ad_eq]; omega
 have hnd : nd (.appn 0 0 0 n 8) := hk.ndI ⟨rfl, rfl, by omega, by simp; omega, by omega⟩
 (conv => cbv)
 repeat' (first | assumption | ((first | rw [hap] | rw [hln] | rw [hl0] | rw [had0] | refine ⟨hnd, ?_⟩ | refine stp ?_ | refine stpB (fun _ => ?_) (fun _ => ?_)) <;> (conv => cbv)) | exact stpF | fail)
 refine hk.loopI (loop_rule (α := Nat × List Int) (fun _ => [(2, .ls .nl .nil), (3, .sl 0 1 0 n)]) (fun x => [.rw 1 (.il .i64 x.2)])
  (fun x => n = (x.2.length : Nat) ∧ BdF x.1 x.2 ∧ x.1 ≤ 12 ∧ sclG x.1 x.2 = R) (fun x => x.1) (12, l) ⟨hn, small_bdF hs, Nat.le_refl _, hR.symm⟩ ?_ ?_)
 ·exact ghT
 intro ⟨f, x⟩ ⟨hx, hbd, hf12, hu⟩ Q' hb hxx hr
 simp only at hx hbd hu hf12
 dsimp only
 have hct := hct x hx
 cases hany : x.any bigP
 ·have hxR : x = R := by
   rw [← hu]
   cases f with
   | zero => rfl
   | succ f => rw [sclG, hany]; rfl
  rw [hany] at hct
  have hsub := hsub x hx
  clear hany hu hbd
  subst hxR
  (conv => cbv)
  repeat' (first | assumption | ((first | refine hk.callA hct ?_ | refine hxx _ _ ?_ | refine stp ?_ | refine stpB (fun _ => ?_) (fun _ => ?_)) <;> (conv => cbv)) | exact stpF | fail)
  refine hk.finI (fin_rz 0 1 (.il .i64 x) rfl rfl ?_)
  have e : rz 0 1 (.il .i64 x) (.sl 0 1 0 n) = LI x := by
   rw [rz_sl]
   show AVal.ls (.il .i64 (rSub x 0 n)) .any = _
   rw [hsub]
  show rFin _ _ (rz 0 1 (.il .i64 x) (.sl 0 1 0 n)) _
  rw [e]
  exact fin_lowN 0 (Nat.le_refl 0) (Wk.refl _ _) rfl rfl ⟨rfl, rfl⟩
 ·rw [hany] at hct
  obtain ⟨f, rfl⟩ : ∃ f', f = f' + 1 := by
   cases f with
   | zero => rw [bdF_zero hbd] at hany; cases hany
   | succ f => exact ⟨f, rfl⟩
  rw [sclG, if_pos hany] at hu
  have hxr : ∀ i : Int, 0 ≤ i → i < n → -4611686018427387904 ≤ x.getD i.toNat 0 ∧ x.getD i.toNat 0 ≤ 4611686018427387904 := fun i a b => by
   have hm : x.getD i.toNat 0 ∈ x := by rw [List.getD_eq_getElem?_getD, List.getElem?_eq_getElem (by omega)]; exact List.getElem_mem _
   obtain ⟨y0, y1⟩ := hbd _ hm
   have : (2 : Int) ^ (15 + (f + 1)) ≤ 2 ^ 27 := by
    have := Nat.pow_le_pow_right (n := 2) (by decide) (show 15 + (f + 1) ≤ 27 by omega)
    exact_mod_cast this
   have e27 : (2 : Int) ^ 27 = 134217728 := by decide
   rw [e27] at this
   omega
  have hbd := bdF_half hbd
  clear hany
  obtain ⟨H, hH⟩ : ∃ H : Int → List Int, ∀ i, H i = mixL x.length (fun j => x.getD j 0 / 2) (fun j => x.getD j 0) i.toNat := ⟨_, fun _ => rfl⟩
  have hH0 : H 0 = x := by rw [hH]; exact (mixL_zero _ _ _).trans (self_map x)
  have hHn : H n = halfL x := by rw [hH, show n.toNat = x.length by omega, mixL_full, half_map]
  have hHl : ∀ i, (H i).length = x.length := fun i => by rw [hH, mixL_len]
  have hHg : ∀ i : Int, 0 ≤ i → i < n → (H i).getD i.toNat 0 = x.getD i.toNat 0 := fun i a b => by rw [hH, mixL_get _ _ _ _ _ (by omega), if_neg (by omega)]
  have hHs : ∀ i : Int, 0 ≤ i → i < n → (H i).set i.toNat (x.getD i.toNat 0 / 2) = H (i + 1) := fun i a b => by
   rw [hH, hH, show (i + 1).toNat = i.toNat + 1 by omega]
   exact mixL_set x.length (fun j => x.getD j 0 / 2) (fun j => x.getD j 0) i.toNat (by omega)
  have hln : lnI x = n := by rw [hk.lnI_eq]; omega
  have hgt := hk.gtI_eq
  have hset := hk.stI_eq
  have hlen := hk.lnI_eq
  have had : ∀ i, 0 ≤ i → ad 0 i = i := fun i a => by rw [hk.ad_eq]; omega
  have hs0 : sbt n 0 = n := by rw [hk.sb_eq]; omega
  obtain ⟨y, hy⟩ : ∃ y, y = halfL x := ⟨_, rfl⟩
  rw [← hy] at hHn hu hbd
  (conv => cbv)
  repeat' (first | assumption | ((first | refine hk.callA hct ?_ | rw [hln] | rw [hs0] | refine stp ?_ | refine stpB (fun _ => ?_) (fun _ => ?_)) <;> (conv => cbv)) | exact stpF | fail)
  refine hk.loopI (loop_rule (α := Int) (fun i => [(2, .ls .nl .nil), (3, .sl 0 1 0 n), (11, .int .i64 n), (12, .int .i64 i)]) (fun i => [.rw 1 (.il .i64 (H i))])
   (fun i => 0 ≤ i ∧ i ≤ n) (fun i => (n - i).toNat) 0 ⟨by omega, by omega⟩ ?_ ?_)
  ·rw [hH0]
   exact ghT
  intro i ⟨hi, hi2⟩ Q2 hb2 hx2 hr2
  by_cases h3 : i < n
  ·have hg := hHg i hi h3
   obtain ⟨xr0, xr1⟩ := hxr i hi h3
   have hset := hset (H i) i (x.getD i.toNat 0 / 2)
   rw [hHs i hi h3] at hset
   have hlH := hlen (H i)
   rw [hHl] at hlH
   have hlH : lnI (H i) = n := by omega
   have hgi := hgt (H i) i
   rw [hg] at hgi
   obtain ⟨v, hv⟩ : ∃ v, v = x.getD i.toNat 0 := ⟨_, rfl⟩
   rw [← hv] at hgi hset xr0 xr1
   have hhf := fun h => rhalf_spec v h xr0 xr1
   obtain ⟨w, hw⟩ : ∃ w, w = v / 2 := ⟨_, rfl⟩
   rw [← hw] at hset
   simp only [← hw] at hhf
   obtain ⟨H0, hH00⟩ : ∃ v, v = H i := ⟨_, rfl⟩
   obtain ⟨H1, hH10⟩ : ∃ v, v = H (i + 1) := ⟨_, rfl⟩
   rw [← hH00, ← hH10] at hset
   rw [← hH00] at hgi hlH ⊢
   have had := had i hi
   clear hw hv hg
   (conv => cbv)
   repeat' (first | assumption | ((first | rw [hs0] | rw [had] | rw [hlH] | rw [hgi] | rw [hset] | refine hk.idxI hi h3 ?_ | refine stp ?_ | refine stpB (fun _ => ?_) (fun _ => ?_)) <;> (conv => cbv)) | exact stpF | fail)
   refine hb2 (i + 1) _ ⟨by omega, by omega⟩ (by omega) ?_
   rw [← hH10]
   refine Gh.tm ?_
   repeat' (first | exact Holds.nil _ _ | refine Holds.cons (Wk.refl _ _) ?_ | refine Holds.cons (Wk.of_eq ?_) ?_)
   all_goals first
    | (rw [← hk.add64 i 1 (by omega) (by omega)]; rfl)
    | rfl
    | skip
  ·have : i = n := by omega
   subst this
   rw [hHn]
   (conv => cbv)
   repeat' (first | assumption | ((first | refine hx2 _ _ ?_ | refine stp ?_ | refine stpB (fun _ => ?_) (fun _ => ?_)) <;> (conv => cbv)) | exact stpF | fail)
   refine hb (f, y) _ ⟨by simp only; rw [hy, halfL_len]; exact hx, hbd, by simp only; omega, hu⟩ (by simp only; omega) ?_
   dsimp only
   refine Gh.tm ?_
   repeat' (first | exact Holds.nil _ _ | refine Holds.cons (Wk.refl _ _) ?_ | refine Holds.cons (Wk.of_eq ?_) ?_)
end Go.Proofs.YtoeekjddeknmbaaGreat
