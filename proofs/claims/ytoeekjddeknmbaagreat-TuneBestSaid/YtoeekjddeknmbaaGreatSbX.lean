/-
  Contracts of functions of the program, proved over the abstract machine of the Al texts.
-/
import Derived.Test.YtoeekjddeknmbaaGreatTryTab
import Derived.Test.YtoeekjddeknmbaaGreatAl4
import Derived.Test.YtoeekjddeknmbaaGreatBaseX
import Derived.Test.YtoeekjddeknmbaaGreatPpX
import Derived.Test.YtoeekjddeknmbaaGreatSlX
import Derived.Test.YtoeekjddeknmbaaGreatBsX1
import Derived.Test.YtoeekjddeknmbaaGreatBsX3
import Derived.Test.YtoeekjddeknmbaaGreatTkX3
import Derived.Test.YtoeekjddeknmbaaGreatRbX
import Derived.Test.YtoeekjddeknmbaaGreatTkX7
import Derived.Test.YtoeekjddeknmbaaGreatHrX
set_option maxHeartbeats 4000000
set_option maxRecDepth 20000
set_option linter.unusedSimpArgs false
set_option linter.unusedVariables false
open Go Go.AL
namespace Go.Proofs.YtoeekjddeknmbaaGreat
def costT (x : List Int) (k : Nat) : Int := ((rcodes (k : Int) x).length : Nat)
def bestk (x : List Int) : Nat := lstK (costT x) 24
theorem bestk_le (x : List Int) : bestk x ≤ 24 := (lstK_spec (costT x) 24).1
def ksL (l : List Int) (p : Nat) : List Int := (List.range (2 ^ p)).map fun i => ((bestk (partL l (l.length / 2 ^ p) i) : Nat) : Int)
theorem ksL_len (l : List Int) (p : Nat) : (ksL l p).length = 2 ^ p := by simp [ksL]
theorem ksL_get (l : List Int) (p i : Nat) (h : i < 2 ^ p) : (ksL l p).getD i 0 = ((bestk (partL l (l.length / 2 ^ p) i) : Nat) : Int) := by
 unfold ksL
 rw [List.getD_eq_getElem?_getD, List.getElem?_map, List.getElem?_range h]
 rfl
theorem ksL_range (l : List Int) (p i : Nat) (h : i < (ksL l p).length) : 0 ≤ (ksL l p).getD i 0 ∧ (ksL l p).getD i 0 ≤ 24 := by
 rw [ksL_len] at h
 rw [ksL_get l p i h]
 have := bestk_le (partL l (l.length / 2 ^ p) i)
 omega
def sumP (l : List Int) (p i : Nat) : Int := 2 + ((pcodes l (ksL l p) (l.length / 2 ^ p) i).length : Nat)
def bitsP (l : List Int) (p : Nat) : Int := sumP l p (2 ^ p)
theorem sumP_zero (l : List Int) (p : Nat) : sumP l p 0 = 2 := by simp [sumP, pcodes]
theorem sumP_succ (l : List Int) (p i : Nat) (h : i < 2 ^ p) : sumP l p (i + 1) = sumP l p i + 5 + costT (partL l (l.length / 2 ^ p) i) (bestk (partL l (l.length / 2 ^ p) i)) := by
 unfold sumP costT
 rw [pcodes, List.length_append, pcode, List.length_append, bitsOf_len, ksL_get l p i h]
 omega
theorem sumP_bits (l : List Int) (p : Nat) : (((bitsOf p 2 ++ pcodes l (ksL l p) (l.length / 2 ^ p) (ksL l p).length).length : Nat) : Int) = bitsP l p := by
 rw [ksL_len, bitsP, sumP, List.length_append, bitsOf_len]
 omega
def bstP (l : List Int) : Nat → Nat
 | 0 => 0
 | p + 1 => if l.length % 2 ^ (p + 1) = 0 ∧ bitsP l (p + 1) < bitsP l (bstP l p) then p + 1 else bstP l p
theorem bstP_le (l : List Int) : ∀ p, bstP l p ≤ p
 | 0 => Nat.le_refl _
 | p + 1 => by
   rw [bstP]
   split
   ·exact Nat.le_refl _
   ·exact Nat.le_succ_of_le (bstP_le l p)
theorem bstP_div (l : List Int) : ∀ p, l.length % 2 ^ bstP l p = 0
 | 0 => by rw [bstP]; exact Nat.mod_one _
 | p + 1 => by
   rw [bstP]
   split
   ·rename_i h; exact h.1
   ·exact bstP_div l p
theorem div_down (n p : Nat) (h : n % 2 ^ (p + 1) = 0) : n % 2 ^ p = 0 :=
 Nat.mod_eq_zero_of_dvd (Nat.dvd_trans ⟨2, Nat.pow_succ 2 p⟩ (Nat.dvd_of_mod_eq_zero h))
theorem bstP_stop (l : List Int) (q : Nat) (h : ¬ l.length % 2 ^ (q + 1) = 0) : ∀ p, q ≤ p → bstP l p = bstP l q ∧ ¬ l.length % 2 ^ (p + 1) = 0
 | 0, hq => by rw [show q = 0 by omega] at h ⊢; exact ⟨rfl, h⟩
 | p + 1, hq => by
   rcases Nat.lt_or_eq_of_le hq with h1 | h1
   ·obtain ⟨a, b⟩ := bstP_stop l q h p (by omega)
    refine ⟨by rw [bstP, if_neg (fun c => b c.1)]; exact a, fun c => b (div_down _ _ c)⟩
   ·subst h1; exact ⟨rfl, h⟩
theorem whole_nat (n p : Nat) (h1 : 1 ≤ n) (h2 : n ≤ 1024) : whole (n : Int) (p : Int) = decide (p ≤ 3 ∧ n % 2 ^ p = 0) := by
 unfold whole
 congr 1
 rw [Int.toNat_natCast, Int.tmod_eq_emod_of_nonneg (by omega)]
 have e : (n : Int) % 2 ^ p = ((n % 2 ^ p : Nat) : Int) := by rw [Int.natCast_emod]; simp
 rw [e]
 apply propext
 constructor
 ·intro h; omega
 ·intro h; omega
theorem parts_best (l : List Int) (h1 : 1 ≤ l.length) (h2 : l.length ≤ 1024) : partsB (l.length : Nat) (bstP l 3 : Nat) (ksL l (bstP l 3)) = true := by
 have hp := bstP_le l 3
 unfold partsB
 rw [whole_nat _ _ h1 h2, Bool.and_eq_true, Bool.and_eq_true, decide_eq_true_eq, decide_eq_true_eq, allP_iff]
 refine ⟨⟨⟨hp, bstP_div l 3⟩, by rw [ksL_len, Int.toNat_natCast]; simp⟩, fun i hi => ?_⟩
 have := ksL_range l _ i hi
 rw [kP, Bool.or_eq_false_iff, decide_eq_false_iff_not, decide_eq_false_iff_not]
 omega
def Far33 (x : List Int) : Prop := ∀ i, i < x.length → -8589934592 ≤ x.getD i 0 ∧ x.getD i 0 < 8589934592
theorem rleast_spec (x : List Int) (h : Heap) (hl : x.length ≤ 1024) (hv : Far33 x) : Does PP 97 [LI x] h (Is (I (bestk x : Nat)) h) := by
 obtain ⟨T, hT⟩ : ∃ T : Int → Int, ∀ i, T i = costT x i.toNat := ⟨_, fun _ => rfl⟩
 obtain ⟨K, hK⟩ : ∃ K : Int → Int, ∀ i, K i = (lstK (costT x) (i - 1).toNat : Nat) := ⟨_, fun _ => rfl⟩
 have hb : ((bestk x : Nat) : Int) = K 25 := by rw [hK]; rfl
 have hK1 : K 1 = 0 := by rw [hK]; rfl
 have hst : ∀ i : Int, 1 ≤ i → i ≤ 24 → (T i < T (K i) → K (i + 1) = i) ∧ (¬ T i < T (K i) → K (i + 1) = K i) := fun i a b => by
  rw [hT, hT, hK, hK, show (i + 1 - 1).toNat = (i - 1).toNat + 1 by omega, lstK, Int.toNat_natCast, show i.toNat = (i - 1).toNat + 1 by omega]
  refine ⟨fun h => by rw [if_pos h]; omega, fun h => by rw [if_neg h]⟩
 have htot : ∀ (i : Int) h, 0 ≤ i → i ≤ 24 → Does PP 93 [LI x, I i] h (Is (I (T i)) h) := fun i h a b => by
  have := rTotal_spec x i h hl hv a b
  rw [hT, costT, show ((i.toNat : Nat) : Int) = i by omega]
  exact this
 rw [hb]
 clear hT hK hb hv
 refine pure0 ?_ rfl rfl h
 refine wlk Tryz.f97 ?_
 unhygienic intros
 have ht0 := fun h => htot 0 h (by decide) (by decide)
 obtain ⟨T0, hT0⟩ : ∃ y, y = T 0 := ⟨_, rfl⟩
 simp only [← hT0] at ht0
 (conv => cbv)
 repeat' (first | assumption | ((first | refine stp ?_ | refine stpB (fun _ => ?_) (fun _ => ?_)) <;> (conv => cbv)) | exact stpF | fail)
 refine hk.loopI (loop_rule (α := Int) (fun i => [(0, .ls (.il .i64 x) .any), (2, .int .i64 0), (3, .int .i64 (K i)), (4, .int .i64 (T (K i))), (5, .int .i64 i)]) (fun _ => [])
  (fun i => 1 ≤ i ∧ i ≤ 25) (fun i => (25 - i).toNat) 1 ⟨by omega, by omega⟩ ?_ ?_)
 ·rw [hK1, ← hT0]
  exact ghT
 intro i ⟨hi, hi2⟩ Q' hb hx hr
 clear ht0
 by_cases h2 : i < 25
 ·have hc := fun h => htot i h (by omega) (by omega)
  obtain ⟨s1, s2⟩ := hst i hi (by omega)
  obtain ⟨V, hV⟩ : ∃ y, y = T i := ⟨_, rfl⟩
  obtain ⟨L, hL⟩ : ∃ y, y = T (K i) := ⟨_, rfl⟩
  obtain ⟨k, hk0⟩ : ∃ y, y = K i := ⟨_, rfl⟩
  obtain ⟨k1, hk1⟩ : ∃ y, y = K (i + 1) := ⟨_, rfl⟩
  simp only [← hV] at hc
  rw [← hV, ← hL, ← hk1] at s1 s2
  rw [← hk0] at s2
  rw [← hL, ← hk0]
  by_cases h3 : V < L
  ·have e := s1 h3
   (conv => cbv)
   repeat' (first | assumption | ((first | refine stp ?_ | refine stpB (fun _ => ?_) (fun _ => ?_)) <;> (conv => cbv)) | exact stpF | fail)
   refine hb (i + 1) _ ⟨by omega, by omega⟩ (by omega) ?_
   rw [← hk1, e, ← hV]
   refine Gh.tm ?_
   repeat' (first | exact Holds.nil _ _ | refine Holds.cons (Wk.refl _ _) ?_ | refine Holds.cons (Wk.of_eq ?_) ?_)
   all_goals first
    | (rw [← hk.add64 i 1 (by omega) (by omega)]; rfl)
    | rfl
    | skip
  ·have e := s2 h3
   (conv => cbv)
   repeat' (first | assumption | ((first | refine stp ?_ | refine stpB (fun _ => ?_) (fun _ => ?_)) <;> (conv => cbv)) | exact stpF | fail)
   refine hb (i + 1) _ ⟨by omega, by omega⟩ (by omega) ?_
   rw [← hk1, e, hk0, ← hL]
   refine Gh.tm ?_
   repeat' (first | exact Holds.nil _ _ | refine Holds.cons (Wk.refl _ _) ?_ | refine Holds.cons (Wk.of_eq ?_) ?_)
   all_goals first
    | (rw [← hk.add64 i 1 (by omega) (by omega)]; rfl)
    | rfl
    | skip
 ·have : i = 25 := by omega
  subst this
  obtain ⟨k, hk0⟩ : ∃ y, y = K 25 := ⟨_, rfl⟩
  obtain ⟨L, hL⟩ : ∃ y, y = T (K 25) := ⟨_, rfl⟩
  rw [← hL, ← hk0]
  (conv => cbv)
  repeat' (first | assumption | ((first | refine hx _ _ ?_ | refine stp ?_ | refine stpB (fun _ => ?_) (fun _ => ?_)) <;> (conv => cbv)) | exact stpF | fail)
  all_goals exact hk.fin0 rfl rfl (Wk.of_eq (by rw [hk0]))
theorem rbest_spec (x : List Int) (h : Heap) (hl : x.length ≤ 1024) (hv : ∀ i, i < x.length → -8589934592 ≤ x.getD i 0 ∧ x.getD i 0 < 8589934592) :
 Does PP 132 [LI x] h (Is (.tup [I (bestk x : Nat), I (costT x (bestk x))]) h) := by
 obtain ⟨X, hX⟩ : ∃ X : List (Int × Int) → List AVal, ∀ l, X l = l.map trd := ⟨_, fun _ => rfl⟩
 obtain ⟨Q, hQ⟩ : ∃ Q : Int → List (Int × Int), ∀ i, Q i = qL (costT x) i.toNat := ⟨_, fun _ => rfl⟩
 obtain ⟨T, hT⟩ : ∃ T : Int → Int, ∀ i, T i = costT x i.toNat := ⟨_, fun _ => rfl⟩
 have hQ0 : Q 0 = [] := by rw [hQ]; rfl
 have hQl : ∀ i : Int, 0 ≤ i → ((Q i).length : Int) = i := fun i a => by rw [hQ, qL_len]; omega
 have htot : ∀ (i : Int) h, 0 ≤ i → i < 25 → Does PP 140 [LI x, I i] h (Is (I (T i)) h) := fun i h a b => by
  have := total_spec x i h hl hv a (by omega)
  rw [hT, costT, show ((i.toNat : Nat) : Int) = i by omega]
  exact this
 have hpu : ∀ (g : Nat) (i : Int), 0 ≤ i → i < 25 → Does PP 42 [QR, .iface 154 (.agg [I i, I (T i)])] (HQr g i (X (Q i))) (Is (.tup []) (HQr (g + 1) (i + 1) (X (Q (i + 1))))) := fun g i a b => by
  have := qHpush_spec X hX g i (i, T i) (Q i) (by rw [hQl i a]) (by omega)
  rw [show pushL lessB e00 (Q i) (i, T i) = Q (i + 1) by rw [hQ, hQ, show (i + 1).toNat = i.toNat + 1 by omega, qL, hT, show ((i.toNat : Nat) : Int) = i by omega]] at this
  exact this
 have hroot : (X (Q 25)).getD 0 .junk = trd ((bestk x : Nat), costT x (bestk x)) := by
  rw [hX, maptrd_get _ _ (by have := hQl 25 (by decide); omega), hQ]
  rw [show Int.toNat 25 = 24 + 1 by decide, qL_root]
  rfl
 have hXl : ∀ i : Int, 0 ≤ i → ((X (Q i)).length : Int) = i := fun i a => by rw [hX, List.length_map]; exact hQl i a
 obtain ⟨B, hB⟩ : ∃ B : Int, B = (bestk x : Nat) := ⟨_, rfl⟩
 obtain ⟨C, hC⟩ : ∃ C : Int, C = costT x (bestk x) := ⟨_, rfl⟩
 rw [← hB, ← hC] at hroot ⊢
 obtain ⟨Y, hY⟩ : ∃ Y : Int → List AVal, ∀ i, Y i = X (Q i) := ⟨_, fun _ => rfl⟩
 simp only [← hY] at hpu hroot hXl
 have hY0 : Y 0 = [] := by rw [hY, hQ0, hX]; rfl
 clear hQ hT hX hQ0 hQl hB hC hY hv
 refine pure0 ?_ rfl rfl h
 refine wlk Tryz.f132 ?_
 unhygienic intros
 (conv => cbv)
 repeat' (first | assumption | ((first | refine stp ?_ | refine stpB (fun _ => ?_) (fun _ => ?_)) <;> (conv => cbv)) | exact stpF | fail)
 refine hk.loopI (loop_rule (α := Int) (fun i => [(0, .ls (.il .i64 x) .any), (4, .ptr 0 0), (6, .int .i64 i)]) (fun i => HQr i.toNat i (Y i))
  (fun i => 0 ≤ i ∧ i ≤ 25) (fun i => (25 - i).toNat) 0 ⟨by omega, by omega⟩ ?_ ?_)
 ·rw [hY0]
  refine Gh.trans (Gh.ghost (GE.thawRow 0 0 [.ls .nl .nil] (.gl trdS []) rfl rfl rfl) (by simp)) (Gh.tm ?_)
  repeat' (first | exact Holds.nil _ _ | refine Holds.cons (Wk.refl _ _) ?_)
 intro i ⟨hi, hi2⟩ Q' hb hx hr
 by_cases h2 : i < 25
 ·have hc := fun h => htot i h hi h2
  have hp := hpu i.toNat i hi h2
  obtain ⟨V, hV⟩ : ∃ y, y = T i := ⟨_, rfl⟩
  obtain ⟨Y0, hY0⟩ : ∃ y, y = Y i := ⟨_, rfl⟩
  obtain ⟨Y1, hY1⟩ : ∃ y, y = Y (i + 1) := ⟨_, rfl⟩
  obtain ⟨g, hg⟩ : ∃ y, y = i.toNat := ⟨_, rfl⟩
  obtain ⟨i1, hi1⟩ : ∃ y, y = i + 1 := ⟨_, rfl⟩
  simp only [← hV] at hc hp
  rw [← hY0, ← hg, ← hY1, ← hi1] at hp
  rw [← hY0, ← hg]
  (conv => cbv)
  repeat' (first | assumption | ((first | refine hk.callA hp ?_ | refine stp ?_ | refine stpB (fun _ => ?_) (fun _ => ?_)) <;> (conv => cbv)) | exact stpF | fail)
  subst hi1
  refine hb (i + 1) _ ⟨by omega, by omega⟩ (by omega) ?_
  rw [← hY1, show (i + 1).toNat = g + 1 by omega]
  refine Gh.tm ?_
  repeat' (first | exact Holds.nil _ _ | refine Holds.cons (Wk.refl _ _) ?_ | refine Holds.cons (Wk.of_eq ?_) ?_)
  all_goals first
   | (rw [← hk.add64 i 1 (by omega) (by omega)]; rfl)
   | rfl
   | skip
 ·have : i = 25 := by omega
  subst this
  have hl25 := hXl 25 (by decide)
  obtain ⟨Z, hZ⟩ : ∃ y, y = Y 25 := ⟨_, rfl⟩
  rw [← hZ] at hroot hl25 ⊢
  have f1 : fi (fc (gtG Z 0) 0) = B := by rw [hk.gtG_eq]; rw [show Int.toNat 0 = 0 from rfl, hroot, hk.fc_eq, hk.fi_eq]; rfl
  have f2 : fi (fc (gtG Z 0) 1) = C := by rw [hk.gtG_eq]; rw [show Int.toNat 0 = 0 from rfl, hroot, hk.fc_eq, hk.fi_eq]; rfl
  have hlG : lnG Z = 25 := by rw [hk.lnG_eq]; exact hl25
  (conv => cbv)
  repeat' (first | assumption | ((first | refine hx _ _ ?_ | rw [hlG] | rw [f1] | rw [f2] | refine stp ?_ | refine stpB (fun _ => ?_) (fun _ => ?_)) <;> (conv => cbv)) | exact stpF | fail)
  all_goals exact hk.fin0 rfl rfl (Wk.refl _ _)
end Go.Proofs.YtoeekjddeknmbaaGreat
