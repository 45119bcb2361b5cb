/-
  Contracts of functions of the program, proved over the abstract machine of the Al texts.
-/
import Derived.Test.YtoeekjddeknmbaaGreatTryTab
import Derived.Test.YtoeekjddeknmbaaGreatAl4
import Derived.Test.YtoeekjddeknmbaaGreatBaseX
import Derived.Test.YtoeekjddeknmbaaGreatHrX
import Derived.Test.YtoeekjddeknmbaaGreatPpX
import Derived.Test.YtoeekjddeknmbaaGreatSlX
import Derived.Test.YtoeekjddeknmbaaGreatSlY
import Derived.Test.YtoeekjddeknmbaaGreatTkX3
set_option maxHeartbeats 4000000
set_option maxRecDepth 20000
set_option linter.unusedSimpArgs false
set_option linter.unusedVariables false
open Go Go.AL
namespace Go.Proofs.YtoeekjddeknmbaaGreat
def lstK (T : Nat → Int) : Nat → Nat
 | 0 => 0
 | i + 1 => if T (i + 1) < T (lstK T i) then i + 1 else lstK T i
theorem lstK_spec (T : Nat → Int) : ∀ n, lstK T n ≤ n ∧ (∀ i, i ≤ n → T (lstK T n) ≤ T i) ∧ (∀ i, i < lstK T n → T (lstK T n) < T i)
 | 0 => ⟨Nat.le_refl _, fun i hi => by rw [show i = 0 by omega]; exact Int.le_refl _, fun i hi => absurd hi (by simp [lstK])⟩
 | n + 1 => by
   obtain ⟨a, b, c⟩ := lstK_spec T n
   rw [lstK]
   split
   ·rename_i h
    refine ⟨Nat.le_refl _, fun i hi => ?_, fun i hi => ?_⟩
    ·rcases Nat.lt_or_eq_of_le hi with h2 | h2
     ·have := b i (by omega); omega
     ·rw [h2]; exact Int.le_refl _
    ·have := b i (by omega); omega
   ·rename_i h
    refine ⟨by omega, fun i hi => ?_, c⟩
    rcases Nat.lt_or_eq_of_le hi with h2 | h2
    ·exact b i (by omega)
    ·rw [h2]; omega
def qL (T : Nat → Int) : Nat → List (Int × Int)
 | 0 => []
 | i + 1 => pushL lessB e00 (qL T i) ((i : Int), T i)
theorem qL_len (T : Nat → Int) : ∀ n, (qL T n).length = n
 | 0 => rfl
 | n + 1 => by rw [qL, pushL_len, qL_len T n]
theorem qL_heap (T : Nat → Int) : ∀ n, HpP lessB e00 (qL T n) n
 | 0 => fun c hc hcn => by omega
 | n + 1 => by
   have := pushL_heap (lt := lessB) (d := e00) less_ordr (qL T n) ((n : Int), T n) (by rw [qL_len]; exact qL_heap T n)
   rw [qL_len] at this
   exact this
theorem qL_mem (T : Nat → Int) : ∀ n x, x ∈ qL T n ↔ ∃ i, i < n ∧ x = ((i : Int), T i)
 | 0, x => by simp [qL]
 | n + 1, x => by
   rw [qL, (pushL_perm (lt := lessB) (d := e00) (qL T n) ((n : Int), T n)).mem_iff, List.mem_cons, qL_mem T n x]
   constructor
   ·rintro (h | ⟨i, hi, h⟩)
    ·exact ⟨n, by omega, h⟩
    ·exact ⟨i, by omega, h⟩
   ·rintro ⟨i, hi, h⟩
    rcases Nat.lt_or_eq_of_le (Nat.le_of_lt_succ hi) with h2 | h2
    ·exact .inr ⟨i, h2, h⟩
    ·subst h2; exact .inl h
theorem qL_root (T : Nat → Int) (n : Nat) : (qL T (n + 1)).getD 0 e00 = (((lstK T n : Nat) : Int), T (lstK T n)) := by
 have hl := qL_len T (n + 1)
 have h0 : (qL T (n + 1)).getD 0 e00 ∈ qL T (n + 1) := by
  rw [List.getD_eq_getElem?_getD, List.getElem?_eq_getElem (by omega)]
  exact List.getElem_mem _
 obtain ⟨b, hb, hbe⟩ := (qL_mem T (n + 1) _).1 h0
 obtain ⟨a1, a2, a3⟩ := lstK_spec T n
 have hm := (qL_mem T (n + 1) (((lstK T n : Nat) : Int), T (lstK T n))).2 ⟨lstK T n, by omega, rfl⟩
 obtain ⟨c, hc, hce⟩ := List.mem_iff_getElem.1 hm
 have hr := heap_root less_ordr (qL_heap T (n + 1)) c (by omega)
 rw [hbe, List.getD_eq_getElem?_getD, List.getElem?_eq_getElem hc] at hr
 simp only [Option.getD_some, hce] at hr
 unfold lessB at hr
 simp only [Bool.or_eq_false_iff, Bool.and_eq_false_iff, decide_eq_false_iff_not] at hr
 have h1 := a2 b (by omega)
 have h2 := a3 b
 rw [hbe]
 have : b = lstK T n := by
  rcases Nat.lt_trichotomy b (lstK T n) with h | h | h
  ·have := h2 h; omega
  ·exact h
  ·omega
 rw [this]
theorem cost_spec (n k : Int) (h : Heap) (h0 : -8589934592 ≤ n) (h1 : n < 8589934592) (k0 : 0 ≤ k) (k1 : k ≤ 24) : Does PP 141 [I n, I k] h (Is (I ((rcode n k).length : Nat)) h) := by
 obtain ⟨z0, z1⟩ := foldZ_range h0 h1
 have hmy := fun h => may_spec n k h h0 h1 k0 k1
 have hfo := fun h => fold_spec n h h0 h1
 have hq0 : 0 ≤ foldZ n / 2 ^ k.toNat := Int.ediv_nonneg z0 (by have : (0 : Int) < 2 ^ k.toNat := Int.pow_pos (by decide)
                                                                omega)
 have hqz : foldZ n / 2 ^ k.toNat ≤ foldZ n := Int.ediv_le_self _ z0
 have hsh := shr_pow (foldZ n) k.toNat z0 (by omega)
 rw [show ((k.toNat : Nat) : Int) = k by omega] at hsh
 obtain ⟨r, hr⟩ : ∃ r : Int, r = ((rcode n k).length : Nat) := ⟨_, rfl⟩
 rw [← hr]
 have hr1 : foldZ n / 2 ^ k.toNat < 24 → r = foldZ n / 2 ^ k.toNat + 1 + k := fun h => by
  rw [hr, rcode, if_pos h, List.length_append, zb_len, bitsOf_len]; omega
 have hr2 : ¬ foldZ n / 2 ^ k.toNat < 24 → r = 59 := fun h => by
  rw [hr, rcode, if_neg h, List.length_append, zb_len, bitsOf_len]; rfl
 clear hr
 obtain ⟨z, hz0⟩ : ∃ P : Int, P = foldZ n := ⟨_, rfl⟩
 simp only [← hz0] at *
 obtain ⟨Q, hQ⟩ : ∃ P' : Int, P' = z / 2 ^ k.toNat := ⟨_, rfl⟩
 simp only [← hQ] at hq0 hqz hr1 hr2 hsh
 clear hz0 hQ
 refine pure0 ?_ rfl rfl h
 refine wlk Tryz.f141 ?_
 unhygienic intros
 have t1 : i2 .shr .i64 z k = Q := by rw [hk.i2_eq]; exact hsh
 have t2 : i2 .add .i64 Q 1 = Q + 1 := hk.add64 _ _ (by omega) (by omega)
 have t3 : Q < 24 → i2 .add .i64 (Q + 1) k = Q + 1 + k := fun h => hk.add64 _ _ (by omega) (by omega)
 obtain ⟨Q1, hQ1⟩ : ∃ x, x = Q + 1 := ⟨_, rfl⟩
 rw [← hQ1] at t2 t3 hr1
 obtain ⟨R1, hR1⟩ : ∃ x, x = Q1 + k := ⟨_, rfl⟩
 rw [← hR1] at t3 hr1
 clear hsh
 by_cases hq : Q < 24
 ·have hr1 := hr1 hq
  have t3 := t3 hq
  subst hr1
  (conv => cbv)
  repeat' (first | assumption | ((first | rw [t1] | rw [t2] | rw [t3] | refine stp ?_ | refine stpB (fun _ => ?_) (fun _ => ?_)) <;> (conv => cbv)) | exact stpF | fail)
  all_goals exact hk.fin0 rfl rfl (Wk.refl _ _)
 ·have hr2 := hr2 hq
  subst hr2
  (conv => cbv)
  repeat' (first | assumption | ((first | rw [t1] | refine stp ?_ | refine stpB (fun _ => ?_) (fun _ => ?_)) <;> (conv => cbv)) | exact stpF | fail)
  all_goals exact hk.fin0 rfl rfl (Wk.refl _ _)
theorem total_spec (l : List Int) (k : Int) (h : Heap) (hl : l.length ≤ 1024) (hv : ∀ i, i < l.length → -8589934592 ≤ l.getD i 0 ∧ l.getD i 0 < 8589934592) (k0 : 0 ≤ k) (k1 : k ≤ 24) : Does PP 140 [LI l, I k] h (Is (I ((rcodes k l).length : Nat)) h) := by
 obtain ⟨T, hT⟩ : ∃ T : Int → Int, ∀ i, T i = ((rcodes k (l.take i.toNat)).length : Nat) := ⟨_, fun _ => rfl⟩
 obtain ⟨N, hN⟩ : ∃ N : Int, N = (l.length : Nat) := ⟨_, rfl⟩
 have hTN : (((rcodes k l).length : Nat) : Int) = T N := by rw [hT, hN, Int.toNat_natCast, List.take_length]
 have hT0 : T 0 = 0 := by rw [hT]; simp [rcodes]
 have hTr : ∀ i : Int, 0 ≤ i → i ≤ N → 0 ≤ T i ∧ T i ≤ 100000 := fun i a b => by
  have := rcodes_len k l k1 hv i.toNat (by omega)
  rw [hT]; omega
 have hst : ∀ i : Int, 0 ≤ i → i < N → ∃ v : Int, 0 ≤ v ∧ v ≤ 59 ∧ (∀ h, Does PP 141 [I (l.getD i.toNat 0), I k] h (Is (I v) h)) ∧ T (i + 1) = T i + v := fun i a b => by
  obtain ⟨c, d⟩ := hv i.toNat (by omega)
  refine ⟨((rcode (l.getD i.toNat 0) k).length : Nat), by omega, by have := rcode_len (l.getD i.toNat 0) k c d k1; omega, fun h => cost_spec _ k h c d k0 k1, ?_⟩
  rw [hT, hT, show (i + 1).toNat = i.toNat + 1 by omega, rcodes_step k l _ (by omega), List.length_append]
  omega
 rw [hTN]
 clear hT hTN hv
 refine pure0 ?_ rfl rfl h
 refine wlk Tryz.f140 ?_
 unhygienic intros
 have hln : lnI l = N := by rw [hk.lnI_eq]; omega
 have hgt := hk.gtI_eq l
 (conv => cbv)
 repeat' (first | assumption | ((first | rw [hln] | refine stp ?_ | refine stpB (fun _ => ?_) (fun _ => ?_)) <;> (conv => cbv)) | exact stpF | fail)
 refine hk.loopI (loop_rule (α := Int) (fun i => [(1, .int .i64 k), (4, .int .i64 0), (5, .int .i64 (T i)), (8, .ls (.il .i64 l) .any), (9, .int .i64 N), (10, .int .i64 i)]) (fun _ => [])
  (fun i => 0 ≤ i ∧ i ≤ N) (fun i => (N - i).toNat) 0 ⟨by omega, by omega⟩ ?_ ?_)
 ·rw [hT0]
  exact ghT
 intro i ⟨hi, hi2⟩ Q' hb hx hr
 have hTi := hTr i hi hi2
 by_cases hin : i < N
 ·obtain ⟨v, v0, v1, hlen, hv2⟩ := hst i hi hin
  obtain ⟨x, hx0⟩ : ∃ x, x = gtI l i := ⟨_, rfl⟩
  rw [← hgt, ← hx0] at hlen
  obtain ⟨T0, hT0⟩ : ∃ x, x = T i := ⟨_, rfl⟩
  obtain ⟨T1, hT1⟩ : ∃ x, x = T (i + 1) := ⟨_, rfl⟩
  rw [← hT0, ← hT1] at hv2
  rw [← hT0] at hTi
  rw [← hT0]
  have t1 : i2 .add .i64 T0 v = T1 := by rw [hv2]; exact hk.add64 _ _ (by omega) (by omega)
  (conv => cbv)
  repeat' (first | assumption | ((first | rw [hln] | refine hk.idxI hi hin ?_ | refine hk.idxI hi (by rw [hln]; exact hin) ?_ | rw [← hx0] | rw [t1] | refine stp ?_ | refine stpB (fun _ => ?_) (fun _ => ?_)) <;> (conv => cbv)) | exact stpF | fail)
  refine hb (i + 1) _ ⟨by omega, by omega⟩ (by omega) ?_
  rw [← hT1]
  refine Gh.tm ?_
  repeat' (first | exact Holds.nil _ _ | refine Holds.cons (Wk.refl _ _) ?_ | refine Holds.cons (Wk.of_eq ?_) ?_)
  all_goals first
   | (rw [← hk.add64 i 1 (by omega) (by omega)]; rfl)
   | rfl
   | skip
 ·have : i = N := by omega
  subst this
  (conv => cbv)
  repeat' (first | assumption | ((first | refine hx _ _ ?_ | refine stp ?_ | refine stpB (fun _ => ?_) (fun _ => ?_)) <;> (conv => cbv)) | exact stpF | fail)
  all_goals exact hk.fin0 rfl rfl (Wk.refl _ _)
end Go.Proofs.YtoeekjddeknmbaaGreat
