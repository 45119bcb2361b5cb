/-
  Contracts of functions of the program, proved over the abstract machine of the Al texts.
-/
import Derived.Test.YtoeekjddeknmbaaGreatTryTab
import Derived.Test.YtoeekjddeknmbaaGreatAl4
import Derived.Test.YtoeekjddeknmbaaGreatBaseX
import Derived.Test.YtoeekjddeknmbaaGreatBsX1
import Derived.Test.YtoeekjddeknmbaaGreatTkX3
import Derived.Test.YtoeekjddeknmbaaGreatHrX
import Derived.Test.YtoeekjddeknmbaaGreatRbX
import Derived.Test.YtoeekjddeknmbaaGreatNmX
set_option maxHeartbeats 4000000
set_option maxRecDepth 20000
set_option linter.unusedSimpArgs false
set_option linter.unusedVariables false
open Go Go.AL
namespace Go.Proofs.YtoeekjddeknmbaaGreat
def R64 (l : List Int) : Prop := ∀ i, i < l.length → -9223372036854775808 ≤ l.getD i 0 ∧ l.getD i 0 < 9223372036854775808
def lagW (a g : Int) (l : List Int) (i : Int) : Int := if a = 0 ∨ i < a then 0 else W (l.getD (i - a).toNat 0 * g) / 16
def offW (a g : Int) (l : List Int) : List Int := (List.range l.length).map fun i => W (l.getD i 0 - lagW a g l (i : Nat))
theorem offW_len (a g : Int) (l : List Int) : (offW a g l).length = l.length := by simp [offW]
theorem offW_get (a g : Int) (l : List Int) (i : Nat) (h : i < l.length) : (offW a g l).getD i 0 = W (l.getD i 0 - lagW a g l (i : Nat)) := by
 unfold offW
 rw [List.getD_eq_getElem?_getD, List.getElem?_map, List.getElem?_range h]
 rfl
def szW (x : Int) : Int := if W (0 - x) > x then W (0 - x) else x
def sumS (l : List Int) : Nat → Int
 | 0 => 0
 | i + 1 => W (sumS l i + szW (l.getD i 0))
theorem W_id {n : Int} (h : -9223372036854775808 ≤ n ∧ n < 9223372036854775808) : W n = n := by rw [W_val]; omega
theorem sumS_alt {l : List Int} (hr : R64 l) {i : Nat} (hi : i < l.length) : sumS l (i + 1) = if l.getD i 0 < 0 then W (sumS l i - l.getD i 0) else W (sumS l i + l.getD i 0) := by
 rw [sumS]
 obtain ⟨h0, h1⟩ := hr i hi
 generalize l.getD i 0 = n at *
 generalize sumS l i = s
 unfold szW
 simp only [W_val]
 split <;> split <;> omega
theorem lagW_zero (l : List Int) (i : Int) : lagW 0 0 l i = 0 := by simp [lagW]
theorem offW_zero {l : List Int} (hr : R64 l) : offW 0 0 l = l := by
 apply List.ext_getElem (by rw [offW_len])
 intro i h1 h2
 have := offW_get 0 0 l i h2
 rw [lagW_zero, Int.sub_zero, W_id (hr i h2)] at this
 rw [List.getD_eq_getElem?_getD, List.getD_eq_getElem?_getD, List.getElem?_eq_getElem h1, List.getElem?_eq_getElem h2] at this
 exact this
theorem offW_r64 (a g : Int) (l : List Int) : R64 (offW a g l) := fun i hi => by
 rw [offW_len] at hi
 rw [offW_get a g l i hi]
 exact W_range _
abbrev Lt3 := Int × Int × Int
def lt3 (a b : Lt3) : Bool := if a.2.2 = b.2.2 then (if a.1 = b.1 then decide (a.2.1 < b.2.1) else decide (a.1 < b.1)) else decide (a.2.2 < b.2.2)
def e000 : Lt3 := (0, 0, 0)
theorem lt3_iff (a b : Lt3) : lt3 a b = true ↔ a.2.2 < b.2.2 ∨ (a.2.2 = b.2.2 ∧ (a.1 < b.1 ∨ (a.1 = b.1 ∧ a.2.1 < b.2.1))) := by
 unfold lt3
 split
 ·split <;> simp <;> omega
 ·simp; omega
theorem lt3_ordr : Ordr lt3 where
 asym a b h := by
  rw [lt3_iff] at h
  cases hb : lt3 b a
  ·rfl
  ·rw [lt3_iff] at hb; omega
 trans a b c h1 h2 := by
  cases hb : lt3 c a
  ·rfl
  ·rw [lt3_iff] at hb
   have h1 : ¬ lt3 b a = true := by rw [h1]; simp
   have h2 : ¬ lt3 c b = true := by rw [h2]; simp
   rw [lt3_iff] at h1 h2
   omega
def trG (l : List Int) (k : Nat) : Int × Int := if k = 0 then (0, 0) else ((((k - 1) / 15 + 1 : Nat) : Int), (((k - 1) % 15 + 1 : Nat) : Int))
def trS (l : List Int) (k : Nat) : Int := sumS (offW (trG l k).1 (trG l k).2 l) l.length
def trE (l : List Int) (k : Nat) : Lt3 := ((trG l k).1, (trG l k).2, trS l k)
def trN (l : List Int) : Nat := 15 * (min (l.length - 1) 255)
def trP (l : List Int) (k : Nat) : List Lt3 := (List.range (k + 1)).map (trE l)
theorem trP_len (l : List Int) (k : Nat) : (trP l k).length = k + 1 := by simp [trP]
theorem trP_succ (l : List Int) (k : Nat) : trP l (k + 1) = trP l k ++ [trE l (k + 1)] := by
 unfold trP
 rw [List.range_succ, List.map_append]
 rfl
def bestG (l : List Int) (k : Nat) : Nat := lstK (trS l) k
theorem trG_mono (l : List Int) {i j : Nat} (h : i < j) : (trG l i).1 < (trG l j).1 ∨ ((trG l i).1 = (trG l j).1 ∧ (trG l i).2 < (trG l j).2) := by
 unfold trG
 have hj : ¬ j = 0 := by omega
 rw [if_neg hj]
 split
 ·left; simp only; omega
 ·simp only
  have h1 := Nat.div_add_mod (i - 1) 15
  have h2 := Nat.div_add_mod (j - 1) 15
  have h3 := Nat.mod_lt (i - 1) (show 0 < 15 by decide)
  have h4 := Nat.mod_lt (j - 1) (show 0 < 15 by decide)
  generalize (i - 1) / 15 = a at *
  generalize (j - 1) / 15 = b at *
  generalize (i - 1) % 15 = c at *
  generalize (j - 1) % 15 = d at *
  omega
theorem trP_root (l : List Int) (k : Nat) {L : List Lt3} (hp : L.Perm (trP l k)) (hh : HpP lt3 e000 L L.length) : L.getD 0 e000 = trE l (bestG l k) := by
 have hl : L.length = k + 1 := by rw [hp.length_eq, trP_len]
 have h0 : L.getD 0 e000 ∈ L := by
  rw [List.getD_eq_getElem?_getD, List.getElem?_eq_getElem (by omega)]
  exact List.getElem_mem _
 have hm : ∀ x, x ∈ L ↔ ∃ i, i ≤ k ∧ x = trE l i := fun x => by
  rw [hp.mem_iff, trP, List.mem_map]
  constructor
  ·rintro ⟨i, hi, rfl⟩; rw [List.mem_range] at hi; exact ⟨i, by omega, rfl⟩
  ·rintro ⟨i, hi, rfl⟩; exact ⟨i, List.mem_range.2 (by omega), rfl⟩
 obtain ⟨b, hb, hbe⟩ := (hm _).1 h0
 obtain ⟨a1, a2, a3⟩ := lstK_spec (trS l) k
 obtain ⟨c, hc, hce⟩ := List.mem_iff_getElem.1 ((hm (trE l (bestG l k))).2 ⟨_, a1, rfl⟩)
 have hr := heap_root lt3_ordr hh c (by omega)
 rw [hbe, List.getD_eq_getElem?_getD, List.getElem?_eq_getElem hc] at hr
 simp only [Option.getD_some, hce] at hr
 have hr : ¬ lt3 (trE l (bestG l k)) (trE l b) = true := by rw [hr]; simp
 rw [lt3_iff] at hr
 have h1 := a2 b (by omega)
 have h2 := a3 b
 rw [hbe]
 have : b = bestG l k := by
  rcases Nat.lt_trichotomy b (bestG l k) with h | h | h
  ·have := h2 h; unfold bestG at hr; simp only [trE] at hr; omega
  ·exact h
  ·have hq := trG_mono l h
   unfold bestG at hr hq; simp only [trE] at hr; omega
 rw [this]
theorem lpartW_spec (a g i : Int) (out : List Int) (h : Heap) (hi0 : 0 ≤ i) (hi : i ≤ (out.length : Nat)) (hl : out.length ≤ 1024) (ht : termB a g = true) :
 Does PP 104 [.agg [I a, I g], LI out, I i] h (Is (I (lagW a g out i)) h) := by
 obtain ⟨r, hr⟩ : ∃ r, r = lagW a g out i := ⟨_, rfl⟩
 have h0 : (a = 0 ∨ i < a) → r = 0 := fun h => by rw [hr, lagW, if_pos h]
 have h1 : ¬ (a = 0 ∨ i < a) → r = W (out.getD (i - a).toNat 0 * g) / 16 := fun h => by rw [hr, lagW, if_neg h]
 rw [← hr]
 rw [termB, decide_eq_true_eq] at ht
 refine pure0 ?_ rfl rfl h
 refine wlk Tryz.f104 ?_
 unhygienic intros
 have hsub : ¬ (a = 0 ∨ i < a) → i2 .sub .i64 i a = i - a := fun h => hk.sub64 _ _ (by omega) (by omega)
 have hidx : ¬ (a = 0 ∨ i < a) → 0 ≤ i - a ∧ i - a < lnI out := fun h => by rw [hk.lnI_eq]; omega
 have hv : ¬ (a = 0 ∨ i < a) → i2 .shr .i64 (i2 .mul .i64 (gtI out (i - a)) g) 4 = r := fun h => by
  rw [h1 h, hk.gtI_eq, hk.i2_mul, hk.i2_eq]
  show (_ : Int).fdiv (2 ^ (min (4 : Int).toNat 64)) = _
  rw [show min (4 : Int).toNat 64 = 4 by decide, Int.fdiv_eq_ediv_of_nonneg _ (by decide)]
  rfl
 clear hr h1 hi hi0
 (conv => cbv)
 repeat' (first
  | assumption
  | (refine stpB (fun _ => ?_) (fun _ => ?_) <;> (conv => cbv))
  | (refine stp ?_; (conv => cbv))
  | exact stpF
  | fail)
 ·rename_i h
  rw [h0 (.inl h)]
  exact hk.fin0 rfl rfl (.refl _ _)
 ·rename_i h h2
  rw [h0 (.inr h2)]
  exact hk.fin0 rfl rfl (.refl _ _)
 ·rename_i h h2
  have hn : ¬ (a = 0 ∨ i < a) := by omega
  rw [hsub hn, hv hn]
  first
   | exact hk.fin0 rfl rfl (.refl _ _)
   | (refine hk.idxI (hidx hn).1 (hidx hn).2 (hk.ge0I (n := 4) (by decide) ?_)
      exact hk.fin0 rfl rfl (.refl _ _))
theorem offW_spec (a g : Int) (l : List Int) (h : Heap) (ht : termB a g = true) (hl : l.length ≤ 1024) : Does PP 119 [.agg [I a, I g], LI l] h (Is (LI (offW a g l)) h) := by
 obtain ⟨Q, hQ⟩ : ∃ Q : Int → List Int, ∀ i, Q i = (offW a g l).take i.toNat := ⟨_, fun _ => rfl⟩
 obtain ⟨n, hn⟩ : ∃ n : Int, n = (l.length : Nat) := ⟨_, rfl⟩
 have hQn : offW a g l = Q n := by rw [hQ, List.take_of_length_le (by rw [offW_len]; omega)]
 have hQ0 : Q 0 = [] := by rw [hQ]; rfl
 have hQl : ∀ i : Int, 0 ≤ i → i ≤ n → ((Q i).length : Int) = i := fun i a b => by rw [hQ, List.length_take, offW_len]; omega
 have hst : ∀ i : Int, 0 ≤ i → i < n → ∃ t m : Int, t = lagW a g l i ∧ m = W (l.getD i.toNat 0 - t) ∧ Q (i + 1) = Q i ++ [m] := fun i c d => by
  refine ⟨_, _, rfl, rfl, ?_⟩
  rw [hQ, hQ, show (i + 1).toNat = i.toNat + 1 by omega, takeI_snoc _ _ (by rw [offW_len]; omega), offW_get _ _ _ _ (by omega), show ((i.toNat : Nat) : Int) = i by omega]
 have hpt : ∀ (i : Int) h, 0 ≤ i → i < n → Does PP 104 [.agg [I a, I g], LI l, I i] h (Is (I (lagW a g l i)) h) := fun i h c d => lpartW_spec a g i l h c (by omega) hl ht
 have hn0 : 0 ≤ n ∧ n ≤ 1024 := by omega
 rw [hQn]
 clear hQn
 refine pure0 ?_ rfl rfl h
 refine wlk Tryz.f119 ?_
 unhygienic intros
 have hln : lnI l = n := by rw [hk.lnI_eq]; omega
 have hgl := hk.gtI_eq l
 have hl1 : ∀ x, lnI [x] = 1 := fun x => hk.lnI_eq _
 have hlo : ∀ i, 0 ≤ i → i ≤ n → lnI (Q i) = i := fun i c d => by rw [hk.lnI_eq, hQl i c d]
 clear hn hQ
 (conv => cbv)
 repeat' (first | assumption | ((first | rw [hln] | refine stp ?_ | refine stpB (fun _ => ?_) (fun _ => ?_)) <;> (conv => cbv)) | exact stpF | fail)
 refine hk.loopI (loop_rule (α := Int) (fun i => [(1, .ls (.il .i64 l) .any), (2, .ptr 0 0), (4, .ls .nl .nil), (5, .ls (.il .i64 (Q i)) (.tok 1 0)), (8, .ls (.il .i64 l) .any), (9, .int .i64 n), (10, .int .i64 i)]) (fun _ => [.box [.int .i64 a, .int .i64 g], .tok 0])
  (fun i => 0 ≤ i ∧ i ≤ n) (fun i => (n - i).toNat) 0 ⟨by omega, by omega⟩ ?_ ?_)
 ·rw [hQ0]
  refine Gh.trans (Gh.thaw 5 (.il .i64 []) rfl trivial rfl) (Gh.tm ?_)
  repeat' (first | exact Holds.nil _ _ | refine Holds.cons (Wk.refl _ _) ?_)
 intro i ⟨hi, hi2⟩ Q' hb hx hr
 have hlo := hlo i hi hi2
 by_cases h2 : i < n
 ·obtain ⟨t, m, ht0, hm, hq⟩ := hst i hi h2
  have hpt2 := fun h => hpt i h hi h2
  simp only [← ht0] at hpt2
  obtain ⟨x, hx0⟩ : ∃ x, x = gtI l i := ⟨_, rfl⟩
  rw [← hgl, ← hx0] at hm
  have hsu : i2 .sub .i64 x t = m := by rw [hm]; exact hk.i2_sub _ _ _
  have hap : apI (Q i) [m] = Q (i + 1) := by rw [hk.apI_eq]; exact hq.symm
  obtain ⟨Q0, hQ0⟩ : ∃ y, y = Q i := ⟨_, rfl⟩
  obtain ⟨Q1, hQ1⟩ : ∃ y, y = Q (i + 1) := ⟨_, rfl⟩
  rw [← hQ0] at hap hlo ⊢
  rw [← hQ1] at hap
  clear ht0 hm hq
  (conv => cbv)
  repeat' (first | assumption | ((first | rw [hln] | refine hk.idxI hi h2 ?_ | rw [← hx0] | rw [hsu] | rw [hlo, hl1, hap] | refine stp ?_ | refine stpB (fun _ => ?_) (fun _ => ?_)) <;> (conv => cbv)) | exact stpF | fail)
  refine hb (i + 1) _ ⟨by omega, by omega⟩ (by omega) ?_
  rw [← hQ1]
  refine Gh.retok 1 1 rfl (Nat.le_of_ble_eq_true rfl) ?_ rfl rfl
  repeat' (first | exact HoldsT.nil _ _ _ _ | refine HoldsT.tok rfl ?_ | refine HoldsT.cons (Wk.refl _ _) rfl ?_ | refine HoldsT.cons (Wk.of_eq ?_) rfl ?_)
  all_goals first
   | (rw [← hk.add64 i 1 (by omega) (by omega)]; rfl)
   | rfl
   | skip
 ·have : i = n := by omega
  subst this
  (conv => cbv)
  repeat' (first | assumption | ((first | refine hx _ _ ?_ | refine stp ?_ | refine stpB (fun _ => ?_) (fun _ => ?_)) <;> (conv => cbv)) | exact stpF | fail)
  all_goals exact hk.fin0 rfl rfl (Wk.any _ _ _)
theorem roffW_spec (a g : Int) (l : List Int) (h : Heap) (ht : termB a g = true) (hs : R64 l) (hl : l.length ≤ 1024) : Does PP 59 [I a, I g, LI l] h (Is (LI (offW a g l)) h) := by
 obtain ⟨Q, hQ⟩ : ∃ Q : Int → List Int, ∀ i, Q i = (offW a g l).take i.toNat := ⟨_, fun _ => rfl⟩
 obtain ⟨n, hn⟩ : ∃ n : Int, n = (l.length : Nat) := ⟨_, rfl⟩
 have hQn : offW a g l = Q n := by rw [hQ, List.take_of_length_le (by rw [offW_len]; omega)]
 have hQ0 : Q 0 = [] := by rw [hQ]; rfl
 have hQl : ∀ i : Int, 0 ≤ i → i ≤ n → ((Q i).length : Int) = i := fun i a b => by rw [hQ, List.length_take, offW_len]; omega
 have hst : ∀ i : Int, 0 ≤ i → i < n → ∃ t m : Int, t = lagW a g l i ∧ m = W (l.getD i.toNat 0 - t) ∧ Q (i + 1) = Q i ++ [m] := fun i c d => by
  refine ⟨_, _, rfl, rfl, ?_⟩
  rw [hQ, hQ, show (i + 1).toNat = i.toNat + 1 by omega, takeI_snoc _ _ (by rw [offW_len]; omega), offW_get _ _ _ _ (by omega), show ((i.toNat : Nat) : Int) = i by omega]
 have hdn := fun n h h1 => down_spec n h h1
 have hn0 : 0 ≤ n ∧ n ≤ 1024 := by omega
 rw [hQn]
 clear hQn
 refine pure0 ?_ rfl rfl h
 refine wlk Tryz.f59 ?_
 unhygienic intros
 have hln : lnI l = n := by rw [hk.lnI_eq]; omega
 have hgl := hk.gtI_eq l
 have hl1 : ∀ x, lnI [x] = 1 := fun x => hk.lnI_eq _
 have hlo : ∀ i, 0 ≤ i → i ≤ n → lnI (Q i) = i := fun i c d => by rw [hk.lnI_eq, hQl i c d]
 clear hQ
 (conv => cbv)
 repeat' (first | assumption | ((first | rw [hln] | refine stp ?_ | refine stpB (fun _ => ?_) (fun _ => ?_)) <;> (conv => cbv)) | exact stpF | fail)
 refine hk.loopI (loop_rule (α := Int) (fun i => [(0, .int .i64 a), (1, .int .i64 g), (2, .ls (.il .i64 l) .any), (6, .ls .nl .nil), (7, .ls (.il .i64 (Q i)) (.tok 0 0)), (11, .int .i64 n), (12, .int .i64 i)]) (fun _ => [.tok 0])
  (fun i => 0 ≤ i ∧ i ≤ n) (fun i => (n - i).toNat) 0 ⟨by omega, by omega⟩ ?_ ?_)
 ·rw [hQ0]
  refine Gh.trans (Gh.thaw 7 (.il .i64 []) rfl trivial rfl) (Gh.tm ?_)
  repeat' (first | exact Holds.nil _ _ | refine Holds.cons (Wk.refl _ _) ?_)
 intro i ⟨hi, hi2⟩ Q' hb hx hr
 have hlo := hlo i hi hi2
 by_cases h2 : i < n
 ·obtain ⟨t, m, ht0, hm, hq⟩ := hst i hi h2
  obtain ⟨x0, x1⟩ := hs i.toNat (by omega)
  have htz : ¬ (0 < a ∧ a ≤ i) → t = 0 := fun h => by
   rw [termB, decide_eq_true_eq] at ht
   rw [ht0, lagW, if_pos (by omega)]
  have htp : 0 < a ∧ a ≤ i → t = W (l.getD (i - a).toNat 0 * g) / 16 := fun h => by
   rw [termB, decide_eq_true_eq] at ht
   rw [ht0, lagW, if_neg (by omega)]
  obtain ⟨x, hx0⟩ : ∃ x, x = gtI l i := ⟨_, rfl⟩
  rw [← hgl, ← hx0] at x0 x1 hm
  have hsu : i2 .sub .i64 x t = m := by rw [hm]; exact hk.i2_sub _ _ _
  have hap : apI (Q i) [m] = Q (i + 1) := by rw [hk.apI_eq]; exact hq.symm
  obtain ⟨Q0, hQ0⟩ : ∃ y, y = Q i := ⟨_, rfl⟩
  obtain ⟨Q1, hQ1⟩ : ∃ y, y = Q (i + 1) := ⟨_, rfl⟩
  rw [← hQ0] at hap hlo ⊢
  rw [← hQ1] at hap
  clear ht0 hq hs ht
  by_cases hc : 0 < a ∧ a ≤ i
  ·have hp := htp hc
   obtain ⟨c1, c2'⟩ := hc
   obtain ⟨j, hj⟩ : ∃ j, j = i - a := ⟨_, rfl⟩
   rw [← hj] at hp
   have hji : i2 .sub .i64 i a = j := by rw [hj]; exact hk.sub64 _ _ (by omega) (by omega)
   have hj0 : 0 ≤ j ∧ j < n := by omega
   obtain ⟨y, hy0⟩ : ∃ x, x = gtI l j := ⟨_, rfl⟩
   rw [← hgl, ← hy0] at hp
   have hPr := W_range (y * g)
   obtain ⟨P, hP⟩ : ∃ x, x = W (y * g) := ⟨_, rfl⟩
   rw [← hP] at hp hPr
   have hmu : i2 .mul .i64 y g = P := by rw [hP]; exact hk.i2_mul _ _ _
   have hdn := fun h => hdn P h hPr
   rw [← hp] at hdn
   clear hm htz htp hP hp hj hPr
   (conv => cbv)
   repeat' (first | assumption | ((first | rw [hln] | refine hk.idxI hi h2 ?_ | rw [hji] | refine hk.idxI hj0.1 hj0.2 ?_ | rw [← hx0] | rw [← hy0] | rw [hmu] | rw [hsu] | rw [hlo, hl1, hap] | refine stp ?_ | refine stpB (fun _ => ?_) (fun _ => ?_)) <;> (conv => cbv)) | exact stpF | fail)
   refine hb (i + 1) _ ⟨by omega, by omega⟩ (by omega) ?_
   rw [← hQ1]
   refine Gh.retok 0 1 rfl (Nat.le_of_ble_eq_true rfl) ?_ rfl rfl
   repeat' (first | exact HoldsT.nil _ _ _ _ | refine HoldsT.tok rfl ?_ | refine HoldsT.cons (Wk.refl _ _) rfl ?_ | refine HoldsT.cons (Wk.of_eq ?_) rfl ?_)
   all_goals first
    | (rw [← hk.add64 i 1 (by omega) (by omega)]; rfl)
    | rfl
    | skip
  ·have hxm : x = m := by rw [hm, htz hc, Int.sub_zero]; exact (W_id ⟨x0, x1⟩).symm
   clear htz htp hm
   by_cases c1 : 0 < a
   ·have c2' : ¬ a ≤ i := fun h => hc ⟨c1, h⟩
    (conv => cbv)
    repeat' (first | assumption | ((first | rw [hln] | refine hk.idxI hi h2 ?_ | rw [← hx0] | rw [hxm] | rw [hlo, hl1, hap] | refine stp ?_ | refine stpB (fun _ => ?_) (fun _ => ?_)) <;> (conv => cbv)) | exact stpF | fail)
    refine hb (i + 1) _ ⟨by omega, by omega⟩ (by omega) ?_
    rw [← hQ1]
    refine Gh.retok 0 1 rfl (Nat.le_of_ble_eq_true rfl) ?_ rfl rfl
    repeat' (first | exact HoldsT.nil _ _ _ _ | refine HoldsT.tok rfl ?_ | refine HoldsT.cons (Wk.refl _ _) rfl ?_ | refine HoldsT.cons (Wk.of_eq ?_) rfl ?_)
    all_goals first
     | (rw [← hk.add64 i 1 (by omega) (by omega)]; rfl)
     | rfl
     | skip
   ·(conv => cbv)
    repeat' (first | assumption | ((first | rw [hln] | refine hk.idxI hi h2 ?_ | rw [← hx0] | rw [hxm] | rw [hlo, hl1, hap] | refine stp ?_ | refine stpB (fun _ => ?_) (fun _ => ?_)) <;> (conv => cbv)) | exact stpF | fail)
    refine hb (i + 1) _ ⟨by omega, by omega⟩ (by omega) ?_
    rw [← hQ1]
    refine Gh.retok 0 1 rfl (Nat.le_of_ble_eq_true rfl) ?_ rfl rfl
    repeat' (first | exact HoldsT.nil _ _ _ _ | refine HoldsT.tok rfl ?_ | refine HoldsT.cons (Wk.refl _ _) rfl ?_ | refine HoldsT.cons (Wk.of_eq ?_) rfl ?_)
    all_goals first
     | (rw [← hk.add64 i 1 (by omega) (by omega)]; rfl)
     | rfl
     | skip
 ·have : i = n := by omega
  subst this
  (conv => cbv)
  repeat' (first | assumption | ((first | refine hx _ _ ?_ | refine stp ?_ | refine stpB (fun _ => ?_) (fun _ => ?_)) <;> (conv => cbv)) | exact stpF | fail)
  all_goals exact hk.fin0 rfl rfl (Wk.any _ _ _)
end Go.Proofs.YtoeekjddeknmbaaGreat
