/-
  Contracts of functions of the program, proved over the abstract machine of the Al texts.
-/
import Derived.Test.YtoeekjddeknmbaaGreatTryTab
import Derived.Test.YtoeekjddeknmbaaGreatAl4
import Derived.Test.YtoeekjddeknmbaaGreatBaseX
import Derived.Test.YtoeekjddeknmbaaGreatBsX1
import Derived.Test.YtoeekjddeknmbaaGreatBsX2
import Derived.Test.YtoeekjddeknmbaaGreatTkX3
import Derived.Test.YtoeekjddeknmbaaGreatRbX
set_option maxHeartbeats 4000000
set_option maxRecDepth 20000
set_option linter.unusedSimpArgs false
set_option linter.unusedVariables false
open Go Go.AL
namespace Go.Proofs.YtoeekjddeknmbaaGreat
def bigP (n : Int) : Bool := decide (n < -65536) || decide (65536 ≤ n)
def halfL (l : List Int) : List Int := l.map fun n => n / 2
def sclG : Nat → List Int → List Int
 | 0, l => l
 | f + 1, l => if l.any bigP = true then sclG f (halfL l) else l
def scl (l : List Int) : List Int := sclG 12 l
def BdF (f : Nat) (l : List Int) : Prop := ∀ x ∈ l, -2 ^ (15 + f) ≤ x ∧ x < 2 ^ (15 + f)
theorem halfL_len (l : List Int) : (halfL l).length = l.length := by simp [halfL]
theorem sclG_len : ∀ (f : Nat) (l : List Int), (sclG f l).length = l.length
 | 0, l => rfl
 | f + 1, l => by
   rw [sclG]
   split
   ·rw [sclG_len, halfL_len]
   ·rfl
theorem scl_len (l : List Int) : (scl l).length = l.length := sclG_len 12 l
theorem bdF_half {f : Nat} {l : List Int} (h : BdF (f + 1) l) : BdF f (halfL l) := fun x hx => by
 obtain ⟨y, hy, rfl⟩ := List.mem_map.1 hx
 obtain ⟨h0, h1⟩ := h y hy
 rw [show 15 + (f + 1) = (15 + f) + 1 by omega, Int.pow_succ] at h0 h1
 generalize (2 : Int) ^ (15 + f) = p at *
 omega
theorem bdF_zero {l : List Int} (h : BdF 0 l) : l.any bigP = false := by
 rw [List.any_eq_false]
 intro x hx
 obtain ⟨h0, h1⟩ := h x hx
 have e : (2 : Int) ^ (15 + 0) = 32768 := by decide
 rw [e] at h0 h1
 unfold bigP
 simp only [Bool.or_eq_true, decide_eq_true_eq]
 omega
def Bd16 (l : List Int) : Prop := ∀ i, i < l.length → -65536 ≤ l.getD i 0 ∧ l.getD i 0 < 65536
def Bd17 (l : List Int) : Prop := ∀ i, i < l.length → -131072 ≤ l.getD i 0 ∧ l.getD i 0 ≤ 131072
theorem any_bd16 {l : List Int} (h : l.any bigP = false) : Bd16 l := fun i hi => by
 rw [List.any_eq_false] at h
 have := h (l.getD i 0) (by rw [List.getD_eq_getElem?_getD, List.getElem?_eq_getElem hi]; exact List.getElem_mem _)
 unfold bigP at this
 simp only [Bool.or_eq_true, decide_eq_true_eq] at this
 omega
theorem sclG_bd : ∀ (f : Nat) (l : List Int), BdF f l → Bd16 (sclG f l)
 | 0, l, h => any_bd16 (bdF_zero h)
 | f + 1, l, h => by
   rw [sclG]
   split
   ·exact sclG_bd f _ (bdF_half h)
   ·rename_i hh
    exact any_bd16 (by simpa using hh)
theorem small_bdF {l : List Int} (h : ∀ i, i < l.length → -67108864 ≤ l.getD i 0 ∧ l.getD i 0 ≤ 67108864) : BdF 12 l := fun x hx => by
 obtain ⟨i, hi, rfl⟩ := List.getElem_of_mem hx
 have := h i hi
 rw [List.getD_eq_getElem?_getD, List.getElem?_eq_getElem hi] at this
 have e : (2 : Int) ^ (15 + 12) = 134217728 := by decide
 rw [e]
 simp only [Option.getD_some] at this
 omega
theorem Bd16.w {l : List Int} (h : Bd16 l) : Bd17 l := fun i hi => by have := h i hi; omega
def clipZ (n : Int) : Int := if n < -131072 then -131072 else if 131072 < n then 131072 else n
theorem clipZ_rg (n : Int) : -131072 ≤ clipZ n ∧ clipZ n ≤ 131072 := by unfold clipZ; split; · omega
                                                                        split <;> omega
def wN (f b : List Int) (lo : Nat) : Nat → Int
 | 0 => 0
 | k + 1 => wN f b lo k + f.getD (lo + k) 0 * b.getD (lo + k - 1) 0
def wD (f b : List Int) (lo : Nat) : Nat → Int
 | 0 => 0
 | k + 1 => wD f b lo k + (f.getD (lo + k) 0 * f.getD (lo + k) 0 + b.getD (lo + k - 1) 0 * b.getD (lo + k - 1) 0)
theorem mul17 {x y : Int} (hx : -131072 ≤ x ∧ x ≤ 131072) (hy : -131072 ≤ y ∧ y ≤ 131072) : -17179869184 ≤ x * y ∧ x * y ≤ 17179869184 := by
 have h1 : x.natAbs * y.natAbs ≤ 131072 * 131072 := Nat.mul_le_mul (by omega) (by omega)
 rw [← Int.natAbs_mul] at h1
 omega
theorem sq17 {x : Int} (hx : -131072 ≤ x ∧ x ≤ 131072) : 0 ≤ x * x ∧ x * x ≤ 17179869184 := by
 have h1 := mul17 hx hx
 have h2 : 0 ≤ x * x := by
  rcases Int.le_total 0 x with h | h
  ·exact Int.mul_nonneg h h
  ·exact Int.mul_nonneg_of_nonpos_of_nonpos h h
 omega
theorem bd17_get {l : List Int} (h : Bd17 l) (i : Nat) : -131072 ≤ l.getD i 0 ∧ l.getD i 0 ≤ 131072 := by
 rcases Nat.lt_or_ge i l.length with hi | hi
 ·exact h i hi
 ·rw [List.getD_eq_getElem?_getD, List.getElem?_eq_none hi]; decide
theorem wN_rg {f b : List Int} (hf : Bd17 f) (hb : Bd17 b) (lo : Nat) : ∀ k : Nat, -(17179869184 * (k : Int)) ≤ wN f b lo k ∧ wN f b lo k ≤ 17179869184 * (k : Int)
 | 0 => by simp [wN]
 | k + 1 => by
   have h1 := wN_rg hf hb lo k
   have h2 := mul17 (bd17_get hf (lo + k)) (bd17_get hb (lo + k - 1))
   rw [wN]; omega
theorem wD_rg {f b : List Int} (hf : Bd17 f) (hb : Bd17 b) (lo : Nat) : ∀ k : Nat, 0 ≤ wD f b lo k ∧ wD f b lo k ≤ 34359738368 * (k : Int)
 | 0 => by simp [wD]
 | k + 1 => by
   have h1 := wD_rg hf hb lo k
   have h2 := sq17 (bd17_get hf (lo + k))
   have h3 := sq17 (bd17_get hb (lo + k - 1))
   rw [wD]; omega
def wishK (f b : List Int) (m : Nat) : Int := if wD f b (m + 1) (f.length - (m + 1)) = 0 then 0 else (-32768 * wN f b (m + 1) (f.length - (m + 1))).tdiv (wD f b (m + 1) (f.length - (m + 1)))
theorem wishK_rg {f b : List Int} (hf : Bd17 f) (hb : Bd17 b) (m : Nat) (hl : f.length ≤ 1024) : -600000000000000000 ≤ wishK f b m ∧ wishK f b m ≤ 600000000000000000 := by
 unfold wishK
 split
 ·decide
 ·rename_i h
  have h1 := wN_rg hf hb (m + 1) (f.length - (m + 1))
  have hk : ((f.length - (m + 1) : Nat) : Int) ≤ 1024 := by omega
  have hk0 : 0 ≤ ((f.length - (m + 1) : Nat) : Int) := by omega
  generalize ((f.length - (m + 1) : Nat) : Int) = K at *
  generalize wN f b (m + 1) (f.length - (m + 1)) = n at *
  generalize wD f b (m + 1) (f.length - (m + 1)) = d at *
  have h2 := Int.natAbs_tdiv_le_natAbs (-32768 * n) d
  omega
def nearT (place want : Int) (j : Nat) : Int := if refl_ place ((j : Int) - 64) - want < 0 then -(refl_ place ((j : Int) - 64) - want) else refl_ place ((j : Int) - 64) - want
def nearI (place want : Int) : Int := (lstK (nearT place want) 127 : Nat) - 64
theorem nearI_rg (place want : Int) : -64 ≤ nearI place want ∧ nearI place want ≤ 63 := by
 have := (lstK_spec (nearT place want) 127).1
 unfold nearI
 omega
theorem refl_rg (p i : Int) (h0 : -64 ≤ i) (h1 : i ≤ 63) : -16384 ≤ refl_ p i ∧ refl_ p i ≤ 16384 := by
 obtain ⟨a, b⟩ := sq_range i h0 h1
 unfold refl_
 split
 ·omega
 ·split <;> omega
def cliF (f b : List Int) (m : Nat) (k : Int) : List Int := (List.range f.length).map fun i => if m < i then clipZ (f.getD i 0 + rnd (k * b.getD (i - 1) 0)) else f.getD i 0
def cliB (f b : List Int) (m : Nat) (k : Int) : List Int := (List.range b.length).map fun i => if m < i then clipZ (b.getD (i - 1) 0 + rnd (k * f.getD i 0)) else b.getD i 0
theorem rmap_get (n : Nat) (g : Nat → Int) (i : Nat) (h : i < n) : ((List.range n).map g).getD i 0 = g i := by
 rw [List.getD_eq_getElem?_getD, List.getElem?_map, List.getElem?_range h]
 rfl
theorem cliF_len (f b : List Int) (m : Nat) (k : Int) : (cliF f b m k).length = f.length := by simp [cliF]
theorem cliB_len (f b : List Int) (m : Nat) (k : Int) : (cliB f b m k).length = b.length := by simp [cliB]
theorem cliF_bd {f b : List Int} (hf : Bd17 f) (m : Nat) (k : Int) : Bd17 (cliF f b m k) := fun i hi => by
 rw [cliF_len] at hi
 rw [cliF, rmap_get _ _ _ hi]
 split
 ·exact clipZ_rg _
 ·exact hf i hi
theorem cliB_bd {f b : List Int} (hb : Bd17 b) (m : Nat) (k : Int) : Bd17 (cliB f b m k) := fun i hi => by
 rw [cliB_len] at hi
 rw [cliB, rmap_get _ _ _ hi]
 split
 ·exact clipZ_rg _
 ·exact hb i hi
def guG (l : List Int) : Nat → List Int × List Int × List Int
 | 0 => (scl l, scl l, [])
 | m + 1 =>
   let x := guG l m
   let i := nearI m (wishK x.1 x.2.1 m)
   (cliF x.1 x.2.1 m (refl_ m i), cliB x.1 x.2.1 m (refl_ m i), x.2.2 ++ [i])
def guess (l : List Int) (n : Nat) : List Int := (guG l n).2.2
theorem guG_len (l : List Int) : ∀ n, (guG l n).1.length = l.length ∧ (guG l n).2.1.length = l.length ∧ (guG l n).2.2.length = n
 | 0 => ⟨scl_len l, scl_len l, rfl⟩
 | n + 1 => by
   obtain ⟨h1, h2, h3⟩ := guG_len l n
   refine ⟨?_, ?_, ?_⟩
   ·show (cliF _ _ _ _).length = _; rw [cliF_len]; exact h1
   ·show (cliB _ _ _ _).length = _; rw [cliB_len]; exact h2
   ·show ((guG l n).2.2 ++ [nearI n (wishK (guG l n).1 (guG l n).2.1 n)]).length = _; rw [List.length_append, h3]; rfl
theorem guG_bd {l : List Int} (h : ∀ i, i < l.length → -67108864 ≤ l.getD i 0 ∧ l.getD i 0 ≤ 67108864) : ∀ n, Bd17 (guG l n).1 ∧ Bd17 (guG l n).2.1
 | 0 => ⟨(sclG_bd 12 l (small_bdF h)).w, (sclG_bd 12 l (small_bdF h)).w⟩
 | n + 1 => ⟨cliF_bd (guG_bd h n).1 _ _, cliB_bd (guG_bd h n).2 _ _⟩
theorem guess_len (l : List Int) (n : Nat) : (guess l n).length = n := (guG_len l n).2.2
theorem guess_succ (l : List Int) (n : Nat) : guess l (n + 1) = guess l n ++ [nearI n (wishK (guG l n).1 (guG l n).2.1 n)] := rfl
theorem guess_take (l : List Int) : ∀ (n m : Nat), m ≤ n → (guess l n).take m = guess l m
 | 0, m, h => by rw [show m = 0 by omega]; rfl
 | n + 1, m, h => by
   rcases Nat.lt_or_eq_of_le h with h1 | h1
   ·rw [guess_succ, List.take_append_of_le_length (by rw [guess_len]; omega)]
    exact guess_take l n m (by omega)
   ·rw [h1, List.take_of_length_le (by rw [guess_len]; exact Nat.le_refl _)]
theorem guess_mem (l : List Int) : ∀ (n : Nat), ∀ x ∈ guess l n, -64 ≤ x ∧ x ≤ 63
 | 0, x, h => by cases h
 | n + 1, x, h => by
   rw [guess_succ, List.mem_append] at h
   rcases h with h | h
   ·exact guess_mem l n x h
   ·rw [List.mem_singleton] at h
    rw [h]; exact nearI_rg _ _
theorem guess_ok (l : List Int) (n : Nat) (h : n ≤ 16) : IxOK (guess l n) := ⟨by rw [guess_len]; exact h, fun i hi => guess_mem l n _ (by
 rw [List.getD_eq_getElem?_getD, List.getElem?_eq_getElem hi]; exact List.getElem_mem _)⟩
end Go.Proofs.YtoeekjddeknmbaaGreat
