/-
  Contracts of functions of the program, proved over the abstract machine of the Al texts.
-/
import Derived.Test.YtoeekjddeknmbaaGreatTryTab
import Derived.Test.YtoeekjddeknmbaaGreatAl4
import Derived.Test.YtoeekjddeknmbaaGreatBaseX
import Derived.Test.YtoeekjddeknmbaaGreatRkX
import Derived.Test.YtoeekjddeknmbaaGreatBsX1
import Derived.Test.YtoeekjddeknmbaaGreatBsX2
import Derived.Test.YtoeekjddeknmbaaGreatBsX3
import Derived.Test.YtoeekjddeknmbaaGreatBsX5
import Derived.Test.YtoeekjddeknmbaaGreatTkX3
import Derived.Test.YtoeekjddeknmbaaGreatSlX
import Derived.Test.YtoeekjddeknmbaaGreatSlY
import Derived.Test.YtoeekjddeknmbaaGreatSbX
set_option maxHeartbeats 4000000
set_option maxRecDepth 20000
set_option linter.unusedSimpArgs false
set_option linter.unusedVariables false
open Go Go.AL
namespace Go.Proofs.YtoeekjddeknmbaaGreat
def Small26 (l : List Int) : Prop := ∀ i, i < l.length → -67108864 ≤ l.getD i 0 ∧ l.getD i 0 ≤ 67108864
def offL (a g : Int) (l : List Int) : List Int := (List.range l.length).map fun i => l.getD i 0 - lagPart a g l (i : Nat)
def resL (ix xs : List Int) : List Int := (List.range xs.length).map fun i => W (xs.getD i 0 - fsv ix (xs.take i))
theorem offL_len (a g : Int) (l : List Int) : (offL a g l).length = l.length := by simp [offL]
theorem resL_len (ix xs : List Int) : (resL ix xs).length = xs.length := by simp [resL]
theorem offL_get (a g : Int) (l : List Int) (i : Nat) (h : i < l.length) : (offL a g l).getD i 0 = l.getD i 0 - lagPart a g l (i : Nat) := by
 unfold offL
 rw [List.getD_eq_getElem?_getD, List.getElem?_map, List.getElem?_range h]
 rfl
theorem resL_get (ix xs : List Int) (i : Nat) (h : i < xs.length) : (resL ix xs).getD i 0 = W (xs.getD i 0 - fsv ix (xs.take i)) := by
 unfold resL
 rw [List.getD_eq_getElem?_getD, List.getElem?_map, List.getElem?_range h]
 rfl
theorem takeI_snoc (l : List Int) (k : Nat) (h : k < l.length) : l.take (k + 1) = l.take k ++ [l.getD k 0] := by
 rw [List.take_add_one]
 simp [List.getD, h]
theorem lagPart_take (a g : Int) (l : List Int) (k : Nat) (ht : termB a g = true) (h : k ≤ l.length) : lagPart a g (l.take k) (k : Nat) = lagPart a g l (k : Nat) := by
 unfold lagPart
 rw [termB, decide_eq_true_eq] at ht
 split
 ·rfl
 ·rw [take_getD _ _ _ (by omega)]
theorem onGo_off (a g : Int) (l : List Int) (ht : termB a g = true) (hs : Small40 l) : ∀ m k, k + m = l.length → onGo a g (l.take k) ((offL a g l).drop k) = some l
 | 0, k, h => by
   rw [List.drop_eq_nil_of_le (by rw [offL_len]; omega), List.take_of_length_le (by omega)]
   rfl
 | m + 1, k, h => by
   have hk : k < l.length := by omega
   rw [onGo_drop (i := k) (by rw [offL_len]; exact hk) (by rw [List.length_take]; omega), offL_get a g l k hk, lagPart_take a g l k ht (by omega)]
   have e : l.getD k 0 - lagPart a g l (k : Nat) + lagPart a g l (k : Nat) = l.getD k 0 := by omega
   rw [e]
   have := hs k hk
   rw [if_neg (by omega), ← takeI_snoc l k hk]
   exact onGo_off a g l ht hs m (k + 1) (by omega)
theorem onL_off (a g : Int) (l : List Int) (ht : termB a g = true) (hs : Small40 l) : onL a g (offL a g l) = l ∧ onE a g (offL a g l) = 0 := by
 have h := onGo_off a g l ht hs l.length 0 (by omega)
 rw [List.take_zero, List.drop_zero] at h
 exact ⟨by rw [onL, h]; rfl, by rw [onE, h]; rfl⟩
theorem W_val (n : Int) : W n = (n + 9223372036854775808) % 18446744073709551616 - 9223372036854775808 := by
 simp only [IntKind.wrap, IntKind.bits, IntKind.signed]
 by_cases h : n % 2 ^ 64 ≥ 2 ^ (64 - 1)
 ·simp; omega
 ·simp; omega
theorem W_back (x f : Int) (h : -9223372036854775808 ≤ x ∧ x < 9223372036854775808) : W (W (x - f) + f) = x := by
 rw [W_val, W_val]
 omega
theorem smGo_res (ix : List Int) (most : Int) (xs : List Int) (hs : ∀ i, i < xs.length → -most - 1 ≤ xs.getD i 0 ∧ xs.getD i 0 ≤ most) (h0 : 0 ≤ most) (h1 : most ≤ 67108864) : ∀ m k, k + m = xs.length → smGo ix most (xs.take k) ((resL ix xs).drop k) = some xs
 | 0, k, h => by
   rw [List.drop_eq_nil_of_le (by rw [resL_len]; omega), List.take_of_length_le (by omega)]
   rfl
 | m + 1, k, h => by
   have hk : k < xs.length := by omega
   have hx := hs k hk
   rw [smGo_drop (i := k) (by rw [resL_len]; exact hk), resL_get ix xs k hk, W_back _ _ (by omega), if_neg (by omega), ← takeI_snoc xs k hk]
   exact smGo_res ix most xs hs h0 h1 m (k + 1) (by omega)
theorem smL_res (ix : List Int) (most : Int) (xs : List Int) (hs : ∀ i, i < xs.length → -most - 1 ≤ xs.getD i 0 ∧ xs.getD i 0 ≤ most) (h0 : 0 ≤ most) (h1 : most ≤ 67108864) : smL ix most (resL ix xs) = xs ∧ smE ix most (resL ix xs) = 0 := by
 have h := smGo_res ix most xs hs h0 h1 xs.length 0 (by omega)
 rw [List.take_zero, List.drop_zero] at h
 exact ⟨by rw [smL, h]; rfl, by rw [smE, h]; rfl⟩
def out40 (n : Int) : Bool := decide (n < -1099511627776) || decide (n > 1099511627776)
def wrE (l : List Int) : Int := if l.any out40 = true then 9 else 0
theorem wrE_small (l : List Int) (h : l.any out40 = false) : Small40 l := fun i hi => by
 rw [List.any_eq_false] at h
 have := h _ (mem_getD.2 ⟨i, hi, rfl⟩)
 rw [out40, Bool.or_eq_true, decide_eq_true_eq, decide_eq_true_eq] at this
 omega
def lowL (sh : Int) (l : List Int) : List Int := l.map fun n => n / 2 ^ sh.toNat
theorem lowL_len (sh : Int) (l : List Int) : (lowL sh l).length = l.length := by simp [lowL]
theorem lowL_get (sh : Int) (l : List Int) (i : Nat) (h : i < l.length) : (lowL sh l).getD i 0 = l.getD i 0 / 2 ^ sh.toNat := by
 unfold lowL
 rw [List.getD_eq_getElem?_getD, List.getElem?_map, List.getD_eq_getElem?_getD, List.getElem?_eq_getElem h]
 rfl
theorem lowL_back (sh : Int) (l : List Int) (h0 : 0 ≤ sh) (h1 : sh ≤ 26) (hr : ∀ x ∈ l, -67108864 ≤ x ∧ x ≤ 67108864) (hd : ∀ x ∈ l, x % 2 ^ sh.toNat = 0) : (lowL sh l).map (shl1 sh) = l := by
 unfold lowL
 rw [List.map_map]
 conv => rhs; rw [← List.map_id l]
 refine List.map_congr_left fun x hx => ?_
 obtain ⟨a, b⟩ := hr x hx
 show shl1 sh (x / 2 ^ sh.toNat) = x
 rw [shl1_mul _ _ h0 h1, Int.ediv_mul_cancel (Int.dvd_of_emod_eq_zero (hd x hx))]
 exact wrap64 (by omega) (by omega)
theorem nm_back (sh : Int) (ix : List Int) (lg gn : Int) (l : List Int) (d : Int) (h0 : 8 ≤ d) (h1 : d ≤ 26) (hs0 : 0 ≤ sh) (hs1 : sh ≤ 26) (ht : termB lg gn = true)
 (hl : ∀ x ∈ l, lacksP d x = false) (hd : ∀ x ∈ l, x % 2 ^ sh.toNat = 0) (he : Small40 (resL ix (lowL sh l))) :
 nmE ix lg gn (offL lg gn (resL ix (lowL sh l))) d = 0 ∧ nmL sh ix lg gn (offL lg gn (resL ix (lowL sh l))) d = l := by
 obtain ⟨p0, p1⟩ := pw_range h0 h1
 obtain ⟨o1, o2⟩ := onL_off lg gn _ ht he
 have hlr : ∀ x ∈ l, -pw d ≤ x ∧ x ≤ pw d - 1 := fun x hx => by
  have := hl x hx
  rw [lacksP, Bool.or_eq_false_iff, decide_eq_false_iff_not, decide_eq_false_iff_not] at this
  omega
 have hP : (0 : Int) < 2 ^ sh.toNat := Int.pow_pos (by decide)
 obtain ⟨s1, s2⟩ := smL_res ix (pw d - 1) (lowL sh l) (fun i hi => by
  rw [lowL_len] at hi
  rw [lowL_get sh l i hi]
  obtain ⟨a, b⟩ := hlr _ (mem_getD.2 ⟨i, hi, rfl⟩)
  constructor
  ·have : -pw d ≤ l.getD i 0 / 2 ^ sh.toNat := by
    rw [Int.le_ediv_iff_mul_le hP]
    have : pw d * 1 ≤ pw d * 2 ^ sh.toNat := Int.mul_le_mul_of_nonneg_left (by omega) (by omega)
    rw [Int.neg_mul]
    omega
   omega
  ·have : l.getD i 0 / 2 ^ sh.toNat < pw d := by
    rw [Int.ediv_lt_iff_lt_mul hP]
    have : pw d * 1 ≤ pw d * 2 ^ sh.toNat := Int.mul_le_mul_of_nonneg_left (by omega) (by omega)
    omega
   omega) (by omega) (by omega)
 rw [nmE, nmL, o2, o1, s2, s1]
 refine ⟨rfl, ?_⟩
 simp only [ne_eq, not_true_eq_false, if_false]
 exact lowL_back sh l hs0 hs1 (fun x hx => by have := hlr x hx; omega) hd
abbrev ptN (p : Int) : AVal := .clo (.func 130) [.agg [I p, .ls .nl .nil]] []
theorem each_cloN (l : List Int) (m p : Int) : Does PP 129 [LI l, I m, ptN p] [] (Is (.clo (.func 136) [] [.ptr 1 0, .ptr 2 0, .ptr 0 0]) [.box [LI l], .box [I m], .box [ptN p]]) := by
 refine wlk Tryz.f129 ?_
 unhygienic intros
 (conv => cbv)
 repeat' (first | assumption | ((first | refine stp ?_ | refine stpB (fun _ => ?_) (fun _ => ?_)) <;> (conv => cbv)) | exact stpF | fail)
theorem each1B_spec (Y : Nat) (l : List Int) (p m : Int) (Af Bf : Nat → AObj) (o : AObj) (Gf : Nat → Heap) (hl : l.length ≤ 1024) (h0 : 0 ≤ p) (h1 : p ≤ 3) (hm : m = 2 ^ p.toNat) (hs : (l.length / 2 ^ p.toNat) * 2 ^ p.toNat = l.length)
 (hy : ∀ k : Nat, (k : Int) < m → DoesV PP (.yld Y) [I (k : Nat), LI (partL l (l.length / 2 ^ p.toNat) k)] (o :: Af k :: Bf k :: .box [LI l] :: .box [I m] :: .box [ptN p] :: Gf k) (Is (.bool true) (o :: Af (k + 1) :: Bf (k + 1) :: .box [LI l] :: .box [I m] :: .box [ptN p] :: Gf (k + 1)))) :
 Does PP 136 [.yld Y, .ptr 4 0, .ptr 5 0, .ptr 3 0] (o :: Af 0 :: Bf 0 :: .box [LI l] :: .box [I m] :: .box [ptN p] :: Gf 0) (Is (.tup []) (o :: Af m.toNat :: Bf m.toNat :: .box [LI l] :: .box [I m] :: .box [ptN p] :: Gf m.toNat)) := by
 have hm8 : 1 ≤ m ∧ m ≤ 8 := by
  have : ∀ k : Nat, k ≤ 3 → (1 : Int) ≤ 2 ^ k ∧ (2 : Int) ^ k ≤ 8 := by decide
  rw [hm]; exact this p.toNat (by omega)
 obtain ⟨Q, hQ⟩ : ∃ Q : Int → List Int, ∀ i, Q i = partL l (l.length / 2 ^ p.toNat) i.toNat := ⟨_, fun _ => rfl⟩
 obtain ⟨A, hA⟩ : ∃ A : Int → AObj, ∀ i, A i = Af i.toNat := ⟨_, fun _ => rfl⟩
 obtain ⟨B, hB⟩ : ∃ A : Int → AObj, ∀ i, A i = Bf i.toNat := ⟨_, fun _ => rfl⟩
 obtain ⟨G, hG⟩ : ∃ A : Int → Heap, ∀ i, A i = Gf i.toNat := ⟨_, fun _ => rfl⟩
 have hpt : ∀ (i : Int) h, 0 ≤ i → i < m → Does PP 130 [.agg [I p, .ls .nl .nil], LI l, I i] h (Is (LI (Q i)) h) := fun i h a b => by
  rw [hQ]
  refine (part_spec p [] l i h hl h0 (by omega) a (by rw [← hm]; exact b) hs).wk (WkL.cons (Wk.agg ⟨.refl _ _, Wk.nilL _ _, trivial⟩) (WkL.cons (.refl _ _) (WkL.cons (.refl _ _) WkL.nil)))
 have hyI : ∀ i : Int, 0 ≤ i → i < m → DoesV PP (.yld Y) [I i, LI (Q i)] (o :: A i :: B i :: .box [LI l] :: .box [I m] :: .box [ptN p] :: G i) (Is (.bool true) (o :: A (i + 1) :: B (i + 1) :: .box [LI l] :: .box [I m] :: .box [ptN p] :: G (i + 1))) := fun i a b => by
  have := hy i.toNat (by omega)
  rw [hA, hA, hB, hB, hG, hG, hQ, show (i + 1).toNat = i.toNat + 1 by omega]
  rw [show ((i.toNat : Nat) : Int) = i by omega] at this
  exact this
 have eA0 : Af 0 = A 0 := (hA 0).symm
 have eB0 : Bf 0 = B 0 := (hB 0).symm
 have eG0 : Gf 0 = G 0 := (hG 0).symm
 have eAm : Af m.toNat = A m := (hA m).symm
 have eBm : Bf m.toNat = B m := (hB m).symm
 have eGm : Gf m.toNat = G m := (hG m).symm
 rw [eA0, eB0, eAm, eBm, eG0, eGm]
 clear hy hA hB hG eA0 eB0 eAm eBm eG0 eGm hQ hm
 refine wlk Tryz.f136 ?_
 unhygienic intros
 (conv => cbv)
 repeat' (first | assumption | ((first | refine stp ?_ | refine stpB (fun _ => ?_) (fun _ => ?_)) <;> (conv => cbv)) | exact stpF | fail)
 refine hk.loopI (loop_rule (α := Int) (fun i => [(0, .yld Y), (2, .ptr 5 0), (3, .ptr 3 0), (6, .int .i64 m), (7, .int .i64 i)]) (fun i => o :: A i :: B i :: .box [.ls (.il .i64 l) .any] :: .box [.int .i64 m] :: .box [.clo (.func 130) [.agg [.int .i64 p, .ls .nl .nil]] []] :: G i)
  (fun i => 0 ≤ i ∧ i ≤ m) (fun i => (m - i).toNat) 0 ⟨by omega, by omega⟩ ?_ ?_)
 ·exact ghT
 intro i ⟨hi, hi2⟩ Q' hb hx hr
 by_cases him : i < m
 ·have hpt2 := fun h => hpt i h hi him
  have hy1 := hyI i hi him
  obtain ⟨x, hx0⟩ : ∃ x, x = Q i := ⟨_, rfl⟩
  obtain ⟨A0, hA0⟩ : ∃ x, x = A i := ⟨_, rfl⟩
  obtain ⟨B0, hB0⟩ : ∃ x, x = B i := ⟨_, rfl⟩
  obtain ⟨G0, hG0⟩ : ∃ x, x = G i := ⟨_, rfl⟩
  obtain ⟨A1, hA1⟩ : ∃ x, x = A (i + 1) := ⟨_, rfl⟩
  obtain ⟨B1, hB1⟩ : ∃ x, x = B (i + 1) := ⟨_, rfl⟩
  obtain ⟨G1, hG1⟩ : ∃ x, x = G (i + 1) := ⟨_, rfl⟩
  rw [← hx0, ← hA0, ← hB0, ← hA1, ← hB1, ← hG0, ← hG1] at hy1
  simp only [← hx0] at hpt2
  rw [← hA0, ← hB0, ← hG0]
  (conv => cbv)
  repeat' (first | assumption | ((first | refine stp ?_ | refine stpB (fun _ => ?_) (fun _ => ?_)) <;> (conv => cbv)) | exact stpF | fail)
  refine hk.callvI hy1 (fun r' h' ⟨e1, e2⟩ => ?_)
  subst e1
  subst e2
  (conv => cbv)
  repeat' (first | assumption | ((first | refine stp ?_ | refine stpB (fun _ => ?_) (fun _ => ?_)) <;> (conv => cbv)) | exact stpF | fail)
  refine hb (i + 1) _ ⟨by omega, by omega⟩ (by omega) ?_
  rw [← hA1, ← hB1, ← hG1]
  refine Gh.tm ?_
  repeat' (first | exact Holds.nil _ _ | refine Holds.cons (Wk.refl _ _) ?_ | refine Holds.cons (Wk.of_eq ?_) ?_)
  all_goals first
   | (rw [← hk.add64 i 1 (by omega) (by omega)]; rfl)
   | rfl
   | skip
 ·have : i = m := by omega
  subst this
  (conv => cbv)
  repeat' (first | assumption | ((first | refine hx _ _ ?_ | refine stp ?_ | refine stpB (fun _ => ?_) (fun _ => ?_)) <;> (conv => cbv)) | exact stpF | fail)
  all_goals exact hk.fin1 rfl
def spB (p : Int) : Nat → AObj
 | 0 => .box [.int .i64 p, .ls .nl .nil]
 | k + 1 => .box [.int .i64 p, .sl 8 (k + 1) 0 ((k + 1 : Nat) : Int)]
def spG (ks : List Int) (lp : LoopA) : Nat → Heap
 | 0 => [.loop lp]
 | k + 1 => [.loop lp, .tok 0, .rw (k + 1) (.il .i64 (ks.take (k + 1)))]
def spS (F : Nat → Int) : Nat → AObj
 | 0 => .box [.int .i64 2]
 | k + 1 => .box [.int .i64 (F (k + 1))]
theorem sbest_spec (l : List Int) (p : Int) (h : Heap) (hl1 : 1 ≤ l.length) (hl : l.length ≤ 1024) (hf : l.any farP = false) (p0 : 0 ≤ p) (p3 : p ≤ 3) (hs : l.length % 2 ^ p.toNat = 0) :
 Does PP 121 [LI l, I p] h (Is (.tup [.agg [I p, LI (ksL l p.toNat)], I (bitsP l p.toNat)]) h) := by
 obtain ⟨m, hm⟩ : ∃ m : Int, m = 2 ^ p.toNat := ⟨_, rfl⟩
 have hm8 : 1 ≤ m ∧ m ≤ 8 := by
  have : ∀ k : Nat, k ≤ 3 → (1 : Int) ≤ 2 ^ k ∧ (2 : Int) ^ k ≤ 8 := by decide
  rw [hm]; exact this p.toNat (by omega)
 have hmt : m.toNat = 2 ^ p.toNat := by
  have : m = ((2 ^ p.toNat : Nat) : Int) := by rw [hm]; simp
  omega
 have hdiv : l.length / 2 ^ p.toNat * 2 ^ p.toNat = l.length := Nat.div_mul_cancel (Nat.dvd_of_mod_eq_zero hs)
 have hec : ∀ a b c, Does PP 129 [LI l, I m, ptN p] [a, b, c] (Is (.clo (.func 136) [] [.ptr 4 0, .ptr 5 0, .ptr 3 0]) [a, b, c, .box [LI l], .box [I m], .box [ptN p]]) := fun a b c =>
  (each_cloN l m p).renI [] rfl (by decide) rfl trivial rfl rfl rfl rfl rfl rfl
 have hfar : ∀ x ∈ l, -8589934592 ≤ x ∧ x < 8589934592 := fun x hx => by
  rw [List.any_eq_false] at hf
  have := hf x hx
  rw [farP, Bool.or_eq_true, decide_eq_true_eq, decide_eq_true_eq] at this
  omega
 have hst : ∀ k : Nat, (k : Int) < m → ∃ b c : Int, (∀ h, Does PP 132 [LI (partL l (l.length / 2 ^ p.toNat) k)] h (Is (.tup [I b, I c]) h)) ∧ (ksL l p.toNat).take (k + 1) = (ksL l p.toNat).take k ++ [b] ∧ 0 ≤ c ∧ c ≤ 100000 ∧ sumP l p.toNat (k + 1) = sumP l p.toNat k + 5 + c := fun k hk => by
  have hk2 : k < 2 ^ p.toNat := by omega
  have hxl : (partL l (l.length / 2 ^ p.toNat) k).length ≤ 1024 := by rw [partL, List.length_take, List.length_drop]; omega
  have hxf : ∀ j, j < (partL l (l.length / 2 ^ p.toNat) k).length → -8589934592 ≤ (partL l (l.length / 2 ^ p.toNat) k).getD j 0 ∧ (partL l (l.length / 2 ^ p.toNat) k).getD j 0 < 8589934592 := fun j hj => hfar _ (by
   have : (partL l (l.length / 2 ^ p.toNat) k).getD j 0 ∈ partL l (l.length / 2 ^ p.toNat) k := mem_getD.2 ⟨j, hj, rfl⟩
   generalize (partL l (l.length / 2 ^ p.toNat) k).getD j 0 = y at *
   rw [partL] at this
   exact List.mem_of_mem_drop (List.mem_of_mem_take this))
  have hc := rcodes_len ((bestk (partL l (l.length / 2 ^ p.toNat) k) : Nat) : Int) (partL l (l.length / 2 ^ p.toNat) k) (by have := bestk_le (partL l (l.length / 2 ^ p.toNat) k); omega) hxf _ (Nat.le_refl _)
  rw [List.take_length] at hc
  refine ⟨_, _, fun h => rbest_spec _ h hxl hxf, ?_, ?_, ?_, sumP_succ l p.toNat k hk2⟩
  ·rw [takeI_snoc _ _ (by rw [ksL_len]; exact hk2), ksL_get _ _ _ hk2]
  ·rw [costT]; omega
  ·rw [costT]; omega
 obtain ⟨F, hF⟩ : ∃ F : Nat → Int, ∀ k, F k = sumP l p.toNat k := ⟨_, fun _ => rfl⟩
 obtain ⟨K, hK⟩ : ∃ R, R = ksL l p.toNat := ⟨_, rfl⟩
 have hFr : ∀ k : Nat, (k : Int) ≤ m → 0 ≤ F k ∧ F k ≤ 10000000 := fun k hk => by
  have h1 := pcodes_len l (ksL l p.toNat) (l.length / 2 ^ p.toNat) (fun i hi => (ksL_range l _ i hi).2) hfar k (by rw [ksL_len]; omega)
  have h2 : k * (5 + 59 * (l.length / 2 ^ p.toNat)) ≤ 8 * (5 + 59 * 1024) := Nat.mul_le_mul (by omega) (by have := Nat.div_le_self l.length (2 ^ p.toNat); omega)
  rw [hF, sumP]; omega
 have hRF : bitsP l p.toNat = F m.toNat := by rw [hF, hmt]; rfl
 have hF0 : F 0 = 2 := by rw [hF, sumP_zero]
 have hKl : (K.length : Int) = m := by rw [hK, ksL_len]; omega
 rw [hRF, ← hK]
 simp only [← hF, ← hK] at hst
 refine pure0 ?_ rfl rfl h
 refine wlkS (fun f => f == 9999 || f == 17004 || f == 129) Tryz.f121 ?_
 unhygienic intros
 have hsh : i2 .shl .i64 1 p = m := by
  rw [hk.i2_eq]
  show IntKind.wrap .i64 (1 * 2 ^ (min p.toNat 64)) = _
  rw [show min p.toNat 64 = p.toNat by omega, Int.one_mul, ← hm]
  exact wrap64 (by omega) (by omega)
 (conv => cbv)
 repeat' (first | assumption | ((first | refine hk.ge0I p0 ?_ | rw [hsh] | refine hk.callA (hec _ _ _) ?_ | refine hk.callS (hec _ _ _) ?_ | refine stp ?_ | refine stpB (fun _ => ?_) (fun _ => ?_)) <;> (conv => cbv)) | exact stpF | fail)
 refine hk.rfunI ⟨136, [], [.ptr 4 0, .ptr 5 0, .ptr 3 0], [(4, .ptr 0 0), (6, .ptr 1 0), (7, .ptr 2 0)], rfl, ?_, ?_⟩
 ·exact fun t e c hg he hv => (Holds.get (by repeat (first | exact Holds.nil _ _ | refine Holds.cons (Wk.refl _ _) ?_)) t) e c hg he hv
 ·refine (each1B_spec 6 l p m (spB p) (spS F) (.box [.int .i64 0, .ls .nl .nil]) (spG K _) hl p0 p3 hm hdiv (fun k hk' => ?_)).mono fun r h ⟨e1, e2⟩ => ?_
  ·clear hk hec hsh
   obtain ⟨b, c, hbest, htk, c0, c1, hsum⟩ := hst k hk'
   obtain ⟨f0, f1⟩ := hFr k (by omega)
   obtain ⟨x, hx⟩ : ∃ x, x = partL l (l.length / 2 ^ p.toNat) k := ⟨_, rfl⟩
   obtain ⟨S0, hS0⟩ : ∃ x, x = F k := ⟨_, rfl⟩
   obtain ⟨S1, hS1⟩ : ∃ x, x = F (k + 1) := ⟨_, rfl⟩
   rw [← hx] at hbest ⊢
   rw [← hS0] at hsum f0 f1
   rw [← hS1] at hsum
   clear hst hFr hRF hF hx hfar hf
   cases k with
   | zero =>
     rw [hF0] at hS0
     simp only [spB, spG, spS, ← hS1]
     rw [List.take_zero, List.nil_append] at htk
     rw [Nat.zero_add] at htk hS1 ⊢
     subst hS0
     rw [htk]
     clear htk
     refine doesYr P_ok (fun _ => true) 6 _ rfl rfl (by kernel_rfl) ?_
     intro i2 c2 u1 cv mx mn ad sbt bn bq ba lnI gtI apI sbI stI rpI lnG gtG apG sbG stG rpG fi fb fs fl fg fc sln sgt sap ssb sc b2s s2b nd call calld callv callvd loop rfun fin hk
     have ha1 : apI [] [b] = [b] := by rw [hk.apI_eq]; rfl
     have hl1 : lnI [b] = 1 := hk.lnI_eq _
     obtain ⟨c5, hc5⟩ : ∃ c5, c5 = 5 + c := ⟨_, rfl⟩
     have t1 : i2 .add .i64 5 c = c5 := by rw [hc5]; exact hk.add64 _ _ (by omega) (by omega)
     have t2 : i2 .add .i64 2 c5 = S1 := by rw [hk.add64 _ _ (by omega) (by omega)]; omega
     (conv => cbv)
     repeat' (first | assumption | ((first | rw [ha1, hl1] | rw [t1] | rw [t2] | refine stp ?_ | refine stpB (fun _ => ?_) (fun _ => ?_)) <;> (conv => cbv)) | exact stpF | fail)
     all_goals rfl
   | succ k =>
     simp only [spB, spG, spS, ← hS0, ← hS1]
     obtain ⟨L, hL⟩ : ∃ L, L = K.take (k + 1) := ⟨_, rfl⟩
     obtain ⟨i, hi⟩ : ∃ i : Int, i = ((k + 1 : Nat) : Int) := ⟨_, rfl⟩
     have hi2 : ((k + 1 + 1 : Nat) : Int) = i + 1 := by omega
     obtain ⟨i1, hi1⟩ : ∃ i1, i1 = i + 1 := ⟨_, rfl⟩
     have hLl : (L.length : Int) = i := by rw [hL, List.length_take, hi]; omega
     have hi8 : 0 ≤ i ∧ i ≤ 8 := by omega
     rw [htk, hi2, ← hi1, ← hi, ← hL]
     clear hi hi2 htk hS0 hS1
     obtain ⟨RR, hRR⟩ : ∃ R : LoopA → AVal → Heap → Prop, R = fun lp r h' => rFin 9 (Is (.bool true) [.box [.int .i64 0, .ls .nl .nil], .box [.int .i64 p, .sl 8 (k + 1 + 1) 0 i1], .box [.int .i64 S1], .box [LI l], .box [I m], .box [ptN p], .loop lp, .tok 0, .rw (k + 1 + 1) (.il .i64 (L ++ [b]))]) r h' := ⟨_, rfl⟩
     refine DoesV.fin (R := RR _) ?_ (fun r h' h => by rw [hRR] at h; exact h)
     refine doesYr P_ok (fun _ => true) 6 _ rfl rfl (by kernel_rfl) ?_
     intro i2 c2 u1 cv mx mn ad sbt bn bq ba lnI gtI apI sbI stI rpI lnG gtG apG sbG stG rpG fi fb fs fl fg fc sln sgt sap ssb sc b2s s2b nd call calld callv callvd loop rfun fin hk
     have hbq : Nat.beq (k + 1) (k + 1) = true := Nat.beq_refl _
     conv at hbq => cbv
     have hlK : lnI L = i := by rw [hk.lnI_eq]; exact hLl
     have hlx : lnI [b] = 1 := hk.lnI_eq _
     have hap : apI L [b] = L ++ [b] := hk.apI_eq _ _
     obtain ⟨L1, hL1⟩ : ∃ L1, L1 = L ++ [b] := ⟨_, rfl⟩
     have hlK1 : lnI L1 = i1 := by rw [hk.lnI_eq, hL1, List.length_append, hi1, ← hLl]; rfl
     rw [← hL1] at hap
     have hnd : nd (.appn 0 i i (ad i 1) 8) := hk.ndI (by rw [hk.ad_eq]; exact ⟨rfl, rfl, by omega, by simp; omega, by omega⟩)
     have hcs : 0 ≤ c ∧ c ≤ 100000 := ⟨c0, c1⟩
     obtain ⟨c5, hc5⟩ : ∃ c5, c5 = 5 + c := ⟨_, rfl⟩
     have t1 : i2 .add .i64 5 c = c5 := by rw [hc5]; exact hk.add64 _ _ (by omega) (by omega)
     have t2 : i2 .add .i64 S0 c5 = S1 := by rw [hk.add64 _ _ (by omega) (by omega)]; omega
     clear hLl
     (conv => cbv)
     repeat' (first | assumption | ((first | rw [hbq] | rw [hap] | rw [hlK] | rw [hlx] | rw [hlK1] | rw [t1] | rw [t2] | refine stp ?_ | refine stpB (fun _ => ?_) (fun _ => ?_)) <;> (conv => cbv)) | exact stpF | fail)
     rw [hRR]
     exact fin_low (.refl _ _) rfl rfl ⟨rfl, by rw [hL1]; rfl⟩
  ·subst e2
   obtain ⟨M, hM⟩ : ∃ M, m.toNat = M + 1 := ⟨m.toNat - 1, by omega⟩
   rw [hM]
   have hKt : K.take (M + 1) = K := List.take_of_length_le (by omega)
   have hmM : ((M + 1 : Nat) : Int) = m := by omega
   unfold rAfter
   simp only [spB, spG, spS]
   rw [hKt, hmM]
   obtain ⟨S, hS⟩ : ∃ S, S = F (M + 1) := ⟨_, rfl⟩
   rw [← hS]
   obtain ⟨G, hG⟩ : ∃ G, G = M + 1 := ⟨_, rfl⟩
   rw [← hG]
   clear hst hFr hRF hF hF0 hfar hf hK hG hM hKt
   (conv => cbv)
   refine ⟨fun h => (nomatch h), ?_⟩
   repeat' (first | assumption | ((first | refine stp ?_ | refine stpB (fun _ => ?_) (fun _ => ?_)) <;> (conv => cbv)) | exact stpF | fail)
   have hsub : rz 8 G (.il .i64 K) (.sl 8 G 0 m) = .ls (.il .i64 K) .any := by
    rw [rz_sl]
    show AVal.ls (.il .i64 (rSub K 0 m)) .any = _
    rw [show rSub K 0 m = K by
     show (K.drop (Int.toNat 0)).take (m - 0).toNat = K
     rw [Int.toNat_zero, List.drop_zero, List.take_of_length_le (by omega)]]
   refine hk.finI (fin_rz 8 G (.il .i64 K) rfl rfl ?_)
   have e : rz 8 G (.il .i64 K) (.tup [.agg [.int .i64 p, .sl 8 G 0 m], .int .i64 S]) = .tup [.agg [I p, LI K], I S] := by
    show AVal.tup [.agg [rz 8 G (.il .i64 K) (.int .i64 p), rz 8 G (.il .i64 K) (.sl 8 G 0 m)], rz 8 G (.il .i64 K) (.int .i64 S)] = _
    rw [hsub]
    rfl
   rw [e]
   exact fin_nil (.refl _ _) rfl ⟨rfl, rfl⟩
theorem slBest_spec (l : List Int) (h : Heap) (hl1 : 1 ≤ l.length) (hl : l.length ≤ 1024) (hf : l.any farP = false) :
 Does PP 86 [LI l] h (Is (.tup [.agg [I (bstP l 3 : Nat), LI (ksL l (bstP l 3))], I (bitsP l (bstP l 3))]) h) := by
 obtain ⟨N, hN⟩ : ∃ N : Int, N = (l.length : Nat) := ⟨_, rfl⟩
 have hwh := fun p h => whole_spec N p h
 have hc := fun h => contains_spec l 120 [] farP h (by omega) (fun n => sfar_spec n h)
 rw [hf] at hc
 obtain ⟨F, hF⟩ : ∃ F : Int → Nat, ∀ i, F i = bstP l (i - 1).toNat := ⟨_, fun _ => rfl⟩
 obtain ⟨Pq, hP⟩ : ∃ F' : Int → Int, ∀ i, F' i = (F i : Nat) := ⟨_, fun _ => rfl⟩
 obtain ⟨Kq, hK⟩ : ∃ F' : Int → List Int, ∀ i, F' i = ksL l (F i) := ⟨_, fun _ => rfl⟩
 obtain ⟨Bq, hB⟩ : ∃ F' : Int → Int, ∀ i, F' i = bitsP l (F i) := ⟨_, fun _ => rfl⟩
 have hw0 : ∀ h, Does PP 101 [I N, I 0] h (Is (.bool true) h) := fun h => by
  have := hwh 0 h
  have e := whole_nat l.length 0 hl1 hl
  rw [hN, show whole ((l.length : Nat) : Int) 0 = true by
   have : (0 : Int) = ((0 : Nat) : Int) := rfl
   rw [this, e, decide_eq_true_eq]
   exact ⟨by decide, Nat.mod_one _⟩] at this
  rw [hN]; exact this
 have hb0 : ∀ h, Does PP 121 [LI l, I 0] h (Is (.tup [.agg [I (Pq 1), LI (Kq 1)], I (Bq 1)]) h) := fun h => by
  rw [hP, hK, hB, hF]
  exact sbest_spec l 0 h hl1 hl hf (by decide) (by decide) (Nat.mod_one _)
 have hst : ∀ i : Int, 1 ≤ i → i ≤ 4 → (∃ (V : Int) (Kn : List Int), (∀ h, Does PP 101 [I N, I i] h (Is (.bool true) h)) ∧ (∀ h, Does PP 121 [LI l, I i] h (Is (.tup [.agg [I i, LI Kn], I V]) h)) ∧ i ≤ 3 ∧
  (V < Bq i → Pq (i + 1) = i ∧ Kq (i + 1) = Kn ∧ Bq (i + 1) = V) ∧ (¬ V < Bq i → Pq (i + 1) = Pq i ∧ Kq (i + 1) = Kq i ∧ Bq (i + 1) = Bq i)) ∨
  ((∀ h, Does PP 101 [I N, I i] h (Is (.bool false) h)) ∧ Pq 4 = Pq i ∧ Kq 4 = Kq i ∧ Bq 4 = Bq i) := fun i a b => by
  have e := whole_nat l.length i.toNat hl1 hl
  rw [show ((i.toNat : Nat) : Int) = i by omega, ← hN] at e
  have hi1 : (i - 1).toNat + 1 = i.toNat := by omega
  have hFs : F (i + 1) = if l.length % 2 ^ i.toNat = 0 ∧ bitsP l i.toNat < bitsP l (F i) then i.toNat else F i := by
   rw [hF, hF, show (i + 1 - 1).toNat = (i - 1).toNat + 1 by omega, bstP, hi1]
  by_cases hw : i.toNat ≤ 3 ∧ l.length % 2 ^ i.toNat = 0
  ·left
   refine ⟨bitsP l i.toNat, ksL l i.toNat, fun h => ?_, fun h => sbest_spec l i h hl1 hl hf (by omega) (by omega) hw.2, by omega, fun hlt => ?_, fun hge => ?_⟩
   ·have := hwh i h
    rw [e, decide_eq_true hw] at this
    exact this
   ·rw [hB] at hlt
    have e2 : F (i + 1) = i.toNat := by rw [hFs, if_pos ⟨hw.2, hlt⟩]
    rw [hP, hK, hB, e2]
    exact ⟨by omega, rfl, rfl⟩
   ·rw [hB] at hge
    have e2 : F (i + 1) = F i := by rw [hFs, if_neg (fun c => hge c.2)]
    rw [hP, hK, hB, hP, hK, hB, e2]
    exact ⟨rfl, rfl, rfl⟩
  ·right
   have e2 : F 4 = F i := by
    rw [hF, hF]
    by_cases h4 : i = 4
    ·rw [h4]
    ·have := (bstP_stop l (i - 1).toNat (by rw [hi1]; exact fun c => hw ⟨by omega, c⟩) 3 (by omega)).1
     exact this
   refine ⟨fun h => ?_, by rw [hP, hP, e2], by rw [hK, hK, e2], by rw [hB, hB, e2]⟩
   have := hwh i h
   rw [e, decide_eq_false hw] at this
   exact this
 have r1 : ((bstP l 3 : Nat) : Int) = Pq 4 := by rw [hP, hF]; rfl
 have r2 : ksL l (bstP l 3) = Kq 4 := by rw [hK, hF]; rfl
 have r3 : bitsP l (bstP l 3) = Bq 4 := by rw [hB, hF]; rfl
 rw [r1, r2, r3]
 clear hF hP hK hB r1 r2 r3 hwh hf
 refine pure0 ?_ rfl rfl h
 refine wlk Tryz.f86 ?_
 unhygienic intros
 have hln : lnI l = N := by rw [hk.lnI_eq]; omega
 obtain ⟨p1, hp1⟩ : ∃ x, x = Pq 1 := ⟨_, rfl⟩
 obtain ⟨k1, hk1⟩ : ∃ x, x = Kq 1 := ⟨_, rfl⟩
 obtain ⟨b1, hb1⟩ : ∃ x, x = Bq 1 := ⟨_, rfl⟩
 simp only [← hp1, ← hk1, ← hb1] at hb0
 (conv => cbv)
 repeat' (first | assumption | ((first | rw [hln] | refine stp ?_ | refine stpB (fun _ => ?_) (fun _ => ?_)) <;> (conv => cbv)) | exact stpF | fail)
 refine hk.loopI (loop_rule (α := Int) (fun i => [(0, .ls (.il .i64 l) .any), (2, .ptr 0 0), (3, .int .i64 0), (4, .ptr 1 0), (5, .int .i64 (Bq i)), (6, .int .i64 i)]) (fun i => [.box [.int .i64 0, .ls .nl .nil], .box [.int .i64 (Pq i), .ls (.il .i64 (Kq i)) .any]])
  (fun i => 1 ≤ i ∧ i ≤ 4) (fun i => (4 - i).toNat) 1 ⟨by omega, by omega⟩ ?_ ?_)
 ·rw [← hp1, ← hk1, ← hb1]
  exact ghT
 intro i ⟨hi, hi2⟩ Q' hb hx hr
 clear hw0 hb0 hc
 rcases hst i hi hi2 with ⟨V, Kn, hw, hbe, hi3, hlt, hge⟩ | ⟨hw, e1, e2, e3⟩
 ·obtain ⟨P0, hP0⟩ : ∃ x, x = Pq i := ⟨_, rfl⟩
  obtain ⟨K0, hK0⟩ : ∃ x, x = Kq i := ⟨_, rfl⟩
  obtain ⟨B0, hB0⟩ : ∃ x, x = Bq i := ⟨_, rfl⟩
  rw [← hB0] at hlt hge
  rw [← hP0, ← hK0] at hge
  rw [← hP0, ← hK0, ← hB0]
  by_cases hv : V < B0
  ·obtain ⟨a1, a2, a3⟩ := hlt hv
   clear hlt hge
   (conv => cbv)
   repeat' (first | assumption | ((first | rw [hln] | refine stp ?_ | refine stpB (fun _ => ?_) (fun _ => ?_)) <;> (conv => cbv)) | exact stpF | fail)
   refine hb (i + 1) _ ⟨by omega, by omega⟩ (by omega) ?_
   rw [a1, a2, a3]
   refine Gh.low 2 (Nat.le_of_ble_eq_true rfl) ?_ rfl rfl rfl
   repeat' (first | exact Holds.nil _ _ | refine Holds.cons (Wk.refl _ _) ?_ | refine Holds.cons (Wk.of_eq ?_) ?_)
   all_goals first
    | (rw [← hk.add64 i 1 (by omega) (by omega)]; rfl)
    | rfl
    | skip
  ·obtain ⟨a1, a2, a3⟩ := hge hv
   clear hlt hge
   (conv => cbv)
   repeat' (first | assumption | ((first | rw [hln] | refine stp ?_ | refine stpB (fun _ => ?_) (fun _ => ?_)) <;> (conv => cbv)) | exact stpF | fail)
   refine hb (i + 1) _ ⟨by omega, by omega⟩ (by omega) ?_
   rw [a1, a2, a3]
   refine Gh.low 2 (Nat.le_of_ble_eq_true rfl) ?_ rfl rfl rfl
   repeat' (first | exact Holds.nil _ _ | refine Holds.cons (Wk.refl _ _) ?_ | refine Holds.cons (Wk.of_eq ?_) ?_)
   all_goals first
    | (rw [← hk.add64 i 1 (by omega) (by omega)]; rfl)
    | rfl
    | skip
 ·obtain ⟨P0, hP0⟩ : ∃ x, x = Pq i := ⟨_, rfl⟩
  obtain ⟨K0, hK0⟩ : ∃ x, x = Kq i := ⟨_, rfl⟩
  obtain ⟨B0, hB0⟩ : ∃ x, x = Bq i := ⟨_, rfl⟩
  rw [← hP0, ← hK0, ← hB0]
  (conv => cbv)
  repeat' (first | assumption | ((first | rw [hln] | refine hx _ _ ?_ | refine stp ?_ | refine stpB (fun _ => ?_) (fun _ => ?_)) <;> (conv => cbv)) | exact stpF | fail)
  all_goals exact hk.fin0 rfl rfl (Wk.of_eq (by rw [e1, e2, e3, ← hP0, ← hK0, ← hB0]))
end Go.Proofs.YtoeekjddeknmbaaGreat
