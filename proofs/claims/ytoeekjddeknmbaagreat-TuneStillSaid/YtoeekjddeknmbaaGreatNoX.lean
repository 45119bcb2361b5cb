/-
  Contracts of functions of the program, proved over the abstract machine of the Al texts.
-/
import Derived.Test.YtoeekjddeknmbaaGreatTryTab
import Derived.Test.YtoeekjddeknmbaaGreatAl4
import Derived.Test.YtoeekjddeknmbaaGreatBaseX
import Derived.Test.YtoeekjddeknmbaaGreatRkX
import Derived.Test.YtoeekjddeknmbaaGreatBsX1
import Derived.Test.YtoeekjddeknmbaaGreatBsX2
import Derived.Test.YtoeekjddeknmbaaGreatBsX3
import Derived.Test.YtoeekjddeknmbaaGreatBsX4
import Derived.Test.YtoeekjddeknmbaaGreatBsX5
import Derived.Test.YtoeekjddeknmbaaGreatBsX6
import Derived.Test.YtoeekjddeknmbaaGreatPlX
import Derived.Test.YtoeekjddeknmbaaGreatTkX1
import Derived.Test.YtoeekjddeknmbaaGreatTkX3
import Derived.Test.YtoeekjddeknmbaaGreatSbX
import Derived.Test.YtoeekjddeknmbaaGreatNmX
set_option maxHeartbeats 4000000
set_option maxRecDepth 20000
set_option linter.unusedSimpArgs false
set_option linter.unusedVariables false
open Go Go.AL
namespace Go.Proofs.YtoeekjddeknmbaaGreat
def brkP (sh n : Int) : Bool := decide (shl1 sh (n / 2 ^ sh.toNat) ≠ n)
def data0 (l ix : List Int) (lg gn sh : Int) : List Int := offL lg gn (resL ix (lowL sh l))
def nrmF (l : List Int) (d : Int) (ix : List Int) (lg gn sh : Int) : Bool := decide (0 ≤ sh) && decide (sh < d) && goodIx ix && termB lg gn && !(l.any (brkP sh))
def nrmE (l : List Int) (d : Int) (ix : List Int) (lg gn sh : Int) : Int :=
  if chkE l d ≠ 0 then chkE l d else if nrmF l d ix lg gn sh = false then 2
  else if (resL ix (lowL sh l)).any out40 = true ∨ (data0 l ix lg gn sh).any farP = true then 9 else 0
def nrmP (l ix : List Int) (lg gn sh : Int) : Int := (bstP (data0 l ix lg gn sh) 3 : Nat)
def nrmK (l ix : List Int) (lg gn sh : Int) : List Int := ksL (data0 l ix lg gn sh) (bstP (data0 l ix lg gn sh) 3)
theorem data0_len (l ix : List Int) (lg gn sh : Int) : (data0 l ix lg gn sh).length = l.length := by rw [data0, offL_len, resL_len, lowL_len]
theorem chkE_ok {l : List Int} {d : Int} (h : chkE l d = 0) : 1 ≤ l.length ∧ l.length ≤ 1024 ∧ 8 ≤ d ∧ d ≤ 26 ∧ ∀ x ∈ l, lacksP d x = false := by
  unfold chkE at h
  split at h
  · exact absurd h (by decide)
  · rename_i h1
    split at h
    · exact absurd h (by decide)
    · rename_i h2
      rw [Decidable.not_not] at h1
      refine ⟨h1.1, h1.2.1, h1.2.2.1, h1.2.2.2, fun x hx => ?_⟩
      simp only [List.any_eq_true, not_exists, not_and, Bool.not_eq_true] at h2
      exact h2 x hx
theorem lacks_small {d x : Int} (h0 : 8 ≤ d) (h1 : d ≤ 26) (h : lacksP d x = false) : -33554432 ≤ x ∧ x < 33554432 := by
  have := pw_range h0 h1
  rw [lacksP, Bool.or_eq_false_iff, decide_eq_false_iff_not, decide_eq_false_iff_not] at h
  omega
structure NrmOK (l : List Int) (d : Int) (ix : List Int) (lg gn sh : Int) : Prop where
  l1 : 1 ≤ l.length
  l2 : l.length ≤ 1024
  d1 : 8 ≤ d
  d2 : d ≤ 26
  lk : ∀ x ∈ l, lacksP d x = false
  s0 : 0 ≤ sh
  s1 : sh < d
  ix : IxOK ix
  tm : termB lg gn = true
  br : ∀ x ∈ l, x % 2 ^ sh.toNat = 0
theorem brk_mod {sh x : Int} (h0 : 0 ≤ sh) (h1 : sh ≤ 26) (hx : -33554432 ≤ x ∧ x < 33554432) : brkP sh x = decide (x % 2 ^ sh.toNat ≠ 0) := by
  unfold brkP
  have hP : (0 : Int) < 2 ^ sh.toNat := Int.pow_pos (by decide)
  have hm := Int.emod_nonneg x (show (2 : Int) ^ sh.toNat ≠ 0 by omega)
  have hm2 := Int.emod_lt_of_pos x hP
  have hP26 : (2 : Int) ^ sh.toNat ≤ 67108864 := by
    have : ∀ k : Nat, k ≤ 26 → (2 : Int) ^ k ≤ 67108864 := by decide
    exact this _ (by omega)
  have he := Int.emod_add_mul_ediv x (2 ^ sh.toNat)
  rw [Int.mul_comm] at he
  congr 1
  apply propext
  rw [shl1_mul _ _ h0 h1]
  obtain ⟨y, hy⟩ : ∃ y, y = x / 2 ^ sh.toNat * 2 ^ sh.toNat := ⟨_, rfl⟩
  obtain ⟨r, hr⟩ : ∃ r, r = x % 2 ^ sh.toNat := ⟨_, rfl⟩
  rw [← hy, ← hr] at he
  rw [← hr] at hm hm2
  rw [← hy, ← hr, show W y = y from wrap64 (by omega) (by omega)]
  omega
theorem nrm_ok {l : List Int} {d : Int} {ix : List Int} {lg gn sh : Int} (hc : chkE l d = 0) (hf : nrmF l d ix lg gn sh = true) : NrmOK l d ix lg gn sh := by
  obtain ⟨a, b, c, e, k⟩ := chkE_ok hc
  unfold nrmF at hf
  simp only [Bool.and_eq_true, decide_eq_true_eq, Bool.not_eq_true'] at hf
  obtain ⟨⟨⟨⟨h1, h2⟩, h3⟩, h4⟩, h5⟩ := hf
  refine ⟨a, b, c, e, k, h1, h2, (goodIx_iff ix).1 h3, h4, fun x hx => ?_⟩
  rw [List.any_eq_false] at h5
  have := h5 x hx
  rw [brk_mod h1 (by omega) (lacks_small c e (k x hx))] at this
  simpa using this
theorem lowL_small {l : List Int} {d : Int} {ix : List Int} {lg gn sh : Int} (h : NrmOK l d ix lg gn sh) : Small26 (lowL sh l) := fun i hi => by
  rw [lowL_len] at hi
  rw [lowL_get sh l i hi]
  have hP : (0 : Int) < 2 ^ sh.toNat := Int.pow_pos (by decide)
  obtain ⟨a, b⟩ := lacks_small h.d1 h.d2 (h.lk _ (mem_getD.2 ⟨i, hi, rfl⟩))
  constructor
  · rw [Int.le_ediv_iff_mul_le hP]
    omega
  · have : l.getD i 0 / 2 ^ sh.toNat < 67108864 := by
      rw [Int.ediv_lt_iff_lt_mul hP]
      omega
    omega
theorem nrm_back {l : List Int} {d : Int} {ix : List Int} {lg gn sh : Int} (h : nrmE l d ix lg gn sh = 0) :
    bsE 2 0 sh ix lg gn (nrmP l ix lg gn sh) (nrmK l ix lg gn sh) (data0 l ix lg gn sh) (l.length : Nat) d = 0 ∧
    bsL 2 0 sh ix lg gn (nrmP l ix lg gn sh) (nrmK l ix lg gn sh) (data0 l ix lg gn sh) (l.length : Nat) d = l := by
  unfold nrmE at h
  split at h
  · rename_i h1; exact absurd h h1
  rename_i h1
  rw [Decidable.not_not] at h1
  split at h
  · exact absurd h (by decide)
  rename_i h2
  split at h
  · exact absurd h (by decide)
  rename_i h3
  rw [not_or, Bool.not_eq_true, Bool.not_eq_true] at h3
  obtain ⟨h3, h4⟩ := h3
  have hok := nrm_ok h1 (by simpa using h2)
  obtain ⟨b1, b2⟩ := nm_back sh ix lg gn l d hok.d1 hok.d2 hok.s0 (by have := hok.s1; have := hok.d2; omega) hok.tm hok.lk hok.br (wrE_small _ h3)
  have hdl := data0_len l ix lg gn sh
  have hform : formE 2 0 sh ix lg gn (nrmP l ix lg gn sh) (nrmK l ix lg gn sh) (data0 l ix lg gn sh) (l.length : Nat) d = 0 := by
    unfold formE
    rw [if_neg (by decide), if_neg (by decide), if_neg (by decide), if_pos rfl, if_pos]
    refine ⟨rfl, hok.s0, hok.s1, (goodIx_iff _).2 hok.ix, hok.tm, by rw [hdl], ?_, h4⟩
    have := parts_best (data0 l ix lg gn sh) (by rw [hdl]; exact hok.l1) (by rw [hdl]; exact hok.l2)
    rw [hdl] at this
    exact this
  have hout : outL 2 0 sh ix lg gn (data0 l ix lg gn sh) (l.length : Nat) d = l := by
    unfold outL
    rw [if_pos rfl]
    exact b2
  have e : bsE 2 0 sh ix lg gn (nrmP l ix lg gn sh) (nrmK l ix lg gn sh) (data0 l ix lg gn sh) (l.length : Nat) d = 0 := by
    unfold bsE
    rw [if_neg (by have := hok.l1; have := hok.l2; have := hok.d1; have := hok.d2; omega), hform, if_neg (by decide), if_neg (by unfold data0; rw [b1]; exact fun c => c.2 rfl), hout, if_neg]
    rw [List.any_eq_true]
    rintro ⟨x, hx, hx2⟩
    rw [hok.lk x hx] at hx2
    exact absurd hx2 (by decide)
  exact ⟨e, by unfold bsL; rw [if_pos e]; exact hout⟩
end Go.Proofs.YtoeekjddeknmbaaGreat
set_option maxHeartbeats 4000000
set_option maxRecDepth 20000
set_option linter.unusedSimpArgs false
set_option linter.unusedVariables false
open Go Go.AL
namespace Go.Proofs.YtoeekjddeknmbaaGreat
theorem lagPart_rangeG (a g : Int) (out : List Int) (i : Int) (hs : Small40 out) (hi0 : 0 ≤ i) (hi : i ≤ (out.length : Nat)) (ht : termB a g = true) : -1030792151040 ≤ lagPart a g out i ∧ lagPart a g out i ≤ 1030792151040 := by
  unfold lagPart
  rw [termB, decide_eq_true_eq] at ht
  split
  · omega
  · obtain ⟨h0, h1⟩ := hs (i - a).toNat (by omega)
    have := prod_range _ g h0 h1 (by omega) (by omega)
    omega
theorem lpartG_spec (a g i : Int) (out : List Int) (h : Heap) (hs : Small40 out) (hi0 : 0 ≤ i) (hi : i ≤ (out.length : Nat)) (hl : out.length ≤ 1024) (ht : termB a g = true) :
    Does PP 104 [.agg [I a, I g], LI out, I i] h (Is (I (lagPart a g out i)) h) := by
  obtain ⟨r, hr⟩ : ∃ r, r = lagPart a g out i := ⟨_, rfl⟩
  have h0 : (a = 0 ∨ i < a) → r = 0 := fun h => by rw [hr, lagPart, if_pos h]
  have h1 : ¬ (a = 0 ∨ i < a) → r = (out.getD (i - a).toNat 0 * g) / 16 := fun h => by rw [hr, lagPart, if_neg h]
  rw [← hr]
  rw [termB, decide_eq_true_eq] at ht
  refine pure0 ?_ rfl rfl h
  refine wlk Tryz.f104 ?_
  unhygienic intros
  have hsub : ¬ (a = 0 ∨ i < a) → i2 .sub .i64 i a = i - a := fun h => hk.sub64 _ _ (by omega) (by omega)
  have hidx : ¬ (a = 0 ∨ i < a) → 0 ≤ i - a ∧ i - a < lnI out := fun h => by rw [hk.lnI_eq]; omega
  have hv : ¬ (a = 0 ∨ i < a) → i2 .shr .i64 (i2 .mul .i64 (gtI out (i - a)) g) 4 = r := fun h => by
    obtain ⟨b0, b1⟩ := hs (i - a).toNat (by omega)
    have := prod_range _ g b0 b1 (by omega) (by omega)
    rw [h1 h, hk.gtI_eq, hk.mul64 _ _ (by omega) (by omega), hk.i2_eq]
    show (_ : Int).fdiv (2 ^ (min (4 : Int).toNat 64)) = _
    rw [show min (4 : Int).toNat 64 = 4 by decide, Int.fdiv_eq_ediv_of_nonneg _ (by decide)]
    rfl
  clear hr h1 hs hi hi0
  (conv => cbv)
  repeat' (first
    | assumption
    | (refine stpB (fun _ => ?_) (fun _ => ?_) <;> (conv => cbv))
    | (refine stp ?_; (conv => cbv))
    | exact stpF
    | fail)
  · rename_i h
    rw [h0 (.inl h)]
    exact hk.fin0 rfl rfl (.refl _ _)
  · rename_i h h2
    rw [h0 (.inr h2)]
    exact hk.fin0 rfl rfl (.refl _ _)
  · rename_i h h2
    have hn : ¬ (a = 0 ∨ i < a) := by omega
    rw [hsub hn, hv hn]
    first
      | exact hk.fin0 rfl rfl (.refl _ _)
      | (refine hk.idxI (hidx hn).1 (hidx hn).2 (hk.ge0I (n := 4) (by decide) ?_)
         exact hk.fin0 rfl rfl (.refl _ _))
theorem off_spec (a g : Int) (l : List Int) (h : Heap) (ht : termB a g = true) (hs : Small40 l) (hl : l.length ≤ 1024) : Does PP 119 [.agg [I a, I g], LI l] h (Is (LI (offL a g l)) h) := by
  obtain ⟨Q, hQ⟩ : ∃ Q : Int → List Int, ∀ i, Q i = (offL a g l).take i.toNat := ⟨_, fun _ => rfl⟩
  obtain ⟨n, hn⟩ : ∃ n : Int, n = (l.length : Nat) := ⟨_, rfl⟩
  have hQn : offL a g l = Q n := by rw [hQ, List.take_of_length_le (by rw [offL_len]; omega)]
  have hQ0 : Q 0 = [] := by rw [hQ]; rfl
  have hQl : ∀ i : Int, 0 ≤ i → i ≤ n → ((Q i).length : Int) = i := fun i a b => by rw [hQ, List.length_take, offL_len]; omega
  have hst : ∀ i : Int, 0 ≤ i → i < n → ∃ t m : Int, t = lagPart a g l i ∧ m = l.getD i.toNat 0 - t ∧ -1099511627776 ≤ l.getD i.toNat 0 ∧ l.getD i.toNat 0 ≤ 1099511627776 ∧ -1030792151040 ≤ t ∧ t ≤ 1030792151040 ∧ Q (i + 1) = Q i ++ [m] := fun i c d => by
    obtain ⟨e1, e2⟩ := hs i.toNat (by omega)
    obtain ⟨f1, f2⟩ := lagPart_rangeG a g l i hs c (by omega) ht
    refine ⟨_, _, rfl, rfl, e1, e2, f1, f2, ?_⟩
    rw [hQ, hQ, show (i + 1).toNat = i.toNat + 1 by omega, takeI_snoc _ _ (by rw [offL_len]; omega), offL_get _ _ _ _ (by omega), show ((i.toNat : Nat) : Int) = i by omega]
  have hpt : ∀ (i : Int) h, 0 ≤ i → i < n → Does PP 104 [.agg [I a, I g], LI l, I i] h (Is (I (lagPart a g l i)) h) := fun i h c d => lpartG_spec a g i l h hs c (by omega) hl ht
  have hn0 : 0 ≤ n ∧ n ≤ 1024 := by omega
  rw [hQn]
  clear hQn
  refine pure0 ?_ rfl rfl h
  refine wlk Tryz.f119 ?_
  unhygienic intros
  have hln : lnI l = n := by rw [hk.lnI_eq]; omega
  have hgl := hk.gtI_eq l
  have hl1 : ∀ x, lnI [x] = 1 := fun x => hk.lnI_eq _
  have hlo : ∀ i, 0 ≤ i → i ≤ n → lnI (Q i) = i := fun i c d => by rw [hk.lnI_eq, hQl i c d]
  clear hn hQ hs
  (conv => cbv)
  repeat' (first | assumption | ((first | rw [hln] | refine stp ?_ | refine stpB (fun _ => ?_) (fun _ => ?_)) <;> (conv => cbv)) | exact stpF | fail)
  refine hk.loopI (loop_rule (α := Int) (fun i => [(1, .ls (.il .i64 l) .any), (2, .ptr 0 0), (4, .ls .nl .nil), (5, .ls (.il .i64 (Q i)) (.tok 1 0)), (8, .ls (.il .i64 l) .any), (9, .int .i64 n), (10, .int .i64 i)]) (fun _ => [.box [.int .i64 a, .int .i64 g], .tok 0])
    (fun i => 0 ≤ i ∧ i ≤ n) (fun i => (n - i).toNat) 0 ⟨by omega, by omega⟩ ?_ ?_)
  · rw [hQ0]
    refine Gh.trans (Gh.thaw 5 (.il .i64 []) rfl trivial rfl) (Gh.tm ?_)
    repeat' (first | exact Holds.nil _ _ | refine Holds.cons (Wk.refl _ _) ?_)
  intro i ⟨hi, hi2⟩ Q' hb hx hr
  have hlo := hlo i hi hi2
  by_cases h2 : i < n
  · obtain ⟨t, m, ht0, hm, x0, x1, t0, t1, hq⟩ := hst i hi h2
    have hpt2 := fun h => hpt i h hi h2
    simp only [← ht0] at hpt2
    obtain ⟨x, hx0⟩ : ∃ x, x = gtI l i := ⟨_, rfl⟩
    rw [← hgl, ← hx0] at x0 x1 hm
    have hsu : i2 .sub .i64 x t = m := by rw [hm]; exact hk.sub64 _ _ (by omega) (by omega)
    have hap : apI (Q i) [m] = Q (i + 1) := by rw [hk.apI_eq]; exact hq.symm
    obtain ⟨Q0, hQ0⟩ : ∃ y, y = Q i := ⟨_, rfl⟩
    obtain ⟨Q1, hQ1⟩ : ∃ y, y = Q (i + 1) := ⟨_, rfl⟩
    rw [← hQ0] at hap hlo ⊢
    rw [← hQ1] at hap
    clear ht0 hm hq
    (conv => cbv)
    repeat' (first | assumption | ((first | rw [hln] | refine hk.idxI hi h2 ?_ | rw [← hx0] | refine hk.callA (hpt2 _) ?_ | refine hk.calldA hpt2 ?_ | rw [hsu] | rw [hlo, hl1, hap] | refine stp ?_ | refine stpB (fun _ => ?_) (fun _ => ?_)) <;> (conv => cbv)) | exact stpF | fail)
    refine hb (i + 1) _ ⟨by omega, by omega⟩ (by omega) ?_
    rw [← hQ1]
    refine Gh.retok 1 1 rfl (Nat.le_of_ble_eq_true rfl) ?_ rfl rfl
    repeat' (first | exact HoldsT.nil _ _ _ _ | refine HoldsT.tok rfl ?_ | refine HoldsT.cons (Wk.refl _ _) rfl ?_ | refine HoldsT.cons (Wk.of_eq ?_) rfl ?_)
    all_goals first
      | (rw [← hk.add64 i 1 (by omega) (by omega)]; rfl)
      | rfl
      | skip
  · have : i = n := by omega
    subst this
    (conv => cbv)
    repeat' (first | assumption | ((first | refine hx _ _ ?_ | refine stp ?_ | refine stpB (fun _ => ?_) (fun _ => ?_)) <;> (conv => cbv)) | exact stpF | fail)
    all_goals exact hk.fin0 rfl rfl (Wk.any _ _ _)
end Go.Proofs.YtoeekjddeknmbaaGreat
set_option maxHeartbeats 4000000
set_option maxRecDepth 20000
set_option linter.unusedSimpArgs false
set_option linter.unusedVariables false
open Go Go.AL
namespace Go.Proofs.YtoeekjddeknmbaaGreat
theorem lwrongG_spec (a g : Int) (l : List Int) (h : Heap) (ht : termB a g = true) (hl : l.length ≤ 1024) : Does PP 103 [.agg [I a, I g], LI l] h (Is (I (wrE l)) h) := by
  have h1 := fun h => lterm_spec a g h
  simp only [ht] at h1
  have h2 := fun h => contains_spec l 105 [] out40 h (by omega) (fun n => louts_spec n h)
  obtain ⟨b, hb⟩ : ∃ b, b = l.any out40 := ⟨_, rfl⟩
  unfold wrE
  rw [← hb]
  simp only [← hb] at h2
  clear hb
  refine pure0 ?_ rfl rfl h
  refine wlk Tryz.f103 ?_
  unhygienic intros
  clear ht
  cases b
  all_goals
    (conv => cbv)
    repeat' (first | assumption | ((first | refine hk.callA (h1 _) ?_ | refine hk.callA (h2 _) ?_ | refine stp ?_ | refine stpB (fun _ => ?_) (fun _ => ?_)) <;> (conv => cbv)) | exact stpF | fail)
    all_goals exact hk.fin0 rfl rfl (Wk.refl _ _)
theorem Off_spec (a g : Int) (l : List Int) (h : Heap) (ht : termB a g = true) (hl : l.length ≤ 1024) : Does PP 85 [.agg [I a, I g], LI l] h (Is (.tup [LI (if l.any out40 = true then [] else offL a g l), I (wrE l)]) h) := by
  have h1 := fun h => lwrongG_spec a g l h ht hl
  unfold wrE at h1 ⊢
  by_cases hb : l.any out40 = true
  · simp only [if_pos hb] at h1 ⊢
    clear hb
    refine pure0 ?_ rfl rfl h
    refine wlk Tryz.f85 ?_
    unhygienic intros
    (conv => cbv)
    repeat' (first | assumption | ((first | refine hk.callA (h1 _) ?_ | refine stp ?_ | refine stpB (fun _ => ?_) (fun _ => ?_)) <;> (conv => cbv)) | exact stpF | fail)
    all_goals exact hk.fin0 rfl rfl (Wk.tup ⟨Wk.nilL _ _, .refl _ _, trivial⟩)
  · simp only [if_neg hb] at h1 ⊢
    have h2 := fun h => off_spec a g l h ht (wrE_small l (by simpa using hb)) hl
    obtain ⟨O, hO⟩ : ∃ O, O = offL a g l := ⟨_, rfl⟩
    simp only [← hO] at h2 ⊢
    clear hb hO
    refine pure0 ?_ rfl rfl h
    refine wlk Tryz.f85 ?_
    unhygienic intros
    (conv => cbv)
    repeat' (first | assumption | ((first | refine hk.callA (h1 _) ?_ | refine hk.callA (h2 _) ?_ | refine stp ?_ | refine stpB (fun _ => ?_) (fun _ => ?_)) <;> (conv => cbv)) | exact stpF | fail)
    all_goals exact hk.fin0 rfl rfl (Wk.refl _ _)
end Go.Proofs.YtoeekjddeknmbaaGreat
