/-
  Contracts of functions of the program, proved over the abstract machine of the Al texts.
-/
import Derived.Test.YtoeekjddeknmbaaGreatTryTab
import Derived.Test.YtoeekjddeknmbaaGreatAl4
import Derived.Test.YtoeekjddeknmbaaGreatBaseX
import Derived.Test.YtoeekjddeknmbaaGreatRkX
import Derived.Test.YtoeekjddeknmbaaGreatBsX1
import Derived.Test.YtoeekjddeknmbaaGreatBsX2
import Derived.Test.YtoeekjddeknmbaaGreatBsX3
import Derived.Test.YtoeekjddeknmbaaGreatBsX4
import Derived.Test.YtoeekjddeknmbaaGreatBsX5
import Derived.Test.YtoeekjddeknmbaaGreatBsX6
import Derived.Test.YtoeekjddeknmbaaGreatPlX
import Derived.Test.YtoeekjddeknmbaaGreatTkX1
import Derived.Test.YtoeekjddeknmbaaGreatTkX3
import Derived.Test.YtoeekjddeknmbaaGreatSbX
import Derived.Test.YtoeekjddeknmbaaGreatNmX
import Derived.Test.YtoeekjddeknmbaaGreatLtX1
set_option maxHeartbeats 4000000
set_option maxRecDepth 20000
set_option linter.unusedSimpArgs false
set_option linter.unusedVariables false
open Go Go.AL
namespace Go.Proofs.YtoeekjddeknmbaaGreat
def brkP (sh n : Int) : Bool := decide (shl1 sh (n / 2 ^ sh.toNat) ≠ n)
def data0 (l ix : List Int) (lg gn sh : Int) : List Int := offL lg gn (resL ix (lowL sh l))
def nrmF (l : List Int) (d : Int) (ix : List Int) (lg gn sh : Int) : Bool := decide (0 ≤ sh) && decide (sh < d) && goodIx ix && termB lg gn && !(l.any (brkP sh))
def nrmE (l : List Int) (d : Int) (ix : List Int) (lg gn sh : Int) : Int :=
 if chkE l d ≠ 0 then chkE l d else if nrmF l d ix lg gn sh = false then 2
 else if (resL ix (lowL sh l)).any out40 = true ∨ (data0 l ix lg gn sh).any farP = true then 9 else 0
def nrmP (l ix : List Int) (lg gn sh : Int) : Int := (bstP (data0 l ix lg gn sh) 3 : Nat)
def nrmK (l ix : List Int) (lg gn sh : Int) : List Int := ksL (data0 l ix lg gn sh) (bstP (data0 l ix lg gn sh) 3)
theorem data0_len (l ix : List Int) (lg gn sh : Int) : (data0 l ix lg gn sh).length = l.length := by rw [data0, offL_len, resL_len, lowL_len]
theorem chkE_ok {l : List Int} {d : Int} (h : chkE l d = 0) : 1 ≤ l.length ∧ l.length ≤ 1024 ∧ 8 ≤ d ∧ d ≤ 26 ∧ ∀ x ∈ l, lacksP d x = false := by
 unfold chkE at h
 split at h
 ·exact absurd h (by decide)
 ·rename_i h1
  split at h
  ·exact absurd h (by decide)
  ·rename_i h2
   rw [Decidable.not_not] at h1
   refine ⟨h1.1, h1.2.1, h1.2.2.1, h1.2.2.2, fun x hx => ?_⟩
   simp only [List.any_eq_true, not_exists, not_and, Bool.not_eq_true] at h2
   exact h2 x hx
theorem lacks_small {d x : Int} (h0 : 8 ≤ d) (h1 : d ≤ 26) (h : lacksP d x = false) : -33554432 ≤ x ∧ x < 33554432 := by
 have := pw_range h0 h1
 rw [lacksP, Bool.or_eq_false_iff, decide_eq_false_iff_not, decide_eq_false_iff_not] at h
 omega
structure NrmOK (l : List Int) (d : Int) (ix : List Int) (lg gn sh : Int) : Prop where
 l1 : 1 ≤ l.length
 l2 : l.length ≤ 1024
 d1 : 8 ≤ d
 d2 : d ≤ 26
 lk : ∀ x ∈ l, lacksP d x = false
 s0 : 0 ≤ sh
 s1 : sh < d
 ix : IxOK ix
 tm : termB lg gn = true
 br : ∀ x ∈ l, x % 2 ^ sh.toNat = 0
theorem brk_mod {sh x : Int} (h0 : 0 ≤ sh) (h1 : sh ≤ 26) (hx : -33554432 ≤ x ∧ x < 33554432) : brkP sh x = decide (x % 2 ^ sh.toNat ≠ 0) := by
 unfold brkP
 have hP : (0 : Int) < 2 ^ sh.toNat := Int.pow_pos (by decide)
 have hm := Int.emod_nonneg x (show (2 : Int) ^ sh.toNat ≠ 0 by omega)
 have hm2 := Int.emod_lt_of_pos x hP
 have hP26 : (2 : Int) ^ sh.toNat ≤ 67108864 := by
  have : ∀ k : Nat, k ≤ 26 → (2 : Int) ^ k ≤ 67108864 := by decide
  exact this _ (by omega)
 have he := Int.emod_add_mul_ediv x (2 ^ sh.toNat)
 rw [Int.mul_comm] at he
 congr 1
 apply propext
 rw [shl1_mul _ _ h0 h1]
 obtain ⟨y, hy⟩ : ∃ y, y = x / 2 ^ sh.toNat * 2 ^ sh.toNat := ⟨_, rfl⟩
 obtain ⟨r, hr⟩ : ∃ r, r = x % 2 ^ sh.toNat := ⟨_, rfl⟩
 rw [← hy, ← hr] at he
 rw [← hr] at hm hm2
 rw [← hy, ← hr, show W y = y from wrap64 (by omega) (by omega)]
 omega
theorem nrm_ok {l : List Int} {d : Int} {ix : List Int} {lg gn sh : Int} (hc : chkE l d = 0) (hf : nrmF l d ix lg gn sh = true) : NrmOK l d ix lg gn sh := by
 obtain ⟨a, b, c, e, k⟩ := chkE_ok hc
 unfold nrmF at hf
 simp only [Bool.and_eq_true, decide_eq_true_eq, Bool.not_eq_true'] at hf
 obtain ⟨⟨⟨⟨h1, h2⟩, h3⟩, h4⟩, h5⟩ := hf
 refine ⟨a, b, c, e, k, h1, h2, (goodIx_iff ix).1 h3, h4, fun x hx => ?_⟩
 rw [List.any_eq_false] at h5
 have := h5 x hx
 rw [brk_mod h1 (by omega) (lacks_small c e (k x hx))] at this
 simpa using this
theorem lowL_small {l : List Int} {d : Int} {ix : List Int} {lg gn sh : Int} (h : NrmOK l d ix lg gn sh) : Small26 (lowL sh l) := fun i hi => by
 rw [lowL_len] at hi
 rw [lowL_get sh l i hi]
 have hP : (0 : Int) < 2 ^ sh.toNat := Int.pow_pos (by decide)
 obtain ⟨a, b⟩ := lacks_small h.d1 h.d2 (h.lk _ (mem_getD.2 ⟨i, hi, rfl⟩))
 constructor
 ·rw [Int.le_ediv_iff_mul_le hP]
  omega
 ·have : l.getD i 0 / 2 ^ sh.toNat < 67108864 := by
   rw [Int.ediv_lt_iff_lt_mul hP]
   omega
  omega
theorem nrm_back {l : List Int} {d : Int} {ix : List Int} {lg gn sh : Int} (h : nrmE l d ix lg gn sh = 0) :
 bsE 2 0 sh ix lg gn (nrmP l ix lg gn sh) (nrmK l ix lg gn sh) (data0 l ix lg gn sh) (l.length : Nat) d = 0 ∧
 bsL 2 0 sh ix lg gn (nrmP l ix lg gn sh) (nrmK l ix lg gn sh) (data0 l ix lg gn sh) (l.length : Nat) d = l := by
 unfold nrmE at h
 split at h
 ·rename_i h1; exact absurd h h1
 rename_i h1
 rw [Decidable.not_not] at h1
 split at h
 ·exact absurd h (by decide)
 rename_i h2
 split at h
 ·exact absurd h (by decide)
 rename_i h3
 rw [not_or, Bool.not_eq_true, Bool.not_eq_true] at h3
 obtain ⟨h3, h4⟩ := h3
 have hok := nrm_ok h1 (by simpa using h2)
 obtain ⟨b1, b2⟩ := nm_back sh ix lg gn l d hok.d1 hok.d2 hok.s0 (by have := hok.s1; have := hok.d2; omega) hok.tm hok.lk hok.br (wrE_small _ h3)
 have hdl := data0_len l ix lg gn sh
 have hform : formE 2 0 sh ix lg gn (nrmP l ix lg gn sh) (nrmK l ix lg gn sh) (data0 l ix lg gn sh) (l.length : Nat) d = 0 := by
  unfold formE
  rw [if_neg (by decide), if_neg (by decide), if_neg (by decide), if_pos rfl, if_pos]
  refine ⟨rfl, hok.s0, hok.s1, (goodIx_iff _).2 hok.ix, hok.tm, by rw [hdl], ?_, h4⟩
  have := parts_best (data0 l ix lg gn sh) (by rw [hdl]; exact hok.l1) (by rw [hdl]; exact hok.l2)
  rw [hdl] at this
  exact this
 have hout : outL 2 0 sh ix lg gn (data0 l ix lg gn sh) (l.length : Nat) d = l := by
  unfold outL
  rw [if_pos rfl]
  exact b2
 have e : bsE 2 0 sh ix lg gn (nrmP l ix lg gn sh) (nrmK l ix lg gn sh) (data0 l ix lg gn sh) (l.length : Nat) d = 0 := by
  unfold bsE
  rw [if_neg (by have := hok.l1; have := hok.l2; have := hok.d1; have := hok.d2; omega), hform, if_neg (by decide), if_neg (by unfold data0; rw [b1]; exact fun c => c.2 rfl), hout, if_neg]
  rw [List.any_eq_true]
  rintro ⟨x, hx, hx2⟩
  rw [hok.lk x hx] at hx2
  exact absurd hx2 (by decide)
 exact ⟨e, by unfold bsL; rw [if_pos e]; exact hout⟩
theorem lagPart_rangeG (a g : Int) (out : List Int) (i : Int) (hs : Small40 out) (hi0 : 0 ≤ i) (hi : i ≤ (out.length : Nat)) (ht : termB a g = true) : -1030792151040 ≤ lagPart a g out i ∧ lagPart a g out i ≤ 1030792151040 := by
 unfold lagPart
 rw [termB, decide_eq_true_eq] at ht
 split
 ·omega
 ·obtain ⟨h0, h1⟩ := hs (i - a).toNat (by omega)
  have := prod_range _ g h0 h1 (by omega) (by omega)
  omega
theorem offL_W (a g : Int) (l : List Int) (ht : termB a g = true) (hs : Small40 l) : offL a g l = offW a g l := by
 unfold offL offW
 refine List.map_congr_left fun i hi => ?_
 rw [List.mem_range] at hi
 have e : lagPart a g l (i : Nat) = lagW a g l (i : Nat) := by
  unfold lagPart lagW
  split
  ·rfl
  ·rename_i h
   have ht2 := ht
   rw [termB, decide_eq_true_eq] at ht2
   obtain ⟨b0, b1⟩ := hs ((i : Int) - a).toNat (by omega)
   have := prod_range _ g b0 b1 (by omega) (by omega)
   rw [W_id ⟨by omega, by omega⟩]
 have h1 := lagPart_rangeG a g l (i : Nat) hs (by omega) (by omega) ht
 have h2 := hs i hi
 rw [← e, W_id ⟨by omega, by omega⟩]
theorem small_r64 {l : List Int} (hs : Small40 l) : R64 l := fun i hi => by have := hs i hi; omega
theorem off_spec (a g : Int) (l : List Int) (h : Heap) (ht : termB a g = true) (hs : Small40 l) (hl : l.length ≤ 1024) : Does PP 119 [.agg [I a, I g], LI l] h (Is (LI (offL a g l)) h) := by
 rw [offL_W a g l ht hs]
 exact offW_spec a g l h ht hl
theorem lwrongG_spec (a g : Int) (l : List Int) (h : Heap) (ht : termB a g = true) (hl : l.length ≤ 1024) : Does PP 103 [.agg [I a, I g], LI l] h (Is (I (wrE l)) h) := by
 have h1 := fun h => lterm_spec a g h
 simp only [ht] at h1
 have h2 := fun h => contains_spec l 105 [] out40 h (by omega) (fun n => louts_spec n h)
 obtain ⟨b, hb⟩ : ∃ b, b = l.any out40 := ⟨_, rfl⟩
 unfold wrE
 rw [← hb]
 simp only [← hb] at h2
 clear hb
 refine pure0 ?_ rfl rfl h
 refine wlk Tryz.f103 ?_
 unhygienic intros
 clear ht
 cases b
 all_goals
  (conv => cbv)
  repeat' (first | assumption | ((first | refine hk.callA (h1 _) ?_ | refine hk.callA (h2 _) ?_ | refine stp ?_ | refine stpB (fun _ => ?_) (fun _ => ?_)) <;> (conv => cbv)) | exact stpF | fail)
  all_goals exact hk.fin0 rfl rfl (Wk.refl _ _)
theorem Off_spec (a g : Int) (l : List Int) (h : Heap) (ht : termB a g = true) (hl : l.length ≤ 1024) : Does PP 85 [.agg [I a, I g], LI l] h (Is (.tup [LI (if l.any out40 = true then [] else offL a g l), I (wrE l)]) h) := by
 have h1 := fun h => lwrongG_spec a g l h ht hl
 unfold wrE at h1 ⊢
 by_cases hb : l.any out40 = true
 ·simp only [if_pos hb] at h1 ⊢
  clear hb
  refine pure0 ?_ rfl rfl h
  refine wlk Tryz.f85 ?_
  unhygienic intros
  (conv => cbv)
  repeat' (first | assumption | ((first | refine hk.callA (h1 _) ?_ | refine stp ?_ | refine stpB (fun _ => ?_) (fun _ => ?_)) <;> (conv => cbv)) | exact stpF | fail)
  all_goals exact hk.fin0 rfl rfl (Wk.tup ⟨Wk.nilL _ _, .refl _ _, trivial⟩)
 ·simp only [if_neg hb] at h1 ⊢
  have h2 := fun h => off_spec a g l h ht (wrE_small l (by simpa using hb)) hl
  obtain ⟨O, hO⟩ : ∃ O, O = offL a g l := ⟨_, rfl⟩
  simp only [← hO] at h2 ⊢
  clear hb hO
  refine pure0 ?_ rfl rfl h
  refine wlk Tryz.f85 ?_
  unhygienic intros
  (conv => cbv)
  repeat' (first | assumption | ((first | refine hk.callA (h1 _) ?_ | refine hk.callA (h2 _) ?_ | refine stp ?_ | refine stpB (fun _ => ?_) (fun _ => ?_)) <;> (conv => cbv)) | exact stpF | fail)
  all_goals exact hk.fin0 rfl rfl (Wk.refl _ _)
theorem rwrong_spec (a g : Int) (l : List Int) (h : Heap) (ht : termB a g = true) (hl : l.length ≤ 1024) : Does PP 58 [I a, I g, LI l] h (Is (I (wrE l)) h) := by
 have hgd := fun h => rterm_spec a g h
 simp only [ht] at hgd
 obtain ⟨n, hn⟩ : ∃ n : Int, n = (l.length : Nat) := ⟨_, rfl⟩
 have hw1 : ∀ i : Int, 0 ≤ i → i < n → (l.getD i.toNat 0 > 1099511627776 ∨ l.getD i.toNat 0 < -1099511627776) → wrE l = 9 := fun i c d e => by
  unfold wrE
  rw [if_pos]
  rw [List.any_eq_true]
  refine ⟨_, mem_getD.2 ⟨i.toNat, by omega, rfl⟩, ?_⟩
  rw [out40, Bool.or_eq_true, decide_eq_true_eq, decide_eq_true_eq]
  omega
 have hw2 : (∀ i : Int, 0 ≤ i → i < n → ¬ (l.getD i.toNat 0 > 1099511627776 ∨ l.getD i.toNat 0 < -1099511627776)) → wrE l = 0 := fun e => by
  unfold wrE
  rw [if_neg]
  rw [List.any_eq_true]
  rintro ⟨x, hx, hx2⟩
  obtain ⟨i, hi, rfl⟩ := mem_getD.1 hx
  rw [out40, Bool.or_eq_true, decide_eq_true_eq, decide_eq_true_eq] at hx2
  exact e (i : Nat) (by omega) (by omega) (by rw [Int.toNat_natCast]; omega)
 obtain ⟨r, hr⟩ : ∃ r, r = wrE l := ⟨_, rfl⟩
 rw [← hr] at hw1 hw2 ⊢
 have hn0 : 0 ≤ n ∧ n ≤ 1024 := by omega
 clear hr ht
 refine pure0 ?_ rfl rfl h
 refine wlk Tryz.f58 ?_
 unhygienic intros
 have hln : lnI l = n := by rw [hk.lnI_eq]; omega
 have hgl := hk.gtI_eq l
 clear hn
 (conv => cbv)
 repeat' (first | assumption | ((first | rw [hln] | refine stp ?_ | refine stpB (fun _ => ?_) (fun _ => ?_)) <;> (conv => cbv)) | exact stpF | fail)
 refine hk.loopI (loop_rule (α := Int) (fun i => [(2, .ls (.il .i64 l) .any), (13, .int .i64 n), (14, .int .i64 i)]) (fun _ => [])
  (fun i => 0 ≤ i ∧ i ≤ n ∧ ∀ j : Int, 0 ≤ j → j < i → ¬ (l.getD j.toNat 0 > 1099511627776 ∨ l.getD j.toNat 0 < -1099511627776)) (fun i => (n - i).toNat) 0 ⟨by omega, by omega, fun j c d => by omega⟩ ?_ ?_)
 ·exact ghT
 intro i ⟨hi, hi2, hall⟩ Q' hb hx hr
 by_cases h2 : i < n
 ·have hw1 := hw1 i hi h2
  have hall2 : ¬ (l.getD i.toNat 0 > 1099511627776 ∨ l.getD i.toNat 0 < -1099511627776) → ∀ j : Int, 0 ≤ j → j < i + 1 → ¬ (l.getD j.toNat 0 > 1099511627776 ∨ l.getD j.toNat 0 < -1099511627776) := fun hn j c d => by
   by_cases e : j < i
   ·exact hall j c e
   ·rw [show j = i by omega]; exact hn
  obtain ⟨x, hx0⟩ : ∃ x, x = gtI l i := ⟨_, rfl⟩
  rw [← hgl, ← hx0] at hw1 hall2
  (conv => cbv)
  repeat' (first | assumption | ((first | rw [hln] | refine hk.idxI hi h2 ?_ | rw [← hx0] | refine hr _ ?_ | refine stp ?_ | refine stpB (fun _ => ?_) (fun _ => ?_)) <;> (conv => cbv)) | exact stpF | fail)
  ·rw [hw1 (by omega)]
   exact hk.fin0 rfl rfl (Wk.refl _ _)
  ·rw [hw1 (by omega)]
   exact hk.fin0 rfl rfl (Wk.refl _ _)
  ·refine hb (i + 1) _ ⟨by omega, by omega, hall2 (by omega)⟩ (by omega) ?_
   refine Gh.tm ?_
   repeat' (first | exact Holds.nil _ _ | refine Holds.cons (Wk.refl _ _) ?_ | refine Holds.cons (Wk.of_eq ?_) ?_)
   all_goals first
    | (rw [← hk.add64 i 1 (by omega) (by omega)]; rfl)
    | rfl
    | skip
 ·have : i = n := by omega
  subst this
  have hw2 := hw2 hall
  subst hw2
  (conv => cbv)
  repeat' (first | assumption | ((first | refine hx _ _ ?_ | refine stp ?_ | refine stpB (fun _ => ?_) (fun _ => ?_)) <;> (conv => cbv)) | exact stpF | fail)
  all_goals exact hk.fin0 rfl rfl (Wk.refl _ _)
theorem roff_spec (a g : Int) (l : List Int) (h : Heap) (ht : termB a g = true) (hs : Small40 l) (hl : l.length ≤ 1024) : Does PP 59 [I a, I g, LI l] h (Is (LI (offL a g l)) h) := by
 rw [offL_W a g l ht hs]
 exact roffW_spec a g l h ht (small_r64 hs) hl
end Go.Proofs.YtoeekjddeknmbaaGreat
