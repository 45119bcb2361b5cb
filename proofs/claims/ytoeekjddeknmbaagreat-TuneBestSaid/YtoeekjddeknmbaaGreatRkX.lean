/-
  Contracts of functions of the program, proved over the abstract machine of the Al texts.
-/
import Derived.Test.YtoeekjddeknmbaaGreatTryTab
import Derived.Test.YtoeekjddeknmbaaGreatAl4
import Derived.Test.YtoeekjddeknmbaaGreatBaseX
set_option maxHeartbeats 1000000
set_option linter.unusedSimpArgs false
set_option linter.unusedVariables false
open Go Go.AL
namespace Go.Proofs.YtoeekjddeknmbaaGreat
theorem rz_sl (i g : Nat) (q : LX) (lo hi : Int) : rz i g q (.sl i g lo hi) = .ls (subR q lo hi) .any := by simp [rz]
theorem mem_getD {l : List Int} {x : Int} : x ∈ l ↔ ∃ i, i < l.length ∧ l.getD i 0 = x := by
 rw [List.mem_iff_getElem]
 constructor
 ·rintro ⟨i, h, rfl⟩; exact ⟨i, h, by simp [List.getD, h]⟩
 ·rintro ⟨i, h, rfl⟩; exact ⟨i, h, by simp [List.getD, h]⟩
theorem list_ext {l m : List Int} (h1 : l.length = m.length) (h2 : ∀ i, i < l.length → l.getD i 0 = m.getD i 0) : l = m := by
 refine List.ext_getElem h1 fun i hi hi' => ?_
 have := h2 i hi
 simpa [List.getD, hi, hi'] using this
theorem same_spec (a b : List Int) (h : Heap) (ha : a.length ≤ 9223372036854775807) (hb : b.length ≤ 9223372036854775807) : Does PP 15 [LI a, LI b] h (Is (.bool (decide (a = b))) h) := by
 obtain ⟨r, hr0⟩ : ∃ r, r = decide (a = b) := ⟨_, rfl⟩
 rw [← hr0]
 refine wlk Tryz.f15 ?_
 unhygienic intros
 have hn := hk.lnI_nn a
 have hl := hk.lnI_le a 9223372036854775807 (by omega)
 have hlen : lnI a = lnI b ↔ a.length = b.length := by rw [hk.lnI_eq, hk.lnI_eq]; omega
 cbv
 split
 ·rename_i h1
  rw [hk.c2_neq, decide_eq_true_eq, ne_eq, hlen] at h1
  cbv
  exact hk.fin1 (congrArg _ (by rw [hr0, eq_comm, decide_eq_false_iff_not]; exact fun e => h1 (congrArg List.length e)))
 ·rename_i h1
  rw [hk.c2_neq, decide_eq_false_iff_not, ne_eq, Classical.not_not] at h1
  have h2 := hlen.1 h1
  cbv
  refine hk.loopI (loop_rule (α := Int) (fun i => [(0, .ls (.il .i64 a) .any), (1, .ls (.il .i64 b) .any), (4, .bool false), (12, .int .i64 (lnI a)), (13, .int .i64 i)]) (fun i => h)
   (fun i => 0 ≤ i ∧ i ≤ lnI a ∧ ∀ j, j < i.toNat → a.getD j 0 = b.getD j 0) (fun i => (lnI a - i).toNat) 0 ⟨by omega, by omega, upto_zero⟩ ?_ ?_)
  ·exact ghT
  intro i ⟨hi, hi2, hi3⟩ Q' hb hx hr
  cbv
  split
  ·rename_i hlt
   rw [hk.c2_lss, decide_eq_true_eq] at hlt
   refine ⟨hk.idx hi hlt, hk.idx hi (show i < lnI b by omega), ?_⟩
   have hil := hk.lt_lnI a i hi hlt
   have hga := hk.gtI_eq a i
   have hgb := hk.gtI_eq b i
   cbv
   split
   ·rename_i he
    rw [hk.c2_neq, decide_eq_true_eq, hga, hgb] at he
    refine hr _ ?_
    cbv
    exact hk.fin1 (congrArg _ (by rw [hr0, eq_comm, decide_eq_false_iff_not]; intro e; exact he (by rw [e])))
   ·rename_i he
    rw [hk.c2_neq, decide_eq_false_iff_not, hga, hgb, ne_eq, Classical.not_not] at he
    refine hb (i + 1) _ ⟨by omega, by omega, upto_step hi hi3 he⟩ (by omega) ?_
    refine Gh.tm ?_
    repeat' (first | exact Holds.nil _ _ | refine Holds.cons (Wk.refl _ _) ?_ | refine Holds.cons (Wk.of_eq ?_) ?_)
    all_goals first
     | (rw [← hk.add64 i 1 (by omega) (by omega)]; rfl)
     | rfl
     | skip
  ·rename_i hge
   rw [hk.c2_lss, decide_eq_false_iff_not] at hge
   have hlen := hk.lnI_toNat a
   refine hx _ _ ?_
   cbv
   exact hk.fin1 (congrArg _ (by
    rw [hr0, eq_comm, decide_eq_true_eq]
    exact list_ext h2 fun j hj => hi3 j (by omega)))
set_option maxHeartbeats 4000000
set_option maxRecDepth 20000
def findI (g : Int → Bool) (l : List Int) : Int := match l.findIdx? g with | some i => (i : Int) | none => -1
theorem find_some {l : List Int} {g : Int → Bool} {i : Int} (h0 : 0 ≤ i) (h4 : i.toNat < l.length) (h2 : ∀ j, j < i.toNat → g (l.getD j 0) = false) (h3 : g (l.getD i.toNat 0) = true) : i = findI g l := by
 have hf : l.findIdx? g = some i.toNat := by
  rw [List.findIdx?_eq_some_iff_getElem]
  refine ⟨h4, ?_, fun j hj => ?_⟩
  ·rw [List.getD_eq_getElem?_getD, List.getElem?_eq_getElem h4] at h3
   exact h3
  ·have := h2 j hj
   rw [List.getD_eq_getElem?_getD, List.getElem?_eq_getElem (by omega)] at this
   simpa using this
 unfold findI
 rw [hf]
 exact (Int.toNat_of_nonneg h0).symm
theorem find_none {l : List Int} {g : Int → Bool} {i : Int} (h1 : l.length ≤ i.toNat) (h2 : ∀ j, j < i.toNat → g (l.getD j 0) = false) : -1 = findI g l := by
 have hf : l.findIdx? g = none := by
  rw [List.findIdx?_eq_none_iff]
  intro x hx
  obtain ⟨j, hj, rfl⟩ := List.mem_iff_getElem.1 hx
  have := h2 j (by omega)
  rw [List.getD_eq_getElem?_getD, List.getElem?_eq_getElem (by omega)] at this
  simpa using this
 unfold findI
 rw [hf]
theorem find_any (g : Int → Bool) (l : List Int) : decide (findI g l ≥ 0) = l.any g := by
 unfold findI
 cases h : l.findIdx? g with
 | none =>
   rw [List.findIdx?_eq_none_iff] at h
   have : l.any g = false := by rw [List.any_eq_false]; intro x hx; rw [h x hx]; simp
   rw [this]; rfl
 | some i =>
   rw [List.findIdx?_eq_some_iff_getElem] at h
   obtain ⟨h1, h2, _⟩ := h
   have : l.any g = true := List.any_eq_true.2 ⟨l[i], List.getElem_mem h1, h2⟩
   rw [this]
   simp
theorem index_spec (l : List Int) (fid : Nat) (caps : List AVal) (g : Int → Bool) (h : Heap) (hl : l.length ≤ 9223372036854775807) (hg : ∀ n, Does PP fid (.int .i64 n :: caps) h (Is (.bool (g n)) h)) :
 Does PP 75 [LI l, .clo (.func fid) [] caps] h (Is (I (findI g l)) h) := by
 obtain ⟨r, hr0⟩ : ∃ r, r = findI g l := ⟨_, rfl⟩
 rw [← hr0]
 refine wlk Tryz.f75 ?_
 unhygienic intros
 have hn := hk.lnI_nn l
 have hl := hk.lnI_le l 9223372036854775807 (by omega)
 cbv
 refine hk.loopI (loop_rule (α := Int) (fun i => [(1, .clo (.func fid) [] caps), (0, .ls (.il .i64 l) .any), (7, .int .i64 (lnI l)), (8, .int .i64 i)]) (fun i => h)
  (fun i => 0 ≤ i ∧ i ≤ lnI l ∧ ∀ j, j < i.toNat → g (l.getD j 0) = false) (fun i => (lnI l - i).toNat) 0 ⟨by omega, by omega, upto_zero⟩ ?_ ?_)
 ·exact ghT
 intro i ⟨hi, hi2, hi3⟩ Q' hb hx hr
 cbv
 split
 ·rename_i hlt
  rw [hk.c2_lss, decide_eq_true_eq] at hlt
  refine ⟨hk.idx hi hlt, hk.call1 (hg _) ?_⟩
  cbv
  split
  ·rename_i hgt
   have hgt : g (gtI l i) = true := hgt
   rw [hk.gtI_eq] at hgt
   refine hr _ ?_
   cbv
   exact hk.fin1 (congrArg _ (by rw [hr0]; exact find_some hi (hk.lt_lnI l i hi hlt) hi3 hgt))
  ·rename_i hgf
   have hgf : g (gtI l i) = false := hgf
   rw [hk.gtI_eq] at hgf
   refine hb (i + 1) _ ⟨by omega, by omega, upto_step hi hi3 hgf⟩ (by omega) ?_
   refine Gh.tm ?_
   repeat' (first | exact Holds.nil _ _ | refine Holds.cons (Wk.refl _ _) ?_ | refine Holds.cons (Wk.of_eq ?_) ?_)
   all_goals first
    | (rw [← hk.add64 i 1 (by omega) (by omega)]; rfl)
    | rfl
    | skip
 ·rename_i hge
  rw [hk.c2_lss, decide_eq_false_iff_not] at hge
  refine hx _ _ ?_
  cbv
  exact hk.fin1 (congrArg _ (by rw [hr0]; exact find_none (by rw [← hk.lnI_toNat l]; omega) hi3))
theorem contains_spec (l : List Int) (fid : Nat) (caps : List AVal) (g : Int → Bool) (h : Heap) (hl : l.length ≤ 9223372036854775807) (hg : ∀ n, Does PP fid (.int .i64 n :: caps) h (Is (.bool (g n)) h)) :
 Does PP 36 [LI l, .clo (.func fid) [] caps] h (Is (.bool (l.any g)) h) := by
 obtain ⟨r, hr0⟩ : ∃ r, r = findI g l := ⟨_, rfl⟩
 obtain ⟨b, hb0⟩ : ∃ b, b = l.any g := ⟨_, rfl⟩
 rw [← hb0]
 refine wlk Tryz.f36 ?_
 unhygienic intros
 cbv
 refine hk.call1 (r := .int .i64 r) (by rw [hr0]; exact index_spec l fid caps g h hl hg) ?_
 cbv
 refine hk.fin1 ?_
 show AVal.bool (c2 .geq r 0) = _
 rw [hk.c2_geq, hr0, find_any, hb0]
end Go.Proofs.YtoeekjddeknmbaaGreat
