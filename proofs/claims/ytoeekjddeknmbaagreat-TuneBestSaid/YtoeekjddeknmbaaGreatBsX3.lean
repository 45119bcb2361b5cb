/-
  Contracts of functions of the program, proved over the abstract machine of the Al texts.
-/
import Derived.Test.YtoeekjddeknmbaaGreatBaseX
import Derived.Test.YtoeekjddeknmbaaGreatRkX
import Derived.Test.YtoeekjddeknmbaaGreatBsX1
import Derived.Test.YtoeekjddeknmbaaGreatBsX2
set_option maxHeartbeats 4000000
set_option maxRecDepth 20000
set_option linter.unusedSimpArgs false
set_option linter.unusedVariables false
open Go Go.AL
namespace Go.Proofs.YtoeekjddeknmbaaGreat
def whole (n p : Int) : Bool := decide (1 ≤ n ∧ n ≤ 1024 ∧ 0 ≤ p ∧ p ≤ 3 ∧ n.tmod (2 ^ p.toNat) = 0)
theorem whole_yes {n p : Int} (h : 1 ≤ n) (h2 : n ≤ 1024) (h3 : 0 ≤ p) (h4 : p ≤ 3) : whole n p = decide (n.tmod (2 ^ p.toNat) = 0) := by
 unfold whole; exact decide_eq_decide.2 ⟨fun h => h.2.2.2.2, fun h5 => ⟨h, h2, h3, h4, h5⟩⟩
theorem whole_no {n p : Int} (h : ¬ (1 ≤ n ∧ n ≤ 1024 ∧ 0 ≤ p ∧ p ≤ 3)) : whole n p = false := by
 unfold whole; rw [decide_eq_false_iff_not]; exact fun h2 => h ⟨h2.1, h2.2.1, h2.2.2.1, h2.2.2.2.1⟩
theorem shl_pow (p : Int) (h0 : 0 ≤ p) (h1 : p ≤ 24) : rI2 .shl .i64 1 p = 2 ^ p.toNat := by
 obtain ⟨k, rfl⟩ : ∃ k : Nat, p = k := ⟨p.toNat, by omega⟩
 have : ∀ k : Nat, k < 25 → rI2 .shl .i64 1 (k : Int) = 2 ^ (k : Int).toNat := by decide
 exact this k (by omega)
theorem whole_spec (n p : Int) (h : Heap) : Does PP 101 [I n, I p] h (Is (.bool (whole n p)) h) := by
 obtain ⟨r, hr⟩ : ∃ u, u = whole n p := ⟨_, rfl⟩
 rw [← hr]
 have hy : 1 ≤ n → n ≤ 1024 → 0 ≤ p → p ≤ 3 → r = decide (n.tmod (2 ^ p.toNat) = 0) := fun a b c d => by rw [hr, whole_yes a b c d]
 have hn : ¬ (1 ≤ n ∧ n ≤ 1024 ∧ 0 ≤ p ∧ p ≤ 3) → r = false := fun h => by rw [hr, whole_no h]
 have hsh : 0 ≤ p → p ≤ 3 → rI2 .shl .i64 1 p = 2 ^ p.toNat := fun a b => shl_pow p a (by omega)
 obtain ⟨w, hw⟩ : ∃ w : Int, w = 2 ^ p.toNat := ⟨_, rfl⟩
 have hw0 : w ≠ 0 := by have : (0 : Int) < 2 ^ p.toNat := Int.pow_pos (by decide)
                        omega
 simp only [← hw] at hy hsh
 clear hr hw
 refine wlk Tryz.f101 ?_
 unhygienic intros
 have hsh : 0 ≤ p → p ≤ 3 → i2 .shl .i64 1 p = w := fun a b => by rw [hk.i2_eq]; exact hsh a b
 have hz : c2 .eql (i2 .rem .i64 n w) 0 = decide (n.tmod w = 0) := by rw [hk.i2_rem, hk.c2_eql]
 (conv => cbv)
 refine hk.brGeq (fun h1 => ?_) (fun h1 => ?_)
 ·(conv => cbv)
  refine hk.brLeq (fun h2 => ?_) (fun h2 => ?_)
  ·(conv => cbv)
   refine hk.brGeq (fun h3 => ?_) (fun h3 => ?_)
   ·(conv => cbv)
    refine hk.brLeq (fun h4 => ?_) (fun h4 => ?_)
    ·(conv => cbv)
     have := hsh h3 h4
     repeat' (first | assumption | ((first | rw [this] | refine hk.needI h3 ?_ | refine hk.needI hw0 ?_ | refine stp ?_ | refine stpB (fun _ => ?_) (fun _ => ?_)) <;> (conv => cbv)) | exact stpF | fail)
     all_goals exact hk.finB (by rw [hz, hy h1 h2 h3 h4])
    ·have := hn (by omega)
     subst this
     (conv => cbv)
     repeat' (first | assumption | ((first | refine stp ?_ | refine stpB (fun _ => ?_) (fun _ => ?_)) <;> (conv => cbv)) | exact stpF | fail)
     all_goals exact hk.finB rfl
   ·have := hn (by omega)
    subst this
    (conv => cbv)
    repeat' (first | assumption | ((first | refine stp ?_ | refine stpB (fun _ => ?_) (fun _ => ?_)) <;> (conv => cbv)) | exact stpF | fail)
    all_goals exact hk.finB rfl
  ·have := hn (by omega)
   subst this
   (conv => cbv)
   repeat' (first | assumption | ((first | refine stp ?_ | refine stpB (fun _ => ?_) (fun _ => ?_)) <;> (conv => cbv)) | exact stpF | fail)
   all_goals exact hk.finB rfl
 ·have := hn (by omega)
  subst this
  (conv => cbv)
  repeat' (first | assumption | ((first | refine stp ?_ | refine stpB (fun _ => ?_) (fun _ => ?_)) <;> (conv => cbv)) | exact stpF | fail)
  all_goals exact hk.finB rfl
def kP (n : Int) : Bool := decide (n < 0) || decide (n > 24)
def partsB (n p : Int) (k : List Int) : Bool := whole n p && decide ((k.length : Int) = 2 ^ p.toNat) && allP kP k
theorem partsB_no1 {n p : Int} {k : List Int} (h : whole n p = false) : partsB n p k = false := by unfold partsB; rw [h]; rfl
theorem partsB_yes {n p : Int} {k : List Int} (h : whole n p = true) (h2 : (k.length : Int) = 2 ^ p.toNat) : partsB n p k = allP kP k := by unfold partsB; rw [h, decide_eq_true h2]; rfl
theorem partsB_no2 {n p : Int} {k : List Int} (h2 : ¬ (k.length : Int) = 2 ^ p.toNat) : partsB n p k = false := by unfold partsB; rw [decide_eq_false h2]; simp
theorem whole_iff {n p : Int} : whole n p = true ↔ (1 ≤ n ∧ n ≤ 1024 ∧ 0 ≤ p ∧ p ≤ 3 ∧ n.tmod (2 ^ p.toNat) = 0) := decide_eq_true_iff
theorem sgood_spec (n p : Int) (k : List Int) (h : Heap) (hl : k.length ≤ 9223372036854775807) : Does PP 68 [I n, .agg [I p, LI k]] h (Is (.bool (partsB n p k)) h) := by
 have hc := fun h => contains_spec k 102 [] kP h hl (fun n => souts_spec n h)
 have hw := fun h => whole_spec n p h
 obtain ⟨u, hu⟩ : ∃ u, u = k.any kP := ⟨_, rfl⟩
 obtain ⟨r, hr⟩ : ∃ u, u = partsB n p k := ⟨_, rfl⟩
 obtain ⟨w, hw0⟩ : ∃ u, u = whole n p := ⟨_, rfl⟩
 obtain ⟨z, hz⟩ : ∃ z : Int, z = 2 ^ p.toNat := ⟨_, rfl⟩
 simp only [← hu] at hc
 simp only [← hw0] at hw
 rw [← hr]
 have h1 : w = false → r = false := fun h => by rw [hr]; exact partsB_no1 (by rw [← hw0]; exact h)
 have h2 : w = true → (k.length : Int) = z → r = !u := fun h h2 => by rw [hr, partsB_yes (by rw [← hw0]; exact h) (by rw [h2, hz]), hu]; rfl
 have h3 : ¬ (k.length : Int) = z → r = false := fun h => by rw [hr]; exact partsB_no2 (by rw [← hz]; exact h)
 have hp : w = true → 0 ≤ p ∧ rI2 .shl .i64 1 p = z := fun h => by
  rw [hw0, whole_iff] at h
  exact ⟨h.2.2.1, by rw [hz]; exact shl_pow p h.2.2.1 (by omega)⟩
 clear hu hr hw0 hz
 refine pure0 ?_ rfl rfl h
 refine wlk Tryz.f68 ?_
 unhygienic intros
 have hln := hk.lnI_eq k
 rw [← hln] at h2 h3
 rw [← hk.i2_eq] at hp
 clear hln
 (conv => cbv)
 cases w with
 | false =>
   have := h1 rfl
   subst this
   repeat' (first | assumption | ((first | refine stp ?_ | refine stpB (fun _ => ?_) (fun _ => ?_)) <;> (conv => cbv)) | exact stpF | fail)
   all_goals exact hk.fin0 rfl rfl (.refl _ _)
 | true =>
   obtain ⟨hp0, hp1⟩ := hp rfl
   repeat' (first | assumption | ((first | refine hk.needI hp0 ?_ | rw [hp1] | refine stp ?_ | refine stpB (fun _ => ?_) (fun _ => ?_)) <;> (conv => cbv)) | exact stpF | fail)
   ·rename_i h5
    rw [hk.bn_eq, h2 rfl h5]
    exact hk.fin0 rfl rfl (.refl _ _)
   ·rename_i h5
    rw [h3 h5]
    exact hk.fin0 rfl rfl (.refl _ _)
def rfL (l : List Int) : Nat → List Int
 | 0 => []
 | n + 1 => rfL l n ++ [refl_ (n : Nat) (l.getD n 0)]
theorem rfL_len (l : List Int) : ∀ n, (rfL l n).length = n
 | 0 => rfl
 | n + 1 => by simp [rfL, rfL_len l n]
theorem lreflect_spec (l : List Int) (h : Heap) (hx : IxOK l) : Does PP 83 [LI l] h (Is (LI (rfL l l.length)) h) := by
 obtain ⟨n, hn⟩ : ∃ n : Int, n = (l.length : Nat) := ⟨_, rfl⟩
 obtain ⟨A, hA⟩ : ∃ A : Int → List Int, ∀ i, A i = rfL l i.toNat := ⟨_, fun _ => rfl⟩
 obtain ⟨K, hK⟩ : ∃ K : Int → Int, ∀ i, K i = refl_ i (l.getD i.toNat 0) := ⟨_, fun _ => rfl⟩
 have hAl : ∀ i : Int, (A i).length = i.toNat := fun i => by rw [hA, rfL_len]
 have hAs : ∀ i : Int, 0 ≤ i → A i ++ [K i] = A (i + 1) := fun i h => by
  rw [hA, hA, hK, show (i + 1).toNat = i.toNat + 1 by omega]
  simp only [rfL]
  rw [show ((i.toNat : Nat) : Int) = i by omega]
 have hrf : ∀ (i : Int) h, 0 ≤ i → i < n → Does PP 116 [I i, I (l.getD i.toNat 0)] h (Is (I (K i)) h) := fun i h h0 h1 => by
  obtain ⟨b0, b1⟩ := hx.2 i.toNat (by omega)
  rw [hK]; exact lrefl_spec i _ h b0 b1
 have hn16 : 0 ≤ n ∧ n ≤ 16 := by have := hx.1; omega
 have hAn : rfL l l.length = A n := by rw [hA, hn]; simp
 have hA0 : A 0 = [] := by rw [hA]; rfl
 rw [hAn]
 have hll : l.length = n.toNat := by omega
 clear hA hK hn hx hAn
 refine pure0 ?_ rfl rfl h
 refine wlk Tryz.f83 ?_
 unhygienic intros
 have hln : lnI l = n := by rw [hk.lnI_eq]; omega
 have hgl := hk.gtI_eq l
 have hl1 : ∀ x, lnI [x] = 1 := fun x => hk.lnI_eq _
 have hlA : ∀ i : Int, 0 ≤ i → lnI (A i) = i := fun i h => by rw [hk.lnI_eq, hAl]; omega
 have hap : ∀ i : Int, 0 ≤ i → apI (A i) [K i] = A (i + 1) := fun i h => by rw [hk.apI_eq, hAs i h]
 simp only [← hgl] at hrf
 clear hll hgl hAs hAl
 (conv => cbv)
 rw [hln]
 refine hk.loopI (loop_rule (α := Int) (fun i => [(2, .ls .nl .nil), (3, .ls (.il .i64 (A i)) (.tok 0 0)), (6, .ls (.il .i64 l) .any), (7, .int .i64 n), (8, .int .i64 i)]) (fun _ => [.tok 0])
  (fun i => 0 ≤ i ∧ i ≤ n) (fun i => (n - i).toNat) 0 ⟨by omega, by omega⟩ ?_ ?_)
 ·rw [hA0]
  refine Gh.trans (Gh.thaw 3 (.il .i64 []) rfl trivial rfl) (Gh.tm ?_)
  repeat' (first | exact Holds.nil _ _ | refine Holds.cons (Wk.refl _ _) ?_)
 intro i ⟨hi, hi2⟩ Q' hb hx hr
 have hlA := hlA i hi
 have hap := hap i hi
 (conv => cbv)
 refine hk.brLss (fun h2 => ?_) (fun h2 => ?_)
 ·have hrf := fun h => hrf i h hi h2
  (conv => cbv)
  try rw [hln]
  refine hk.idxI hi h2 ?_
  (conv => cbv)
  repeat' (first | assumption | ((first | rw [hap] | rw [hlA, hl1] | refine hk.needI (by first | (simp only [rNd, hk.ad_eq, hk.sb_eq]; omega) | (simp [rNd, hk.ad_eq, hk.sb_eq]; omega)) ?_ | refine stp ?_ | refine stpB (fun _ => ?_) (fun _ => ?_)) <;> (conv => cbv)) | exact stpF | fail)
  refine hb (i + 1) _ ⟨by omega, by omega⟩ (by omega) ?_
  refine Gh.retok 0 1 rfl (Nat.le_of_ble_eq_true rfl) ?_ rfl rfl
  repeat' (first | exact HoldsT.nil _ _ _ _ | refine HoldsT.tok rfl ?_ | refine HoldsT.cons (Wk.refl _ _) rfl ?_ | refine HoldsT.cons (Wk.of_eq ?_) rfl ?_)
  all_goals first
   | (rw [← hk.add64 i 1 (by omega) (by omega)]; rfl)
   | rfl
   | skip
 ·have : i = n := by omega
  subst this
  refine hx _ _ ?_
  (conv => cbv)
  exact hk.fin0 rfl rfl (Wk.any _ _ _)
def pw (d : Int) : Int := 2 ^ (d - 1).toNat
theorem pw_range {d : Int} (h0 : 8 ≤ d) (h1 : d ≤ 26) : 128 ≤ pw d ∧ pw d ≤ 33554432 := by
 unfold pw
 obtain ⟨k, hk⟩ : ∃ k : Nat, (d - 1).toNat = k := ⟨_, rfl⟩
 have : ∀ k : Nat, k < 26 → 7 ≤ k → (128 : Int) ≤ 2 ^ k ∧ (2 : Int) ^ k ≤ 33554432 := by decide
 rw [hk]
 exact this k (by omega) (by omega)
theorem pw_shl {d : Int} (h0 : 8 ≤ d) (h1 : d ≤ 26) : rI2 .shl .i64 1 (d - 1) = pw d := by
 obtain ⟨k, hk⟩ : ∃ k : Nat, d - 1 = k := ⟨(d - 1).toNat, by omega⟩
 rw [pw, hk]
 have : ∀ k : Nat, k < 26 → rI2 .shl .i64 1 (k : Int) = 2 ^ (k : Int).toNat := by decide
 exact this k (by omega)
def lacksP (d n : Int) : Bool := decide (n > pw d - 1) || decide (n < -pw d)
theorem most_spec (d : Int) (h : Heap) (h0 : 8 ≤ d) (h1 : d ≤ 26) : Does PP 73 [I d] h (Is (I (pw d - 1)) h) := by
 have hs := pw_shl h0 h1
 have hr := pw_range h0 h1
 obtain ⟨w, hw⟩ : ∃ w, w = pw d := ⟨_, rfl⟩
 obtain ⟨t, ht⟩ : ∃ t, t = pw d - 1 := ⟨_, rfl⟩
 rw [← ht]
 rw [← hw] at hs hr ht
 refine wlk Tryz.f73 ?_
 unhygienic intros
 have hs : i2 .shl .i64 1 (i2 .sub .i64 d 1) = w := by rw [hk.i2_eq, show rI2 .sub .i64 d 1 = d - 1 from wrap64 (by omega) (by omega), hs]
 have hd : 0 ≤ i2 .sub .i64 d 1 := by rw [hk.sub64 _ _ (by omega) (by omega)]; omega
 have hf : i2 .sub .i64 w 1 = t := by rw [hk.sub64 _ _ (by omega) (by omega), ht]
 clear ht
 (conv => cbv)
 repeat' (first | assumption | ((first | rw [hs] | refine hk.needI hd ?_ | refine stp ?_ | refine stpB (fun _ => ?_) (fun _ => ?_)) <;> (conv => cbv)) | exact stpF | fail)
 all_goals exact hk.finN (by rw [hf])
theorem lacks_spec (d n : Int) (h : Heap) (h0 : 8 ≤ d) (h1 : d ≤ 26) : Does PP 37 [I d, I n] h (Is (.bool (lacksP d n)) h) := by
 have hm := fun h => most_spec d h h0 h1
 have hr := pw_range h0 h1
 obtain ⟨r, hr0⟩ : ∃ w, w = lacksP d n := ⟨_, rfl⟩
 obtain ⟨nw, hnw⟩ : ∃ w, w = -pw d := ⟨_, rfl⟩
 obtain ⟨w, hw⟩ : ∃ w, w = pw d := ⟨_, rfl⟩
 rw [← hr0]
 rw [lacksP] at hr0
 obtain ⟨t, ht⟩ : ∃ t, t = pw d - 1 := ⟨_, rfl⟩
 rw [← ht, ← hnw] at hr0
 simp only [← ht] at hm
 rw [← hw] at hr ht hnw
 clear hw
 refine wlk Tryz.f37 ?_
 unhygienic intros
 have hf : i2 .sub .i64 (u1 .neg .i64 t) 1 = nw := by
  rw [hk.u1_neg, show IntKind.wrap .i64 (0 - t) = 0 - t from wrap64 (by omega) (by omega), hk.sub64 _ _ (by omega) (by omega)]; omega
 (conv => cbv)
 repeat' (first | assumption | ((first | rw [hf] | refine stp ?_ | refine stpB (fun _ => ?_) (fun _ => ?_)) <;> (conv => cbv)) | exact stpF | fail)
 ·exact hk.finB (by rw [hr0]; rw [decide_eq_true (by assumption)]; rfl)
 ·exact hk.finB (by rw [hr0, decide_eq_false (by assumption), hk.c2_lss]; rfl)
theorem rhas_spec (d n : Int) (h : Heap) (h0 : 8 ≤ d) (h1 : d ≤ 26) : Does PP 22 [I n, I d] h (Is (.bool (!lacksP d n)) h) := by
 have hm := fun h => power_spec (d - 1) h (by omega)
 have hr := pw_range h0 h1
 obtain ⟨r, hr0⟩ : ∃ w, w = !lacksP d n := ⟨_, rfl⟩
 obtain ⟨w, hw⟩ : ∃ w, w = pw d := ⟨_, rfl⟩
 rw [← hr0]
 rw [lacksP] at hr0
 rw [← hw] at hr0 hr
 rw [pw] at hw
 simp only [← hw] at hm
 clear hw
 refine wlk Tryz.f22 ?_
 unhygienic intros
 have hf : u1 .neg .i64 w = -w := by
  rw [hk.u1_neg, show IntKind.wrap .i64 (0 - w) = 0 - w from wrap64 (by omega) (by omega)]; omega
 have hd : i2 .sub .i64 d 1 = d - 1 := hk.sub64 _ _ (by omega) (by omega)
 (conv => cbv)
 repeat' (first | assumption | ((first | rw [hd] | rw [hf] | refine stp ?_ | refine stpB (fun _ => ?_) (fun _ => ?_)) <;> (conv => cbv)) | exact stpF | fail)
 ·rename_i h5
  refine hk.finB ?_
  rw [hr0, hk.c2_lss]
  by_cases h6 : n < w
  ·rw [decide_eq_true h6, decide_eq_false (by omega), decide_eq_false (by omega)]; rfl
  ·rw [decide_eq_false h6, decide_eq_true (by omega)]; rfl
 ·rename_i h5
  refine hk.finB ?_
  rw [hr0, decide_eq_true (show n < -w by omega)]; simp
theorem rall_spec (l : List Int) (d : Int) (h : Heap) (h0 : 8 ≤ d) (h1 : d ≤ 26) (hl : l.length ≤ 9223372036854775807) : Does PP 55 [LI l, I d] h (Is (.bool (allP (lacksP d) l)) h) := by
 have hm := fun n h => rhas_spec d n h h0 h1
 obtain ⟨g, hg⟩ : ∃ g, g = lacksP d := ⟨_, rfl⟩
 obtain ⟨g', hg'⟩ : ∃ f : Int → Bool, ∀ n, f n = !g n := ⟨_, fun _ => rfl⟩
 simp only [← hg, ← hg'] at hm
 rw [← hg]
 clear hg
 obtain ⟨r, hr⟩ : ∃ u, u = allP g l := ⟨_, rfl⟩
 rw [← hr]
 have hno : ∀ i, i < l.length → g' (l.getD i 0) = false → r = false := fun i hi h => by
  rw [hr, Bool.eq_false_iff, ne_eq, allP_iff]
  intro h2
  rw [hg', h2 i hi] at h; cases h
 have hyes : (∀ i, i < l.length → g' (l.getD i 0) = true) → r = true := fun h => by
  rw [hr, allP_iff]
  intro j hj
  have := h j hj
  rw [hg', Bool.not_eq_true'] at this
  exact this
 clear hr hg'
 refine wlk Tryz.f55 ?_
 unhygienic intros
 have hln := hk.lnI_eq l
 have hnn := hk.lnI_nn l
 have hmx := hk.lnI_le l 9223372036854775807 (by omega)
 have hgl := hk.gtI_eq l
 have hno : ∀ i : Int, 0 ≤ i → i < lnI l → g' (gtI l i) = false → r = false := fun i a b c => hno i.toNat (by omega) (by rw [← hgl]; exact c)
 have hyes : (∀ j, j < (lnI l).toNat → ∀ i : Int, i.toNat = j → 0 ≤ i → g' (gtI l i) = true) → r = true := fun h => hyes (fun i hi => by
  have := h i (by omega) i (by omega) (by omega)
  rw [hgl, Int.toNat_natCast] at this
  exact this)
 clear hgl hln
 obtain ⟨n, hn⟩ : ∃ n, n = lnI l := ⟨_, rfl⟩
 rw [← hn] at hnn hmx hyes
 simp only [← hn] at hno
 (conv => cbv)
 rw [← hn]
 refine hk.loopI (loop_rule (α := Int) (fun i => [(0, .ls (.il .i64 l) .any), (1, .int .i64 d), (4, .bool false), (7, .int .i64 n), (8, .int .i64 i)]) (fun i => h)
  (fun i => 0 ≤ i ∧ i ≤ n ∧ ∀ j, j < i.toNat → ∀ i : Int, i.toNat = j → 0 ≤ i → g' (gtI l i) = true) (fun i => (n - i).toNat) 0 ⟨by omega, by omega, upto_zero⟩ ?_ ?_)
 ·exact ghT
 intro i ⟨hi, hi2, hi3⟩ Q' hb hx hr
 (conv => cbv)
 refine hk.brLss (fun h2 => ?_) (fun h2 => ?_)
 ·have hno := hno i hi h2
  obtain ⟨x, hx0⟩ : ∃ x, x = gtI l i := ⟨_, rfl⟩
  obtain ⟨b, hb0⟩ : ∃ b, b = g' x := ⟨_, rfl⟩
  have hm := hm x
  have hst : b = true → ∀ i' : Int, i'.toNat = i.toNat → 0 ≤ i' → g' (gtI l i') = true := fun e i' a b => by rw [show i' = i by omega, ← hx0, ← hb0, e]
  rw [← hx0, ← hb0] at hno
  simp only [← hb0] at hm
  (conv => cbv)
  try rw [← hn]
  refine hk.idxI hi h2 ?_
  (conv => cbv)
  try rw [← hx0]
  cases b with
  | false =>
    have := hno rfl
    subst this
    repeat' (first | assumption | ((first | refine hr _ ?_ | rw [← hx0] | refine stp ?_ | refine stpB (fun _ => ?_) (fun _ => ?_)) <;> (conv => cbv)) | exact stpF | fail)
  | true =>
    repeat' (first | assumption | ((first | rw [← hx0] | refine stp ?_ | refine stpB (fun _ => ?_) (fun _ => ?_)) <;> (conv => cbv)) | exact stpF | fail)
    refine hb (i + 1) _ ⟨by omega, by omega, upto_step hi hi3 (hst rfl)⟩ (by omega) ?_
    refine Gh.tm ?_
    repeat' (first | exact Holds.nil _ _ | refine Holds.cons (Wk.refl _ _) ?_ | refine Holds.cons (Wk.of_eq ?_) ?_)
    all_goals first
     | (rw [← hk.add64 i 1 (by omega) (by omega)]; rfl)
     | rfl
     | skip
 ·have : i = n := by omega
  subst this
  have := hyes hi3
  subst this
  refine hx _ _ ?_
  (conv => cbv)
  exact hk.fin1 rfl
end Go.Proofs.YtoeekjddeknmbaaGreat
