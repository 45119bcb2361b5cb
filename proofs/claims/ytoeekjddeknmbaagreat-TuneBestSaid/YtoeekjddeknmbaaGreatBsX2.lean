/-
  Contracts of functions of the program, proved over the abstract machine of the Al texts.
-/
import Derived.Test.YtoeekjddeknmbaaGreatBaseX
import Derived.Test.YtoeekjddeknmbaaGreatRkX
import Derived.Test.YtoeekjddeknmbaaGreatBsX1
set_option maxHeartbeats 4000000
set_option maxRecDepth 20000
set_option linter.unusedSimpArgs false
set_option linter.unusedVariables false
open Go Go.AL
namespace Go.Proofs.YtoeekjddeknmbaaGreat
theorem take_getD (l : List Int) (n i : Nat) (h : i < n) : (l.take n).getD i 0 = l.getD i 0 := by
 rw [List.getD_eq_getElem?_getD, List.getElem?_take, if_pos h, ← List.getD_eq_getElem?_getD]
def upAt (a : List Int) (k : Int) (j : Nat) : Int := W (a.getD j 0 + rnd (W (k * a.getD (a.length - 1 - j) 0)))
def upL (a : List Int) (k : Int) : List Int := (List.range a.length).map (upAt a k) ++ [k]
theorem upL_len (a : List Int) (k : Int) : (upL a k).length = a.length + 1 := by simp [upL]
def cf (l : List Int) : Nat → List Int
 | 0 => []
 | n + 1 => upL (cf l n) (refl_ (n : Nat) (l.getD n 0))
theorem cf_len (l : List Int) : ∀ n, (cf l n).length = n
 | 0 => rfl
 | n + 1 => by simp [cf, upL_len, cf_len l n]
def prS (cs past : List Int) : Nat → Int
 | 0 => 0
 | j + 1 => W (prS cs past j + W (cs.getD j 0 * past.getD (past.length - 1 - j) 0))
def pred (cs past : List Int) : Int := W (0 - rnd (prS cs past (min cs.length past.length)))
theorem rpredict_spec (cs past : List Int) (h : Heap) (hc : cs.length ≤ 1000) (hp : past.length ≤ 1024) : Does PP 98 [LI cs, LI past] h (Is (I (pred cs past)) h) := by
 obtain ⟨n, hn⟩ : ∃ n : Int, n = (cs.length : Nat) := ⟨_, rfl⟩
 obtain ⟨m, hm⟩ : ∃ n : Int, n = (past.length : Nat) := ⟨_, rfl⟩
 obtain ⟨S, hS⟩ : ∃ S : Int → Int, ∀ i, S i = prS cs past (min i.toNat past.length) := ⟨_, fun _ => rfl⟩
 obtain ⟨r, hr⟩ : ∃ r, r = pred cs past := ⟨_, rfl⟩
 obtain ⟨q, hq⟩ : ∃ r, r = rnd (S n) := ⟨_, rfl⟩
 have hrq : r = W (0 - q) := by rw [hr, pred, hq, hS, hn]; rfl
 rw [← hr]
 have h0 : S 0 = 0 := by rw [hS]; simp [prS]
 have hlt : ∀ i : Int, 0 ≤ i → i < n → i < m → S (i + 1) = W (S i + W (cs.getD i.toNat 0 * past.getD (m - 1 - i).toNat 0)) := fun i a b c => by
  rw [hS, hS, show min (i + 1).toNat past.length = i.toNat + 1 by omega, show min i.toNat past.length = i.toNat by omega]
  simp only [prS]
  rw [show past.length - 1 - i.toNat = (m - 1 - i).toNat by omega]
 have hge : ∀ i : Int, 0 ≤ i → m ≤ i → S (i + 1) = S i := fun i a c => by
  rw [hS, hS, show min (i + 1).toNat past.length = past.length by omega, show min i.toNat past.length = past.length by omega]
 have hrd := fun h => rround_spec (S n) h
 simp only [← hq] at hrd
 have hnm : n ≤ 1000 ∧ 0 ≤ n ∧ m ≤ 1024 ∧ 0 ≤ m := by omega
 clear hS hr hq
 refine wlk Tryz.f98 ?_
 unhygienic intros
 have hlc : lnI cs = n := by rw [hk.lnI_eq]; omega
 have hlp : lnI past = m := by rw [hk.lnI_eq]; omega
 have hst : ∀ i j : Int, 0 ≤ i → i < n → i < m → j = m - 1 - i → i2 .add .i64 (S i) (i2 .mul .i64 (gtI cs i) (gtI past j)) = S (i + 1) := fun i j a b c d => by
  rw [hlt i a b c, hk.i2_add, hk.i2_mul, hk.gtI_eq, hk.gtI_eq, d]
 have hng : u1 .neg .i64 q = r := by rw [hk.u1_neg, hrq]
 clear hn hm hlt
 (conv => cbv)
 rw [hlc]
 refine hk.loopI (loop_rule (α := Int) (fun i => [(0, .ls (.il .i64 cs) .any), (1, .ls (.il .i64 past) .any), (4, .int .i64 0), (5, .int .i64 (S i)), (8, .int .i64 n), (9, .int .i64 i)]) (fun _ => h)
  (fun i => 0 ≤ i ∧ i ≤ n) (fun i => (n - i).toNat) 0 ⟨by omega, by omega⟩ ?_ ?_)
 ·rw [h0]
  exact ghT
 intro i ⟨hi, hi2⟩ Q' hb hx hr
 (conv => cbv)
 refine hk.brLss (fun h2 => ?_) (fun h2 => ?_)
 ·obtain ⟨m1, hm1⟩ : ∃ x, x = m - 1 := ⟨_, rfl⟩
  obtain ⟨j, hj⟩ : ∃ x, x = m1 - i := ⟨_, rfl⟩
  have hs1 : i2 .sub .i64 m 1 = m1 := by rw [hm1]; exact hk.sub64 _ _ (by omega) (by omega)
  have hs2 : i2 .sub .i64 m1 i = j := by rw [hj]; exact hk.sub64 _ _ (by omega) (by omega)
  (conv => cbv)
  try rw [hlp]
  refine hk.brLss (fun h3 => ?_) (fun h3 => ?_)
  ·have hst := hst i j hi h2 h3 (by omega)
   (conv => cbv)
   try rw [hlc]
   try rw [hlp]
   rw [hs1, hs2]
   repeat' (first | assumption | ((first | refine stp ?_ | refine stpB (fun _ => ?_) (fun _ => ?_)) <;> (conv => cbv)) | exact stpF | fail)
   rw [hst]
   refine hb (i + 1) _ ⟨by omega, by omega⟩ (by omega) ?_
   refine Gh.tm ?_
   repeat' (first | exact Holds.nil _ _ | refine Holds.cons (Wk.refl _ _) ?_ | refine Holds.cons (Wk.of_eq ?_) ?_)
   all_goals first
    | (rw [← hk.add64 i 1 (by omega) (by omega)]; rfl)
    | rfl
    | skip
  ·have hge := hge i hi (by omega)
   (conv => cbv)
   rw [← hge]
   refine hb (i + 1) _ ⟨by omega, by omega⟩ (by omega) ?_
   refine Gh.tm ?_
   repeat' (first | exact Holds.nil _ _ | refine Holds.cons (Wk.refl _ _) ?_ | refine Holds.cons (Wk.of_eq ?_) ?_)
   all_goals first
    | (rw [← hk.add64 i 1 (by omega) (by omega)]; rfl)
    | rfl
    | skip
 ·have : i = n := by omega
  subst this
  refine hx _ _ ?_
  (conv => cbv)
  refine hk.callA (hrd _) ?_
  (conv => cbv)
  rw [hng]
  exact hk.fin1 rfl
theorem lpredict_spec (cs past : List Int) (h : Heap) (hc : cs.length ≤ 1000) (hp : past.length ≤ 1024) : Does PP 125 [LI cs, LI past] h (Is (I (pred cs past)) h) := by
 obtain ⟨n, hn⟩ : ∃ n : Int, n = (min cs.length past.length : Nat) := ⟨_, rfl⟩
 obtain ⟨m, hm⟩ : ∃ n : Int, n = (past.length : Nat) := ⟨_, rfl⟩
 obtain ⟨c, hcl⟩ : ∃ n : Int, n = (cs.length : Nat) := ⟨_, rfl⟩
 obtain ⟨S, hS⟩ : ∃ S : Int → Int, ∀ i, S i = prS cs past i.toNat := ⟨_, fun _ => rfl⟩
 obtain ⟨r, hr⟩ : ∃ r, r = pred cs past := ⟨_, rfl⟩
 obtain ⟨q, hq⟩ : ∃ r, r = rnd (S n) := ⟨_, rfl⟩
 have hrq : r = W (0 - q) := by rw [hr, pred, hq, hS, hn]; rfl
 rw [← hr]
 have h0 : S 0 = 0 := by rw [hS]; simp [prS]
 obtain ⟨ct, hct⟩ : ∃ ct, ct = cs.take n.toNat := ⟨_, rfl⟩
 have hctl : ct.length = n.toNat := by rw [hct, List.length_take]; omega
 have hlt : ∀ i : Int, 0 ≤ i → i < n → S (i + 1) = W (S i + W (ct.getD i.toNat 0 * past.getD (m - 1 - i).toNat 0)) := fun i a b => by
  rw [hS, hS, show (i + 1).toNat = i.toNat + 1 by omega]
  simp only [prS]
  rw [show past.length - 1 - i.toNat = (m - 1 - i).toNat by omega, hct, take_getD _ _ _ (by omega)]
 have hrd := fun h => lround_spec (S n) h
 simp only [← hq] at hrd
 have hnm : n ≤ 1000 ∧ 0 ≤ n ∧ m ≤ 1024 ∧ 0 ≤ m ∧ n ≤ m ∧ n ≤ c ∧ c ≤ 1000 ∧ n = (if m < c then m else c) := ⟨by omega, by omega, by omega, by omega, by omega, by omega, by omega, by split <;> omega⟩
 clear hS hr hq
 refine wlk Tryz.f125 ?_
 unhygienic intros
 have hlc : lnI cs = c := by rw [hk.lnI_eq]; omega
 have hlp : lnI past = m := by rw [hk.lnI_eq]; omega
 have hmn : mn c m = n := by rw [hk.mn_eq]; exact hnm.2.2.2.2.2.2.2.symm
 have hsb : sbI cs 0 n = ct := by rw [hk.sbI_eq, hct]; simp
 have hlt2 : lnI ct = n := by rw [hk.lnI_eq]; omega
 have hst : ∀ i j : Int, 0 ≤ i → i < n → j = m - 1 - i → i2 .add .i64 (S i) (i2 .mul .i64 (gtI ct i) (gtI past j)) = S (i + 1) := fun i j a b d => by
  rw [hlt i a b, hk.i2_add, hk.i2_mul, hk.gtI_eq, hk.gtI_eq, d]
 have hng : u1 .neg .i64 q = r := by rw [hk.u1_neg, hrq]
 clear hn hm hlt hct hctl hcl
 (conv => cbv)
 rw [hlc, hlp, hmn]
 refine hk.needI (by simp only [rNd]; omega) ?_
 (conv => cbv)
 try rw [hlc, hlp]
 try rw [hmn]
 rw [hsb, hlt2]
 refine hk.loopI (loop_rule (α := Int) (fun i => [(1, .ls (.il .i64 past) .any), (4, .int .i64 0), (5, .int .i64 (S i)), (14, .ls (.il .i64 ct) .any), (15, .int .i64 n), (16, .int .i64 i)]) (fun _ => h)
  (fun i => 0 ≤ i ∧ i ≤ n) (fun i => (n - i).toNat) 0 ⟨by omega, by omega⟩ ?_ ?_)
 ·rw [h0]
  exact ghT
 intro i ⟨hi, hi2⟩ Q' hb hx hr
 (conv => cbv)
 refine hk.brLss (fun h2 => ?_) (fun h2 => ?_)
 ·obtain ⟨m1, hm1⟩ : ∃ x, x = m - 1 := ⟨_, rfl⟩
  obtain ⟨j, hj⟩ : ∃ x, x = m1 - i := ⟨_, rfl⟩
  have hs1 : i2 .sub .i64 m 1 = m1 := by rw [hm1]; exact hk.sub64 _ _ (by omega) (by omega)
  have hs2 : i2 .sub .i64 m1 i = j := by rw [hj]; exact hk.sub64 _ _ (by omega) (by omega)
  have hst := hst i j hi h2 (by omega)
  (conv => cbv)
  try rw [hlt2]
  try rw [hlp]
  refine hk.idxI hi h2 ?_
  (conv => cbv)
  try rw [hlp]
  rw [hs1, hs2]
  repeat' (first | assumption | ((first | refine stp ?_ | refine stpB (fun _ => ?_) (fun _ => ?_)) <;> (conv => cbv)) | exact stpF | fail)
  rw [hst]
  refine hb (i + 1) _ ⟨by omega, by omega⟩ (by omega) ?_
  refine Gh.tm ?_
  repeat' (first | exact Holds.nil _ _ | refine Holds.cons (Wk.refl _ _) ?_ | refine Holds.cons (Wk.of_eq ?_) ?_)
  all_goals first
   | (rw [← hk.add64 i 1 (by omega) (by omega)]; rfl)
   | rfl
   | skip
 ·have : i = n := by omega
  subst this
  refine hx _ _ ?_
  (conv => cbv)
  refine hk.callA (hrd _) ?_
  (conv => cbv)
  rw [hng]
  exact hk.fin1 rfl
theorem upL_get (a : List Int) (k : Int) (j : Nat) (h : j < a.length) : (upL a k).getD j 0 = upAt a k j := by
 unfold upL
 rw [List.getD_eq_getElem?_getD, List.getElem?_append_left (by simpa using h)]
 simp [h]
theorem upL_last (a : List Int) (k : Int) : (upL a k).getD a.length 0 = k := by
 unfold upL
 rw [List.getD_eq_getElem?_getD, List.getElem?_append_right (by simp)]
 simp
def upR (a : List Int) (k : Int) (j : Nat) : List Int := (upL a k).take j ++ List.replicate (a.length + 1 - j) 0
theorem upR_len (a : List Int) (k : Int) (j : Nat) (h : j ≤ a.length + 1) : (upR a k j).length = a.length + 1 := by
 simp [upR, upL_len]; omega
theorem upR_step (a : List Int) (k : Int) (j : Nat) (h : j ≤ a.length) : (upR a k j).set j ((upL a k).getD j 0) = upR a k (j + 1) := by
 refine list_ext (by rw [List.length_set, upR_len _ _ _ (by omega), upR_len _ _ _ (by omega)]) fun i hi => ?_
 rw [List.length_set, upR_len _ _ _ (by omega)] at hi
 have hu := upL_len a k
 rw [List.getD_eq_getElem?_getD, List.getElem?_set]
 by_cases e : j = i
 ·subst e
  rw [if_pos rfl, if_pos (by rw [upR_len _ _ _ (by omega)]; omega)]
  simp only [Option.getD_some, upR, List.getD_eq_getElem?_getD]
  rw [List.getElem?_append_left (by rw [List.length_take]; omega), List.getElem?_take, if_pos (by omega)]
 ·rw [if_neg e]
  simp only [upR, List.getD_eq_getElem?_getD]
  rw [List.getElem?_append, List.getElem?_append]
  by_cases h2 : i < j
  ·rw [if_pos (by rw [List.length_take]; omega), if_pos (by rw [List.length_take]; omega), List.getElem?_take, List.getElem?_take, if_pos h2, if_pos (by omega)]
  ·rw [if_neg (by rw [List.length_take]; omega), if_neg (by rw [List.length_take]; omega), List.getElem?_replicate, List.getElem?_replicate]
   rw [if_pos (by rw [List.length_take]; omega), if_pos (by rw [List.length_take]; omega)]
theorem up_spec (a : List Int) (k : Int) (h : Heap) (hl : a.length ≤ 1000) : Does PP 134 [LI a, I k] h (Is (LI (upL a k)) h) := by
 obtain ⟨n, hn⟩ : ∃ n : Int, n = (a.length : Nat) := ⟨_, rfl⟩
 obtain ⟨n1, hn1⟩ : ∃ n1, n1 = n + 1 := ⟨_, rfl⟩
 obtain ⟨R, hR⟩ : ∃ R : Int → List Int, ∀ j, R j = upR a k j.toNat := ⟨_, fun _ => rfl⟩
 obtain ⟨U, hU⟩ : ∃ U, U = upL a k := ⟨_, rfl⟩
 have hUl : U.length = n1.toNat := by rw [hU, upL_len]; omega
 have hRe : R n1 = U := by rw [hR, upR, ← hU, List.take_of_length_le (by omega), show a.length + 1 - n1.toNat = 0 by omega]; simp
 have hR0 : List.replicate n1.toNat 0 = R 0 := by rw [hR, upR, show n1.toNat = a.length + 1 by omega]; simp
 have hst : ∀ j : Int, 0 ≤ j → j < n → (R j).set j.toNat (W (a.getD j.toNat 0 + rnd (W (k * a.getD (n - 1 - j).toNat 0)))) = R (j + 1) := fun j h0 h1 => by
  rw [hR, hR, show (j + 1).toNat = j.toNat + 1 by omega, ← upR_step a k j.toNat (by omega), upL_get _ _ _ (by omega), upAt, show a.length - 1 - j.toNat = (n - 1 - j).toNat by omega]
 have hlast : (R n).set n.toNat k = R n1 := by
  rw [hR, hR, show n1.toNat = n.toNat + 1 by omega, ← upR_step a k n.toNat (by omega), show n.toNat = a.length by omega, upL_last]
 have hsub2 : rSub U 0 n1 = U := by
  unfold rSub
  simp only [Int.toNat_zero, List.drop_zero]
  rw [List.take_of_length_le (by omega)]
 have hrd := fun p h => lround_spec p h
 obtain ⟨rn', hrn⟩ : ∃ f : Int → Int, f = rnd := ⟨_, rfl⟩
 rw [← hrn] at hst
 simp only [← hrn] at hrd
 have hnr : 0 ≤ n ∧ n ≤ 1000 := by omega
 rw [← hU]
 refine pure0 ?_ rfl rfl h
 refine wlk Tryz.f134 ?_
 unhygienic intros
 have hln : lnI a = n := by rw [hk.lnI_eq]; omega
 have hadd : i2 .add .i64 n 1 = n1 := by rw [hn1]; exact hk.add64 _ _ (by omega) (by omega)
 have hrp : rpI n1 0 = R 0 := by rw [hk.rpI_eq]; exact hR0
 have hst : ∀ j d : Int, 0 ≤ j → j < n → d = n - 1 - j → stI (R j) j (i2 .add .i64 (gtI a j) (rn' (i2 .mul .i64 k (gtI a d)))) = R (j + 1) := fun j d h0 h1 h2 => by
  rw [hk.stI_eq, hk.i2_add, hk.i2_mul, hk.gtI_eq, hk.gtI_eq, h2]; exact hst j h0 h1
 have hlast : stI (R n) n k = U := by rw [hk.stI_eq, hlast, hRe]
 clear hn hR hU hR0 hrn hRe
 (conv => cbv)
 rw [hln, hadd]
 refine hk.needI (by first | (simp only [rNd, hk.ad_eq, hk.sb_eq]; omega) | (simp [rNd, hk.ad_eq, hk.sb_eq]; omega)) ?_
 (conv => cbv)
 rw [hrp]
 try rw [hln]
 refine hk.loopI (loop_rule (α := Int) (fun j => [(0, .ls (.il .i64 a) .any), (1, .int .i64 k), (4, .ls .nl .nil), (5, .sl 0 0 0 n1), (12, .ls (.il .i64 a) .any), (13, .int .i64 n), (14, .int .i64 j)]) (fun j => [.rw 0 (.il .i64 (R j))])
  (fun j => 0 ≤ j ∧ j ≤ n) (fun j => (n - j).toNat) 0 ⟨by omega, by omega⟩ ?_ ?_)
 ·exact ghT
 intro j ⟨hj, hj2⟩ Q' hb hx hr
 (conv => cbv)
 refine hk.brLss (fun h2 => ?_) (fun h2 => ?_)
 ·obtain ⟨m1, hm1⟩ : ∃ x, x = n - 1 := ⟨_, rfl⟩
  obtain ⟨d, hd⟩ : ∃ x, x = m1 - j := ⟨_, rfl⟩
  have hs1 : i2 .sub .i64 n 1 = m1 := by rw [hm1]; exact hk.sub64 _ _ (by omega) (by omega)
  have hs2 : i2 .sub .i64 m1 j = d := by rw [hd]; exact hk.sub64 _ _ (by omega) (by omega)
  have hst := hst j d hj h2 (by omega)
  (conv => cbv)
  try rw [hln]
  refine hk.idxI hj h2 ?_
  (conv => cbv)
  try rw [hln]
  rw [hs1, hs2]
  repeat' (first | assumption | ((first | refine hk.callA (hrd _ _) ?_ | refine hk.calldA (hrd _) ?_ | refine stp ?_ | refine stpB (fun _ => ?_) (fun _ => ?_)) <;> (conv => cbv)) | exact stpF | fail)
  rw [hst]
  refine hb (j + 1) _ ⟨by omega, by omega⟩ (by omega) ?_
  refine Gh.tm ?_
  repeat' (first | exact Holds.nil _ _ | refine Holds.cons (Wk.refl _ _) ?_ | refine Holds.cons (Wk.of_eq ?_) ?_)
  all_goals first
   | (rw [← hk.add64 j 1 (by omega) (by omega)]; rfl)
   | rfl
   | skip
 ·have : j = n := by omega
  subst this
  refine hx _ _ ?_
  (conv => cbv)
  try rw [hln]
  repeat' (first | assumption | ((first | refine stp ?_ | refine stpB (fun _ => ?_) (fun _ => ?_)) <;> (conv => cbv)) | exact stpF | fail)
  rw [hlast]
  refine hk.finI (fin_rz 0 0 (.il .i64 U) rfl rfl ?_)
  have e : rz 0 0 (.il .i64 U) (.sl 0 0 0 n1) = LI U := by
   rw [rz_sl]
   show AVal.ls (.il .i64 (rSub U 0 n1)) .any = _
   rw [hsub2]
  show rFin _ _ (rz 0 0 (.il .i64 U) (.sl 0 0 0 n1)) _
  rw [e]
  exact fin_low (.refl _ _) rfl rfl ⟨rfl, rfl⟩
def IxOK (l : List Int) : Prop := l.length ≤ 16 ∧ ∀ i, i < l.length → -64 ≤ l.getD i 0 ∧ l.getD i 0 ≤ 63
theorem goodIx_iff (l : List Int) : goodIx l = true ↔ IxOK l := by
 unfold goodIx IxOK
 rw [Bool.and_eq_true, decide_eq_true_eq, allP_iff]
 refine and_congr_right fun _ => ?_
 constructor
 ·intro h i hi
  have := h i hi
  rw [ixP, Bool.or_eq_false_iff, decide_eq_false_iff_not, decide_eq_false_iff_not] at this
  omega
 ·intro h i hi
  have := h i hi
  rw [ixP, Bool.or_eq_false_iff, decide_eq_false_iff_not, decide_eq_false_iff_not]
  omega
theorem rcoefs_spec (l : List Int) (h : Heap) (hx : IxOK l) : Does PP 99 [LI l] h (Is (LI (cf l l.length)) h) := by
 obtain ⟨n, hn⟩ : ∃ n : Int, n = (l.length : Nat) := ⟨_, rfl⟩
 obtain ⟨A, hA⟩ : ∃ A : Int → List Int, ∀ i, A i = cf l i.toNat := ⟨_, fun _ => rfl⟩
 obtain ⟨K, hK⟩ : ∃ K : Int → Int, ∀ i, K i = refl_ i (l.getD i.toNat 0) := ⟨_, fun _ => rfl⟩
 have hAl : ∀ i : Int, (A i).length = i.toNat := fun i => by rw [hA, cf_len]
 have hAs : ∀ i : Int, 0 ≤ i → A (i + 1) = upL (A i) (K i) := fun i h => by
  rw [hA, hA, hK, show (i + 1).toNat = i.toNat + 1 by omega]
  simp only [cf]
  rw [show ((i.toNat : Nat) : Int) = i by omega]
 have hrf : ∀ (i : Int) h, 0 ≤ i → i < n → Does PP 52 [I i, I (l.getD i.toNat 0)] h (Is (I (K i)) h) := fun i h h0 h1 => by
  obtain ⟨b0, b1⟩ := hx.2 i.toNat (by omega)
  rw [hK]; exact rrefl_spec i _ h b0 b1
 have hn16 : 0 ≤ n ∧ n ≤ 16 := by have := hx.1; omega
 have hAn : cf l l.length = A n := by rw [hA, hn]; simp
 have hA0 : A 0 = [] := by rw [hA]; rfl
 rw [hAn]
 have hrd := fun p h => rround_spec p h
 obtain ⟨rn', hrn⟩ : ∃ f : Int → Int, f = rnd := ⟨_, rfl⟩
 simp only [← hrn] at hrd
 obtain ⟨U, hU⟩ : ∃ U : Int → Int → Int, ∀ i j, U i j = upAt (A i) (K i) j.toNat := ⟨_, fun _ _ => rfl⟩
 have hUv : ∀ i j : Int, 0 ≤ i → 0 ≤ j → j < i → U i j = W ((A i).getD j.toNat 0 + rn' (W (K i * (A i).getD (i - 1 - j).toNat 0))) := fun i j a b c => by
  rw [hU, upAt, hrn, hAl, show i.toNat - 1 - j.toNat = (i - 1 - j).toNat by omega]
 obtain ⟨B, hB⟩ : ∃ B : Int → Int → List Int, ∀ i j, B i j = (upL (A i) (K i)).take j.toNat := ⟨_, fun _ _ => rfl⟩
 have hB0 : ∀ i, B i 0 = [] := fun i => by rw [hB]; rfl
 have hBl : ∀ i j : Int, 0 ≤ i → 0 ≤ j → j ≤ i → (B i j).length = j.toNat := fun i j a b c => by rw [hB, List.length_take, upL_len, hAl]; omega
 have hBs : ∀ i j : Int, 0 ≤ i → 0 ≤ j → j < i → B i j ++ [U i j] = B i (j + 1) := fun i j a b c => by
  rw [hB, hB, hU, show (j + 1).toNat = j.toNat + 1 by omega, List.take_add_one, ← upL_get _ _ _ (by rw [hAl]; omega)]
  simp [List.getD, upL_len, hAl, show j.toNat < i.toNat + 1 by omega]
 have hBe : ∀ i : Int, 0 ≤ i → B i i ++ [K i] = A (i + 1) := fun i a => by
  rw [hAs i a, hB, upL, List.take_append_of_le_length (by simp [hAl])]
  rw [List.take_of_length_le (by simp [hAl])]
 have hlen : l.length = n.toNat := by omega
 clear hA hK hn hU hB hAs hrn hx hAn
 refine pure0 ?_ rfl rfl h
 refine wlk Tryz.f99 ?_
 unhygienic intros
 have hln : lnI l = n := by rw [hk.lnI_eq]; omega
 have hgl := hk.gtI_eq l
 have hl1 : ∀ x, lnI [x] = 1 := fun x => hk.lnI_eq _
 have hlA : ∀ i : Int, 0 ≤ i → lnI (A i) = i := fun i h => by rw [hk.lnI_eq, hAl]; omega
 (conv => cbv)
 rw [hln]
 refine hk.loopI (loop_rule (α := Int) (fun i => [(0, .ls (.il .i64 l) .any), (2, .ls .nl .nil), (3, .ls (.il .i64 (A i)) .any), (9, .int .i64 n), (10, .int .i64 i)]) (fun _ => [])
  (fun i => 0 ≤ i ∧ i ≤ n) (fun i => (n - i).toNat) 0 ⟨by omega, by omega⟩ ?_ ?_)
 ·rw [hA0]
  exact Gh.tm (by repeat (first | exact Holds.nil _ _ | refine Holds.cons (Wk.refl _ _) ?_ | refine Holds.cons (Wk.nilL _ _) ?_))
 intro i ⟨hi, hi2⟩ Q' hb hx hr
 have hlA := hlA i hi
 (conv => cbv)
 refine hk.brLss (fun h2 => ?_) (fun h2 => ?_)
 ·have hrf : ∀ h, Does PP 52 [I i, I (gtI l i)] h (Is (I (K i)) h) := fun h => by rw [hgl]; exact hrf i h hi h2
  obtain ⟨x, hx0⟩ : ∃ x, x = gtI l i := ⟨_, rfl⟩
  rw [← hx0] at hrf
  have hgA := hk.gtI_eq (A i)
  have hUv : ∀ j d : Int, 0 ≤ j → j < i → d = i - 1 - j → i2 .add .i64 (gtI (A i) j) (rn' (i2 .mul .i64 (K i) (gtI (A i) d))) = U i j := fun j d a b c => by
   rw [hUv i j hi a b, hk.i2_add, hk.i2_mul, hgA, hgA, c]
  have hap : ∀ j : Int, 0 ≤ j → j < i → apI (B i j) [U i j] = B i (j + 1) := fun j a b => by rw [hk.apI_eq]; exact hBs i j hi a b
  have hape : apI (B i i) [K i] = A (i + 1) := by rw [hk.apI_eq]; exact hBe i hi
  have hlB : ∀ j : Int, 0 ≤ j → j ≤ i → lnI (B i j) = j := fun j a b => by rw [hk.lnI_eq, hBl i j hi a b]; omega
  (conv => cbv)
  try rw [hln]
  refine hk.idxI hi h2 ?_
  (conv => cbv)
  rw [← hx0]
  repeat' (first | assumption | ((first | refine hk.callA (hrf _) ?_ | refine stp ?_ | refine stpB (fun _ => ?_) (fun _ => ?_)) <;> (conv => cbv)) | exact stpF | fail)
  try rw [hlA]
  refine hk.loopI (loop_rule (α := Int) (fun j => [(0, .ls (.il .i64 l) .any), (2, .ls .nl .nil), (3, .ls (.il .i64 (A i)) .any), (5, .int .i64 (K i)), (6, .ls (.il .i64 (B i j)) (.tok 0 0)), (9, .int .i64 n), (10, .int .i64 i), (20, .int .i64 i), (21, .int .i64 j)]) (fun _ => [.tok 0])
   (fun j => 0 ≤ j ∧ j ≤ i) (fun j => (i - j).toNat) 0 ⟨by omega, by omega⟩ ?_ ?_)
  ·rw [hB0]
   refine Gh.trans (Gh.thaw 6 (.il .i64 []) rfl trivial rfl) (Gh.tm ?_)
   repeat' (first | exact Holds.nil _ _ | refine Holds.cons (Wk.refl _ _) ?_)
  intro j ⟨hj, hj2⟩ Q2 hb2 hx2 hr2
  have hlBj := hlB j hj hj2
  (conv => cbv)
  refine hk.brLss (fun h3 => ?_) (fun h3 => ?_)
  ·obtain ⟨m1, hm1⟩ : ∃ x, x = i - 1 := ⟨_, rfl⟩
   obtain ⟨d, hd⟩ : ∃ x, x = m1 - j := ⟨_, rfl⟩
   have hs1 : i2 .sub .i64 i 1 = m1 := by rw [hm1]; exact hk.sub64 _ _ (by omega) (by omega)
   have hs2 : i2 .sub .i64 m1 j = d := by rw [hd]; exact hk.sub64 _ _ (by omega) (by omega)
   have hUv := hUv j d hj h3 (by omega)
   have hap := hap j hj h3
   have hrd : ∀ h, Does PP 54 [I (i2 .mul .i64 (K i) (gtI (A i) d))] h (Is (I (rn' (i2 .mul .i64 (K i) (gtI (A i) d)))) h) := fun h => hrd _ h
   (conv => cbv)
   try rw [hlA]
   refine hk.idxI hj h3 ?_
   (conv => cbv)
   try rw [hlA]
   rw [hs1, hs2]
   repeat' (first | assumption | ((first | refine stp ?_ | refine stpB (fun _ => ?_) (fun _ => ?_)) <;> (conv => cbv)) | exact stpF | fail)
   rw [hlBj, hl1, hUv, hap]
   refine hk.needI (by first | (simp only [rNd, hk.ad_eq, hk.sb_eq]; omega) | (simp [rNd, hk.ad_eq, hk.sb_eq]; omega)) ?_
   (conv => cbv)
   refine hb2 (j + 1) _ ⟨by omega, by omega⟩ (by omega) ?_
   refine Gh.retok 0 1 rfl (Nat.le_of_ble_eq_true rfl) ?_ rfl rfl
   repeat' (first | exact HoldsT.nil _ _ _ _ | refine HoldsT.tok rfl ?_ | refine HoldsT.cons (Wk.refl _ _) rfl ?_ | refine HoldsT.cons (Wk.of_eq ?_) rfl ?_)
   all_goals first
    | (rw [← hk.add64 j 1 (by omega) (by omega)]; rfl)
    | rfl
    | skip
  ·have : j = i := by omega
   subst this
   refine hx2 _ _ ?_
   (conv => cbv)
   rw [hlBj, hl1, hape]
   refine hk.needI (by first | (simp only [rNd, hk.ad_eq, hk.sb_eq]; omega) | (simp [rNd, hk.ad_eq, hk.sb_eq]; omega)) ?_
   (conv => cbv)
   refine hb (j + 1) _ ⟨by omega, by omega⟩ (by omega) ?_
   refine Gh.low 0 (Nat.le_of_ble_eq_true rfl) ?_ rfl rfl rfl
   repeat' (first | exact Holds.nil _ _ | refine Holds.cons (Wk.refl _ _) ?_ | refine Holds.cons (Wk.any _ _ _) ?_ | refine Holds.cons (Wk.of_eq ?_) ?_)
   all_goals first
    | (rw [← hk.add64 j 1 (by omega) (by omega)]; rfl)
    | rfl
    | skip
 ·have : i = n := by omega
  subst this
  refine hx _ _ ?_
  (conv => cbv)
  exact hk.fin1 rfl
theorem cf_take (l : List Int) (m : Nat) : ∀ n, n ≤ m → cf (l.take m) n = cf l n
 | 0, _ => rfl
 | n + 1, h => by
   simp only [cf]
   rw [cf_take l m n (by omega), take_getD _ _ _ (by omega)]
def fsv (l past : List Int) : Int := pred (cf l (min l.length past.length)) past
theorem rforesee_spec (l past : List Int) (h : Heap) (hx : IxOK l) (hp : past.length ≤ 1024) : Does PP 62 [LI l, LI past] h (Is (I (fsv l past)) h) := by
 obtain ⟨n, hn⟩ : ∃ n : Int, n = (l.length : Nat) := ⟨_, rfl⟩
 obtain ⟨m, hm⟩ : ∃ n : Int, n = (past.length : Nat) := ⟨_, rfl⟩
 obtain ⟨k, hk0⟩ : ∃ n : Int, n = (min l.length past.length : Nat) := ⟨_, rfl⟩
 have hx2 : IxOK (l.take k.toNat) := ⟨by rw [List.length_take]; have := hx.1; omega, fun i hi => by
  rw [List.length_take] at hi
  rw [take_getD _ _ _ (by omega)]; exact hx.2 i (by omega)⟩
 have hc := fun h => rcoefs_spec (l.take k.toNat) h hx2
 have hkl : (l.take k.toNat).length = k.toNat := by rw [List.length_take]; omega
 rw [hkl, cf_take _ _ _ (Nat.le_refl _)] at hc
 have hpr := fun h => rpredict_spec (cf l k.toNat) past h (by rw [cf_len]; have := hx.1; omega) hp
 have hv : fsv l past = pred (cf l k.toNat) past := by rw [fsv, hk0]; rfl
 rw [hv]
 obtain ⟨C, hC⟩ : ∃ C, C = cf l k.toNat := ⟨_, rfl⟩
 obtain ⟨V, hV⟩ : ∃ V, V = pred C past := ⟨_, rfl⟩
 simp only [← hC] at hpr hc
 simp only [← hV] at hpr
 rw [← hC, ← hV]
 have hkk : k = (if m < n then m else n) ∧ 0 ≤ k ∧ k ≤ n := ⟨by split <;> omega, by omega, by omega⟩
 refine wlk Tryz.f62 ?_
 unhygienic intros
 have hll : lnI l = n := by rw [hk.lnI_eq]; omega
 have hlp : lnI past = m := by rw [hk.lnI_eq]; omega
 have hmn : mn n m = k := by rw [hk.mn_eq]; exact hkk.1.symm
 have hsb : sbI l 0 k = l.take k.toNat := by rw [hk.sbI_eq]; simp
 obtain ⟨lt, hlt⟩ : ∃ lt, lt = l.take k.toNat := ⟨_, rfl⟩
 rw [← hlt] at hsb
 simp only [← hlt] at hc
 clear hV hC hx2 hx hn hm hk0 hkl hv hlt
 (conv => cbv)
 rw [hll, hlp, hmn]
 refine hk.needI (by simp only [rNd]; omega) ?_
 (conv => cbv)
 try rw [hll, hlp]
 try rw [hmn]
 try rw [hsb]
 repeat' (first | assumption | ((first | refine hk.callA (hc _) ?_ | refine hk.callA (hpr _) ?_ | refine stp ?_ | refine stpB (fun _ => ?_) (fun _ => ?_)) <;> (conv => cbv)) | exact stpF | fail)
def bankL (l : List Int) : List AVal := (List.range (l.length + 1)).map fun k => LI (cf l k)
theorem bankL_get (l : List Int) (k : Nat) (h : k ≤ l.length) : (bankL l).getD k .junk = LI (cf l k) := by
 unfold bankL
 rw [List.getD_eq_getElem?_getD, List.getElem?_map, List.getElem?_range (by omega)]
 rfl
theorem bforesee_spec (l past : List Int) (h : Heap) (hx : IxOK l) (hp : past.length ≤ 1024) : Does PP 107 [.agg [.ls (.gl (.li .i64) (bankL l)) .any], LI past] h (Is (I (fsv l past)) h) := by
 obtain ⟨n, hn⟩ : ∃ n : Int, n = (l.length : Nat) := ⟨_, rfl⟩
 obtain ⟨m, hm⟩ : ∃ n : Int, n = (past.length : Nat) := ⟨_, rfl⟩
 obtain ⟨k, hk0⟩ : ∃ n : Int, n = (min l.length past.length : Nat) := ⟨_, rfl⟩
 have hpr := fun h => lpredict_spec (cf l k.toNat) past h (by rw [cf_len]; have := hx.1; omega) hp
 have hv : fsv l past = pred (cf l k.toNat) past := by rw [fsv, hk0]; rfl
 rw [hv]
 obtain ⟨C, hC⟩ : ∃ C, C = cf l k.toNat := ⟨_, rfl⟩
 obtain ⟨V, hV⟩ : ∃ V, V = pred C past := ⟨_, rfl⟩
 simp only [← hC] at hpr
 simp only [← hV] at hpr
 rw [← hC, ← hV]
 have hkk : k = (if n < m then n else m) ∧ 0 ≤ k ∧ k ≤ n := ⟨by split <;> omega, by omega, by omega⟩
 have hbg := bankL_get l k.toNat (by omega)
 rw [← hC] at hbg
 have hbl : (bankL l).length = (n + 1).toNat := by simp [bankL]; omega
 obtain ⟨n1, hn1⟩ : ∃ n1, n1 = n + 1 := ⟨_, rfl⟩
 obtain ⟨bk, hbk⟩ : ∃ b, b = bankL l := ⟨_, rfl⟩
 rw [← hbk] at hbg hbl ⊢
 refine pure0 ?_ rfl rfl h
 refine wlk Tryz.f107 ?_
 unhygienic intros
 have hll : lnG bk = n1 := by rw [hk.lnG_eq]; omega
 have hlp : lnI past = m := by rw [hk.lnI_eq]; omega
 have hn16 := hx.1
 have hsub : i2 .sub .i64 n1 1 = n := by rw [hk.sub64 _ _ (by omega) (by omega)]; omega
 have hmn : mn m n = k := by rw [hk.mn_eq]; exact hkk.1.symm
 have hel : fl (gtG bk k) = C := by rw [hk.fl_eq, hk.gtG_eq, hbg]; rfl
 clear hV hC hx hn hm hk0 hv hbg hbl hbk
 (conv => cbv)
 rw [hll, hlp, hsub, hmn]
 refine hk.idxI (by omega) (by omega) ?_
 (conv => cbv)
 try rw [hll, hlp]
 try rw [hsub]
 try rw [hmn]
 rw [hel]
 repeat' (first | assumption | ((first | refine hk.callA (hpr _) ?_ | refine stp ?_ | refine stpB (fun _ => ?_) (fun _ => ?_)) <;> (conv => cbv)) | exact stpF | fail)
 all_goals exact hk.fin0 rfl rfl (.refl _ _)
def smGo (l : List Int) (most : Int) : List Int → List Int → Option (List Int)
 | out, [] => some out
 | out, r :: rs => if W (r + fsv l out) > most ∨ W (r + fsv l out) < -most - 1 then none else smGo l most (out ++ [W (r + fsv l out)]) rs
def smL (l : List Int) (most : Int) (rs : List Int) : List Int := (smGo l most [] rs).getD []
def smE (l : List Int) (most : Int) (rs : List Int) : Int := if (smGo l most [] rs).isSome then 0 else 9
theorem smGo_drop {l rs out : List Int} {most : Int} {i : Nat} (hi : i < rs.length) : smGo l most out (rs.drop i) = if W (rs.getD i 0 + fsv l out) > most ∨ W (rs.getD i 0 + fsv l out) < -most - 1 then none else smGo l most (out ++ [W (rs.getD i 0 + fsv l out)]) (rs.drop (i + 1)) := by
 rw [List.drop_eq_getElem_cons hi]
 have : rs[i] = rs.getD i 0 := by simp [List.getD, hi]
 rw [this]
 simp only [smGo]
theorem fsamples_spec (l rs : List Int) (most : Int) (h : Heap) (hx : IxOK l) (hs : Small40 rs) (hl : rs.length ≤ 1024) (hm0 : 0 ≤ most) (hm1 : most ≤ 67108864)
 (hop : ∀ h, Does PP 89 [LI l] h (Is (.agg [.ls (.gl (.li .i64) (bankL l)) .any]) h)) :
 Does PP 72 [LI l, LI rs, I most] h (Is (.tup [LI (smL l most rs), I (smE l most rs)]) h) := by
 have hg := fun h => lgood_spec l h (by have := hx.1; omega)
 rw [(goodIx_iff l).2 hx] at hg
 have hcf := fun h => contains_spec rs 106 [] (fun n => decide (n < -1152921504606846976) || decide (n > 1152921504606846976)) h (by omega) (fun n => huge_spec n h)
 rw [show rs.any (fun n => decide (n < -1152921504606846976) || decide (n > 1152921504606846976)) = false by
  rw [List.any_eq_false]
  intro x hx
  obtain ⟨j, hj, rfl⟩ := mem_getD.1 hx
  have := hs j hj
  rw [Bool.or_eq_true, decide_eq_true_eq, decide_eq_true_eq]; omega] at hcf
 obtain ⟨n, hn⟩ : ∃ n : Int, n = (rs.length : Nat) := ⟨_, rfl⟩
 obtain ⟨res, hres⟩ : ∃ r, r = smGo l most [] rs := ⟨_, rfl⟩
 obtain ⟨L, hL⟩ : ∃ r, r = smL l most rs := ⟨_, rfl⟩
 obtain ⟨E, hE⟩ : ∃ r, r = smE l most rs := ⟨_, rfl⟩
 have hsome : ∀ x, res = some x → L = x ∧ E = 0 := fun x e => by rw [hL, hE, smL, smE, ← hres, e]; exact ⟨rfl, rfl⟩
 have hnone : res = none → L = [] ∧ E = 9 := fun e => by rw [hL, hE, smL, smE, ← hres, e]; exact ⟨rfl, rfl⟩
 rw [← hL, ← hE]
 obtain ⟨J, hJd⟩ : ∃ J : Int → List Int → Prop, ∀ i out, J i out ↔ out.length = i.toNat ∧ res = smGo l most out (rs.drop i.toNat) := ⟨_, fun _ _ => Iff.rfl⟩
 have hJ0 : J 0 [] := (hJd _ _).2 ⟨rfl, by simpa using hres⟩
 have hJe : ∀ out, J n out → L = out ∧ E = 0 := fun out hJ => hsome out (by rw [((hJd _ _).1 hJ).2, List.drop_eq_nil_of_le (by omega)]; rfl)
 have hJs : ∀ (i : Int) out, 0 ≤ i → i < n → J i out → ∃ x f : Int, (∀ h, Does PP 107 [.agg [.ls (.gl (.li .i64) (bankL l)) .any], LI out] h (Is (I f) h)) ∧ x = W (rs.getD i.toNat 0 + f) ∧ ((x > most ∨ x < -most - 1) → L = [] ∧ E = 9) ∧ (¬ (x > most ∨ x < -most - 1) → J (i + 1) (out ++ [x])) := fun i out h0 h1 hJ => by
  obtain ⟨c1, c3⟩ := (hJd _ _).1 hJ
  have hd := smGo_drop (l := l) (most := most) (out := out) (rs := rs) (i := i.toNat) (by omega)
  refine ⟨_, fsv l out, fun h => bforesee_spec l out h hx (by omega), rfl, fun hb => hnone (by rw [c3, hd, if_pos hb]), fun hb => (hJd _ _).2 ⟨by rw [List.length_append, c1]; simp; omega, by rw [c3, hd, if_neg hb, show (i + 1).toNat = i.toNat + 1 by omega]⟩⟩
 have hJl : ∀ i out, J i out → out.length = i.toNat := fun i out hJ => ((hJd _ _).1 hJ).1
 have hn0 : 0 ≤ n ∧ n ≤ 1024 := by omega
 have hll := hn
 obtain ⟨bk, hbk⟩ : ∃ b, b = bankL l := ⟨_, rfl⟩
 simp only [← hbk] at hop hJs
 clear hs hres hL hE hsome hnone hJd hx hbk
 refine pure0 ?_ rfl rfl h
 refine wlk Tryz.f72 ?_
 unhygienic intros
 have hln : lnI rs = n := by rw [hk.lnI_eq]; omega
 have hgl := hk.gtI_eq rs
 have hl1 : ∀ x, lnI [x] = 1 := fun x => hk.lnI_eq _
 have hlo : ∀ out i, 0 ≤ i → J i out → lnI out = i := fun out i h hJ => by rw [hk.lnI_eq, hJl i out hJ]; omega
 obtain ⟨nm, hnm⟩ : ∃ nm, nm = -most := ⟨_, rfl⟩
 obtain ⟨nm1, hnm1⟩ : ∃ x, x = nm - 1 := ⟨_, rfl⟩
 have hnmv : u1 .neg .i64 most = nm := by rw [hk.u1_neg, hnm]; rw [show 0 - most = -most by omega]; exact wrap64 (by omega) (by omega)
 have hnms : i2 .sub .i64 nm 1 = nm1 := by rw [hnm1]; exact hk.sub64 _ _ (by omega) (by omega)
 have hnmb : nm1 = -most - 1 := by omega
 simp only [← hnmb] at hJs
 clear hll hn hnm hnm1
 (conv => cbv)
 repeat' (first | assumption | ((first | refine hk.callA (hg _) ?_ | refine hk.callA (hcf _) ?_ | refine hk.callA (hop _) ?_ | refine stp ?_ | refine stpB (fun _ => ?_) (fun _ => ?_)) <;> (conv => cbv)) | exact stpF | fail)
 try rw [hln]
 refine hk.loopI (loop_rule (α := Int × List Int) (fun x => [(2, .int .i64 most), (6, .ls .nl .nil), (7, .int .i64 0), (8, .ptr 0 0), (9, .ls (.il .i64 x.2) (.tok 1 0)), (30, .ls (.il .i64 rs) .any), (31, .int .i64 n), (32, .int .i64 x.1)]) (fun _ => [.box [.ls (.gl (.li .i64) bk) .any], .tok 0])
  (fun x => 0 ≤ x.1 ∧ x.1 ≤ n ∧ J x.1 x.2) (fun x => (n - x.1).toNat) (0, []) ⟨by omega, by simp only; omega, hJ0⟩ ?_ ?_)
 ·refine Gh.trans (Gh.thaw 9 (.il .i64 []) rfl trivial rfl) (Gh.tm ?_)
  repeat' (first | exact Holds.nil _ _ | refine Holds.cons (Wk.refl _ _) ?_)
 intro ⟨j, out⟩ ⟨hj, hj2, hJ⟩ Q3 hb3 hx3 hr3
 simp only at hj hj2 hJ
 have hlo := hlo out j hj hJ
 (conv => cbv)
 refine hk.brLss (fun h2 => ?_) (fun h2 => ?_)
 ·obtain ⟨x, f, hf, hx0, hbad, hgood⟩ := hJs j out hj h2 hJ
  obtain ⟨y, hy⟩ : ∃ y, y = gtI rs j := ⟨_, rfl⟩
  have hadd : i2 .add .i64 y f = x := by rw [hk.i2_add, hx0, hy, hgl]
  have hap : apI out [x] = out ++ [x] := hk.apI_eq _ _
  clear hx0
  (conv => cbv)
  try rw [hln]
  refine hk.idxI hj h2 ?_
  (conv => cbv)
  rw [← hy]
  have hf2 : ∀ h, Does PP 107 [.agg [.ls (.gl (.li .i64) bk) .any], .ls (.il .i64 out) (.tok 1 0)] h (Is (I f) h) := fun h => (hf h).wk (by repeat' (first | exact WkL.nil | refine WkL.cons (Wk.refl _ _) ?_ | refine WkL.cons (Wk.any _ _ _) ?_ | refine WkL.cons (Wk.nilL _ _) ?_))
  repeat' (first | assumption | ((first | refine hk.calldA hf2 ?_ | refine hk.callA (hf2 _) ?_ | rw [hadd] | rw [hnmv] | rw [hnms] | refine hr3 _ ?_ | refine stp ?_ | refine stpB (fun _ => ?_) (fun _ => ?_)) <;> (conv => cbv)) | exact stpF | fail)
  ·obtain ⟨e1, e2⟩ := hbad (by omega)
   subst e1 e2
   exact hk.fin0 rfl rfl (Wk.tup ⟨Wk.nilL _ _, .refl _ _, trivial⟩)
  ·obtain ⟨e1, e2⟩ := hbad (by omega)
   subst e1 e2
   exact hk.fin0 rfl rfl (Wk.tup ⟨Wk.nilL _ _, .refl _ _, trivial⟩)
  have hgood := hgood (by omega)
  rw [hlo, hl1, hap]
  refine hk.needI (by first | (simp only [rNd, hk.ad_eq, hk.sb_eq]; omega) | (simp [rNd, hk.ad_eq, hk.sb_eq]; omega)) ?_
  (conv => cbv)
  refine hb3 (j + 1, out ++ [x]) _ ⟨by simp only; omega, by simp only; omega, hgood⟩ (by simp only; omega) ?_
  refine Gh.retok 1 1 rfl (Nat.le_of_ble_eq_true rfl) ?_ rfl rfl
  repeat' (first | exact HoldsT.nil _ _ _ _ | refine HoldsT.tok rfl ?_ | refine HoldsT.cons (Wk.refl _ _) rfl ?_ | refine HoldsT.cons (Wk.of_eq ?_) rfl ?_)
  all_goals first
   | (rw [← hk.add64 j 1 (by omega) (by omega)]; rfl)
   | rfl
   | skip
 ·have : j = n := by omega
  rw [this] at hJ
  obtain ⟨e1, e2⟩ := hJe out hJ
  subst e1 e2
  refine hx3 _ _ ?_
  (conv => cbv)
  exact hk.fin0 rfl rfl (Wk.tup ⟨Wk.any _ _ _, .refl _ _, trivial⟩)
end Go.Proofs.YtoeekjddeknmbaaGreat
