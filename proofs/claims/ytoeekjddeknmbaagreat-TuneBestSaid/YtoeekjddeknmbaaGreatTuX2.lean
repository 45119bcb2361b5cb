/-
  Contracts of functions of the program, proved over the abstract machine of the Al texts.
-/
import Derived.Test.YtoeekjddeknmbaaGreatTryTab
import Derived.Test.YtoeekjddeknmbaaGreatAl4
import Derived.Test.YtoeekjddeknmbaaGreatBaseX
import Derived.Test.YtoeekjddeknmbaaGreatBsX8
import Derived.Test.YtoeekjddeknmbaaGreatPlX
import Derived.Test.YtoeekjddeknmbaaGreatTkX3
import Derived.Test.YtoeekjddeknmbaaGreatTkX6
import Derived.Test.YtoeekjddeknmbaaGreatHrX
import Derived.Test.YtoeekjddeknmbaaGreatNmX
import Derived.Test.YtoeekjddeknmbaaGreatNoX
import Derived.Test.YtoeekjddeknmbaaGreatNoY
import Derived.Test.YtoeekjddeknmbaaGreatTuX1
import Derived.Test.YtoeekjddeknmbaaGreatLtX2
import Derived.Test.YtoeekjddeknmbaaGreatThX
import Derived.Test.YtoeekjddeknmbaaGreatRkX
import Derived.Test.YtoeekjddeknmbaaGreatSlX
import Derived.Test.YtoeekjddeknmbaaGreatBsX1
import Derived.Test.YtoeekjddeknmbaaGreatBsX4
import Derived.Test.YtoeekjddeknmbaaGreatBsX6
import Derived.Test.YtoeekjddeknmbaaGreatTkX1
import Derived.Test.YtoeekjddeknmbaaGreatSbX
import Derived.Test.YtoeekjddeknmbaaGreatLtX1
set_option maxHeartbeats 4000000
set_option maxRecDepth 20000
set_option linter.unusedSimpArgs false
set_option linter.unusedVariables false
open Go Go.AL
namespace Go.Proofs.YtoeekjddeknmbaaGreat
abbrev Trd := BlkIn × Int
def thH : List Trd → List Trl
 | [] => []
 | x :: r => pushL tlt dT (thH r) (x.1, x.2, (r.length : Nat))
def thA : List Trd → List Trl
 | [] => []
 | x :: r => (x.1, x.2, ((r.length : Nat) : Int)) :: thA r
def bstR : List Trd → Trl
 | [] => dT
 | x :: r => if r = [] ∨ x.2 < (bstR r).2.1 then (x.1, x.2, ((r.length : Nat) : Int)) else bstR r
theorem thH_len : ∀ r, (thH r).length = r.length
 | [] => rfl
 | x :: r => by rw [thH, pushL_len, thH_len r]; rfl
theorem thH_perm : ∀ r, (thH r).Perm (thA r)
 | [] => .refl _
 | x :: r => by
   rw [thH, thA]
   exact (pushL_perm (lt := tlt) (d := dT) (thH r) _).trans (List.Perm.cons _ (thH_perm r))
theorem thH_heap : ∀ r, HpP tlt dT (thH r) (thH r).length
 | [] => fun c hc hcn => by simp [thH] at hcn
 | x :: r => by
   have := pushL_heap (lt := tlt) (d := dT) tlt_ordr (thH r) (x.1, x.2, ((r.length : Nat) : Int)) (thH_heap r)
   rw [thH, pushL_len]
   exact this
theorem thA_turn : ∀ (r : List Trd) (y : Trl), y ∈ thA r → y.2.2 < (r.length : Nat)
 | [], y, h => by cases h
 | x :: r, y, h => by
   rw [thA, List.mem_cons] at h
   rw [List.length_cons]
   rcases h with rfl | h
   ·simp only; omega
   ·have := thA_turn r y h; omega
theorem bstR_spec : ∀ r : List Trd, r ≠ [] → bstR r ∈ thA r ∧ ∀ y ∈ thA r, y = bstR r ∨ tlt (bstR r) y = true
 | [], h => absurd rfl h
 | x :: r, _ => by
   by_cases h0 : r = []
   ·subst h0
    refine ⟨by simp [bstR, thA], fun y hy => .inl ?_⟩
    simpa [bstR, thA] using hy
   ·obtain ⟨h1, h2⟩ := bstR_spec r h0
    have ht := thA_turn r _ h1
    rw [bstR]
    by_cases h3 : x.2 < (bstR r).2.1
    ·rw [if_pos (.inr h3)]
     refine ⟨by simp [thA], fun y hy => ?_⟩
     rw [thA, List.mem_cons] at hy
     rcases hy with rfl | hy
     ·exact .inl rfl
     ·right
      have : (bstR r).2.1 ≤ y.2.1 := by
       rcases h2 y hy with rfl | h4
       ·exact Int.le_refl _
       ·simp only [tlt, Bool.or_eq_true, Bool.and_eq_true, decide_eq_true_eq] at h4; omega
      simp only [tlt, Bool.or_eq_true, Bool.and_eq_true, decide_eq_true_eq]; omega
    ·rw [if_neg (fun h => h.elim h0 h3)]
     refine ⟨by rw [thA]; exact List.mem_cons_of_mem _ h1, fun y hy => ?_⟩
     rw [thA, List.mem_cons] at hy
     rcases hy with rfl | hy
     ·right
      simp only [tlt, Bool.or_eq_true, Bool.and_eq_true, decide_eq_true_eq]; omega
     ·exact h2 y hy
theorem thH_root (r : List Trd) (h : r ≠ []) : (thH r).getD 0 dT = bstR r := by
 obtain ⟨h1, h2⟩ := bstR_spec r h
 have hl : 0 < (thH r).length := by rw [thH_len]; exact List.length_pos_iff.2 h
 have h0 : (thH r).getD 0 dT ∈ thH r := by
  rw [List.getD_eq_getElem?_getD, List.getElem?_eq_getElem hl]
  exact List.getElem_mem _
 have h0 := (thH_perm r).mem_iff.1 h0
 rcases h2 _ h0 with e | e
 ·exact e
 ·obtain ⟨c, hc, hce⟩ := List.mem_iff_getElem.1 ((thH_perm r).mem_iff.2 h1)
  have hr := heap_root tlt_ordr (thH_heap r) c hc
  rw [List.getD_eq_getElem?_getD, List.getElem?_eq_getElem hc] at hr
  simp only [Option.getD_some, hce] at hr
  rw [e] at hr; cases hr
theorem bstR_le {r : List Trd} (h : r ≠ []) : ∀ x ∈ r, (bstR r).2.1 ≤ x.2 := by
 induction r with
 | nil => exact absurd rfl h
 | cons y r ih =>
   intro x hx
   by_cases h0 : r = []
   ·subst h0
    rw [List.mem_singleton] at hx
    subst hx
    simp [bstR]
   ·rw [bstR]
    have ih := ih h0
    rcases List.mem_cons.1 hx with rfl | hx
    ·split
     ·exact Int.le_refl _
     ·rename_i hh; rw [not_or] at hh; omega
    ·have := ih x hx
     split
     ·rename_i hh
      rcases hh with hh | hh
      ·exact absurd hh h0
      ·simp only; omega
     ·exact this
theorem bstR_mem {r : List Trd} (h : r ≠ []) : ((bstR r).1, (bstR r).2.1) ∈ r := by
 induction r with
 | nil => exact absurd rfl h
 | cons y r ih =>
   rw [bstR]
   split
   ·exact List.mem_cons_self
   ·rename_i hh
    rw [not_or] at hh
    exact List.mem_cons_of_mem _ (ih hh.1)
def plX (l : List Int) : BlkIn := ⟨plK l, plV l, 0, [], 0, 0, 0, [], plD l⟩
def nbI (x : BlkIn) (d : Int) : Int := ((blkBits x d).length : Nat)
def tryN (l : List Int) (d : Int) (ix : List Int) (lg gn sh : Int) (T : List Trd) : List Trd :=
 if nrmE l d ix lg gn sh = 0 then (nrmX l d ix lg gn sh, nbI (nrmX l d ix lg gn sh) d) :: T else T
def resG (l : List Int) (sh : Int) (m : Nat) : List Int := resL (guess (lowL sh l) m) (lowL sh l)
def trl (l : List Int) (d sh : Int) (lags : Bool) : Nat → List Trd
 | 0 => [(plX l, nbI (plX l) d)]
 | m + 1 => if lags = true ∧ bestT (resG l sh m) ≠ (0, 0)
    then tryN l d (guess (lowL sh l) m) (bestT (resG l sh m)).1 (bestT (resG l sh m)).2 sh (tryN l d (guess (lowL sh l) m) 0 0 sh (trl l d sh lags m))
    else tryN l d (guess (lowL sh l) m) 0 0 sh (trl l d sh lags m)
theorem tryN_ne {l : List Int} {d : Int} {ix : List Int} {lg gn sh : Int} {T : List Trd} (h : T ≠ []) : tryN l d ix lg gn sh T ≠ [] := by
 unfold tryN; split
 ·exact List.cons_ne_nil _ _
 ·exact h
theorem tryN_sub {l : List Int} {d : Int} {ix : List Int} {lg gn sh : Int} {T : List Trd} : ∀ x ∈ T, x ∈ tryN l d ix lg gn sh T := fun x hx => by
 unfold tryN; split
 ·exact List.mem_cons_of_mem _ hx
 ·exact hx
theorem tryN_len {l : List Int} {d : Int} {ix : List Int} {lg gn sh : Int} {T : List Trd} : (tryN l d ix lg gn sh T).length ≤ T.length + 1 := by
 unfold tryN; split
 ·simp
 ·omega
theorem trl_ne (l : List Int) (d sh : Int) (lags : Bool) : ∀ m, trl l d sh lags m ≠ []
 | 0 => List.cons_ne_nil _ _
 | m + 1 => by
   rw [trl]; split
   ·exact tryN_ne (tryN_ne (trl_ne l d sh lags m))
   ·exact tryN_ne (trl_ne l d sh lags m)
theorem trl_len (l : List Int) (d sh : Int) (lags : Bool) : ∀ m, (trl l d sh lags m).length ≤ 2 * m + 1
 | 0 => Nat.le_refl _
 | m + 1 => by
   have h1 := trl_len l d sh lags m
   rw [trl]; split
   ·have h2 := tryN_len (l := l) (d := d) (ix := guess (lowL sh l) m) (lg := (bestT (resG l sh m)).1) (gn := (bestT (resG l sh m)).2) (sh := sh) (T := tryN l d (guess (lowL sh l) m) 0 0 sh (trl l d sh lags m))
    have h3 := tryN_len (l := l) (d := d) (ix := guess (lowL sh l) m) (lg := 0) (gn := 0) (sh := sh) (T := trl l d sh lags m)
    omega
   ·have h3 := tryN_len (l := l) (d := d) (ix := guess (lowL sh l) m) (lg := 0) (gn := 0) (sh := sh) (T := trl l d sh lags m)
    omega
theorem trl_mono (l : List Int) (d sh : Int) (lags : Bool) : ∀ m n, m ≤ n → ∀ x ∈ trl l d sh lags m, x ∈ trl l d sh lags n
 | m, 0, h => by rw [show m = 0 by omega]; exact fun x hx => hx
 | m, n + 1, h => by
   rcases Nat.lt_or_eq_of_le h with h1 | h1
   ·intro x hx
    have := trl_mono l d sh lags m n (by omega) x hx
    rw [trl]; split
    ·exact tryN_sub _ (tryN_sub _ this)
    ·exact tryN_sub _ this
   ·rw [h1]; exact fun x hx => hx
def TrOK (l : List Int) (d : Int) (x : Trd) : Prop := x.1.e (l.length : Nat) d = 0 ∧ x.1.l (l.length : Nat) d = l ∧ x.2 = nbI x.1 d ∧ x.1.ix.length ≤ 16 ∧ x.1.rc.length ≤ 8 ∧ x.1.da.length ≤ 1024
theorem plX_ok {l : List Int} {d : Int} (h : chkE l d = 0) : (plX l).e (l.length : Nat) d = 0 ∧ (plX l).l (l.length : Nat) d = l := by
 obtain ⟨h1, h2, h3, h4, h5⟩ := chkE_ok h
 have key : ∀ (kd vl : Int) (da : List Int), formE kd vl 0 [] 0 0 0 [] da (l.length : Nat) d = 0 → kd ≠ 2 → outL kd vl 0 [] 0 0 da (l.length : Nat) d = l →
  bsE kd vl 0 [] 0 0 0 [] da (l.length : Nat) d = 0 ∧ bsL kd vl 0 [] 0 0 0 [] da (l.length : Nat) d = l := fun kd vl da hf hk ho => by
  have e : bsE kd vl 0 [] 0 0 0 [] da (l.length : Nat) d = 0 := by
   unfold bsE
   rw [if_neg (by omega), hf, if_neg (by decide), if_neg (fun c => hk c.1), ho, if_neg]
   rw [List.any_eq_true]
   rintro ⟨x, hx, hx2⟩
   rw [h5 x hx] at hx2
   exact absurd hx2 (by decide)
  exact ⟨e, by unfold bsL; rw [if_pos e]; exact ho⟩
 unfold BlkIn.e BlkIn.l plX plK plV plD
 by_cases hb : l.any (fun n => decide (n ≠ l.getD 0 0)) = true
 ·simp only [hb, if_true]
  refine key 3 0 l ?_ (by decide) ?_
  ·simp [formE, bareP]
  ·simp [outL]
 ·have hall : l = List.replicate l.length (l.getD 0 0) := by
   rw [List.eq_replicate_iff]
   refine ⟨rfl, fun x hx => ?_⟩
   rw [Bool.not_eq_true, List.any_eq_false] at hb
   have := hb x hx
   simpa using this
  have hb : l.any (fun n => decide (n ≠ l.getD 0 0)) = false := by simpa using hb
  simp only [hb, Bool.false_eq_true, if_false]
  by_cases h0 : l.getD 0 0 = 0
  ·rw [if_pos h0]
   refine key 0 _ [] ?_ (by decide) ?_
   ·rw [h0]; simp [formE, bareP]
   ·unfold outL; rw [if_neg (by decide), if_neg (by decide), Int.toNat_natCast]; exact hall.symm
  ·rw [if_neg h0]
   refine key 1 _ [] ?_ (by decide) ?_
   ·simp [formE, bareP]
   ·unfold outL; rw [if_neg (by decide), if_neg (by decide), Int.toNat_natCast]; exact hall.symm
theorem plX_tr {l : List Int} {d : Int} (h : chkE l d = 0) : TrOK l d (plX l, nbI (plX l) d) := by
 obtain ⟨h1, h2, _⟩ := chkE_ok h
 obtain ⟨a, b⟩ := plX_ok h
 refine ⟨a, b, rfl, by simp [plX], by simp [plX], ?_⟩
 show (plD l).length ≤ 1024
 unfold plD
 split
 ·exact h2
 ·simp
theorem nrmX_tr {l : List Int} {d : Int} {ix : List Int} {lg gn sh : Int} (hc : chkE l d = 0) (h : nrmE l d ix lg gn sh = 0) (hi : ix.length ≤ 16) : TrOK l d (nrmX l d ix lg gn sh, nbI (nrmX l d ix lg gn sh) d) := by
 obtain ⟨h1, h2, _⟩ := chkE_ok hc
 obtain ⟨a, b⟩ := nrm_back h
 have e : nrmX l d ix lg gn sh = ⟨2, 0, sh, ix, lg, gn, nrmP l ix lg gn sh, nrmK l ix lg gn sh, data0 l ix lg gn sh⟩ := by unfold nrmX; rw [if_pos h]
 refine ⟨by rw [e]; exact a, by rw [e]; exact b, rfl, by rw [e]; exact hi, ?_, ?_⟩
 ·rw [e]
  show (nrmK l ix lg gn sh).length ≤ 8
  unfold nrmK
  rw [ksL_len]
  have hb := bstP_le (data0 l ix lg gn sh) 3
  have : ∀ k : Nat, k ≤ 3 → 2 ^ k ≤ 8 := by decide
  exact this _ hb
 ·rw [e]
  show (data0 l ix lg gn sh).length ≤ 1024
  rw [data0_len]; exact h2
theorem tryN_tr {l : List Int} {d : Int} {ix : List Int} {lg gn sh : Int} {T : List Trd} (hc : chkE l d = 0) (hi : ix.length ≤ 16) (h : ∀ x ∈ T, TrOK l d x) : ∀ x ∈ tryN l d ix lg gn sh T, TrOK l d x := fun x hx => by
 unfold tryN at hx
 split at hx
 ·rename_i he
  rcases List.mem_cons.1 hx with rfl | hx
  ·exact nrmX_tr hc he hi
  ·exact h x hx
 ·exact h x hx
theorem trl_tr {l : List Int} {d sh : Int} {lags : Bool} (hc : chkE l d = 0) : ∀ m : Nat, m ≤ 17 → ∀ x ∈ trl l d sh lags m, TrOK l d x
 | 0, _ => fun x hx => by
   rw [trl, List.mem_singleton] at hx
   rw [hx]; exact plX_tr hc
 | m + 1, hm => by
   have ih := trl_tr (sh := sh) (lags := lags) hc m (by omega)
   have hg : (guess (lowL sh l) m).length ≤ 16 := by rw [guess_len]; omega
   rw [trl]
   split
   ·exact tryN_tr hc hg (tryN_tr hc hg ih)
   ·exact tryN_tr hc hg ih
theorem pb_dvd (a : Int) : ∀ s : Nat, (∀ j, j < s → pb a j = 0) ↔ a % 2 ^ s = 0
 | 0 => by simp
 | s + 1 => by
   have ih := pb_dvd a s
   have hp : (0 : Int) < 2 ^ s := Int.pow_pos (by decide)
   constructor
   ·intro h
    have h1 := ih.1 (fun j hj => h j (by omega))
    have h2 := h s (by omega)
    unfold pb at h2
    have e : a = 2 ^ s * (a / 2 ^ s) := by have := Int.mul_ediv_add_emod a (2 ^ s); omega
    have e2 : a / 2 ^ s = 2 * (a / 2 ^ s / 2) := by omega
    rw [e, e2, ← Int.mul_assoc, Int.pow_succ]
    exact Int.mul_emod_right _ _
   ·intro h j hj
    have hd : (2 : Int) ^ (s + 1) ∣ a := Int.dvd_of_emod_eq_zero h
    obtain ⟨c, hc⟩ := hd
    rw [Int.pow_succ, Int.mul_assoc] at hc
    rcases Nat.lt_or_eq_of_le (Nat.le_of_lt_succ hj) with h1 | h1
    ·exact ih.2 (by rw [hc]; exact Int.mul_emod_right _ _) j h1
    ·rw [h1]; unfold pb
     rw [hc, Int.mul_ediv_cancel_left _ (by omega)]
     omega
noncomputable def shW (l : List Int) : Int := Classical.choose (exists_low (anyBit l l.length))
theorem shW_low (l : List Int) : IsLow (anyBit l l.length) (shW l) := Classical.choose_spec (exists_low (anyBit l l.length))
noncomputable def shT (l : List Int) (d : Int) (s : Bool) : Int := if s = true then (if d - 1 < shW l then d - 1 else shW l) else 0
theorem shT_rg {l : List Int} {d : Int} (s : Bool) (hd : 8 ≤ d) : 0 ≤ shT l d s ∧ shT l d s ≤ 24 ∧ shT l d s < d := by
 have h := shW_low l
 obtain ⟨h0, h1, _⟩ := h
 unfold shT
 split
 ·split <;> omega
 ·omega
theorem shT_div {l : List Int} {d : Int} (s : Bool) (hd : 8 ≤ d) : ∀ i, i < l.length → l.getD i 0 % 2 ^ (shT l d s).toNat = 0 := fun i hi => by
 obtain ⟨h0, h1, h2, h3⟩ := shW_low l
 rw [← pb_dvd]
 intro j hj
 have hjw : j < (shW l).toNat := by
  unfold shT at hj
  split at hj
  ·split at hj <;> omega
  ·simp at hj
 rcases pb_two (l.getD i 0) j with h | h
 ·exact h
 ·exact absurd ⟨i, hi, h⟩ (h2 j hjw)
theorem shT_max {l : List Int} {d : Int} (hd : 8 ≤ d) (t : Int) (h1 : shT l d true < t) (h2 : t ≤ 24) (h3 : t ≤ d - 1) : ∃ i, i < l.length ∧ l.getD i 0 % 2 ^ t.toNat ≠ 0 := by
 obtain ⟨w0, w1, w2, w3⟩ := shW_low l
 have e : shT l d true = shW l := by
  unfold shT at h1 ⊢
  rw [if_pos rfl] at h1 ⊢
  split at h1
  ·omega
  ·rename_i hh; rw [if_neg hh]
 rw [e] at h1
 rcases w3 with h | ⟨m, hm, hb⟩
 ·omega
 ·refine ⟨m, hm, fun hz => ?_⟩
  rw [← pb_dvd] at hz
  have := hz (shW l).toNat (by omega)
  omega
theorem lowL_s26 {l : List Int} {d sh : Int} (hc : chkE l d = 0) (h0 : 0 ≤ sh) : Small26 (lowL sh l) := fun i hi => by
 obtain ⟨_, _, d1, d2, lk⟩ := chkE_ok hc
 rw [lowL_len] at hi
 rw [lowL_get _ _ _ hi]
 have hm : l.getD i 0 ∈ l := mem_getD.2 ⟨i, hi, rfl⟩
 have := lacks_small d1 d2 (lk _ hm)
 have hp : (1 : Int) ≤ 2 ^ sh.toNat := by have : (0 : Int) < 2 ^ sh.toNat := Int.pow_pos (by decide); omega
 have hd := Int.ediv_mul_le (l.getD i 0) (b := 2 ^ sh.toNat) (by omega)
 generalize l.getD i 0 = x at *
 generalize (2 : Int) ^ sh.toNat = p at *
 constructor
 ·rw [Int.le_ediv_iff_mul_le (by omega)]
  have : -67108864 * p ≤ -67108864 * 1 := Int.mul_le_mul_of_nonpos_left (by decide) (by omega)
  omega
 ·refine Int.ediv_le_of_le_mul (by omega) ?_
  have : 67108864 * 1 ≤ 67108864 * p := Int.mul_le_mul_of_nonneg_left (by omega) (by decide)
  omega
theorem resL_r64 (ix xs : List Int) : R64 (resL ix xs) := fun i hi => by
 rw [resL_len] at hi
 rw [resL_get _ _ _ hi]
 exact W_range _
end Go.Proofs.YtoeekjddeknmbaaGreat
