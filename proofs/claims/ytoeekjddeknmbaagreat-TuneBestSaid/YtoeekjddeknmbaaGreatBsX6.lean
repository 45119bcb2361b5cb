/-
  Contracts of functions of the program, proved over the abstract machine of the Al texts.
-/
import Derived.Test.YtoeekjddeknmbaaGreatBaseX
import Derived.Test.YtoeekjddeknmbaaGreatBsX1
import Derived.Test.YtoeekjddeknmbaaGreatBsX2
import Derived.Test.YtoeekjddeknmbaaGreatBsX3
import Derived.Test.YtoeekjddeknmbaaGreatBsX4
import Derived.Test.YtoeekjddeknmbaaGreatBsX5
import Derived.Test.YtoeekjddeknmbaaGreatRkX
import Derived.Test.YtoeekjddeknmbaaGreatTryTab
import Derived.Test.YtoeekjddeknmbaaGreatAl4
set_option maxHeartbeats 4000000
set_option maxRecDepth 20000
set_option linter.unusedSimpArgs false
set_option linter.unusedVariables false
open Go Go.AL
namespace Go.Proofs.YtoeekjddeknmbaaGreat
theorem Gh.rowT {n0 nt : Nat} {tm : Nat → AVal} {h : Heap} (t : Nat) (q : LX) (hq : q.n = 0) (ht : tm t = .ls .nl .nil) :
 Gh n0 nt ⟨tm, h⟩ ⟨upd tm t (.sl h.length 0 0 0), h ++ [.rw 0 q]⟩ := fun e0 e a hn hs => by
 obtain ⟨hg, hu, hx⟩ := thawR_env hs.good q hq
 have hh := hs.heap
 simp only at hh
 refine ⟨e.thawR q, rfl, hg, by show e.h ++ [AObj.rw 0 q] = _; rw [hh], fun u => ?_, hs.size, hs.marks.step rfl hu, hs.upd.trans hu, Ext0 hs.ext hx⟩
 show VR (e.thawR q) (upd tm t _ u) _
 rw [upd_get]
 split
 ·rename_i he
  subst he
  have hv := hs.tm u
  simp only [ht] at hv
  have hc : a.tmps.getD u undef = .slice none 0 0 := by
   revert hv
   generalize a.tmps.getD u undef = c
   intro hv
   cases hv with
   | pure _ _ hp => cases hp; rfl
  rw [hc]
  refine .sl h.length 0 0 0 _ rfl ?_
  have : (e.thawR q).h[h.length]? = some (.rw 0 q) := by
   show (e.h ++ [AObj.rw 0 q])[h.length]? = _
   rw [hh]; simp
  rw [this]
  exact ⟨Nat.le_refl _, fun _ => ⟨Int.le_refl _, Int.le_refl _, Int.natCast_nonneg _, .inl ⟨⟨_, rfl⟩, rfl, by simp [Env.thawR, hh], hq⟩⟩⟩
 ·exact (hs.tm u).mono (Nat.le_refl _) hx
theorem normalR_spec (kd vl sh : Int) (ix : List Int) (lg gn pt : Int) (rc da : List Int) (d : Int) (h0 : 8 ≤ d) (h1 : d ≤ 26) (hs0 : 0 ≤ sh) (hs1 : sh ≤ 26)
 (hix : IxOK ix) (ht : termB lg gn = true) (hda : Small40 da) (hdl : da.length ≤ 1024) (hE : onE lg gn da = 0) (hE2 : smE ix (pw d - 1) (onL lg gn da) = 0) :
 Does PP 33 [.agg [I kd, I vl, I sh, LI ix, I lg, I gn, I pt, LI rc, LI da], I d] [] (Is (.tup [.sl 1 (nmL sh ix lg gn da d).length 0 ((nmL sh ix lg gn da d).length : Nat), I 0]) [.box [I kd, I vl, I sh, LI ix, I lg, I gn, I pt, LI rc, LI da], .rw (nmL sh ix lg gn da d).length (.il .i64 (nmL sh ix lg gn da d))]) := by
 have hr := pw_range h0 h1
 obtain ⟨ho1, ho2⟩ := onL_small lg gn da
 have hln := smL_len ix (pw d - 1) (onL lg gn da)
 have hm := fun h => most_spec d h h0 h1
 have htm := fun h => term_spec kd vl sh ix lg gn pt rc da h
 have hon := fun h => lon_spec lg gn da h ht hda hdl
 have hsm := fun h => fsamples_spec ix (onL lg gn da) (pw d - 1) h hix ho1 (by omega) (by omega) (by omega) (fun h => fopen_spec ix h hix)
 obtain ⟨r, hr0⟩ : ∃ r, r = nmL sh ix lg gn da d := ⟨_, rfl⟩
 rw [← hr0]
 rw [nmL] at hr0
 obtain ⟨oL, hoL⟩ : ∃ r, r = onL lg gn da := ⟨_, rfl⟩
 obtain ⟨oE, hoE⟩ : ∃ r, r = onE lg gn da := ⟨_, rfl⟩
 obtain ⟨t, ht⟩ : ∃ t, t = pw d - 1 := ⟨_, rfl⟩
 simp only [← hoL, ← hoE, ← ht] at hr0 hon hsm hm ho2 hln hE hE2
 obtain ⟨sL, hsL⟩ : ∃ r, r = smL ix t oL := ⟨_, rfl⟩
 obtain ⟨sE, hsE⟩ : ∃ r, r = smE ix t oL := ⟨_, rfl⟩
 simp only [← hsL, ← hsE] at hr0 hsm hln hE2
 obtain ⟨n, hn⟩ : ∃ n : Int, n = (sL.length : Nat) := ⟨_, rfl⟩
 have hn1 : 0 ≤ n ∧ n ≤ 1024 := by omega
 obtain ⟨O, hO⟩ : ∃ O : Int → List Int, ∀ i, O i = (sL.take i.toNat).map (shl1 sh) := ⟨_, fun _ => rfl⟩
 have hO0 : O 0 = [] := by rw [hO]; simp
 have hOn : O n = sL.map (shl1 sh) := by rw [hO, hn]; simp
 have hOs : ∀ i : Int, 0 ≤ i → i < n → O i ++ [shl1 sh (sL.getD i.toNat 0)] = O (i + 1) := fun i a b => by
  rw [hO, hO, show (i + 1).toNat = i.toNat + 1 by omega, List.take_add_one, List.map_append]
  simp [List.getD, show i.toNat < sL.length by omega]
 have hOl : ∀ i : Int, 0 ≤ i → i ≤ n → (O i).length = i.toNat := fun i a b => by rw [hO, List.length_map, List.length_take]; omega
 rw [← hOn] at hr0
 clear hO hOn hoL hoE ht hsL hsE ho1 ho2 hln
 subst hE hE2
 simp only [ne_eq, not_true_eq_false, if_false] at hr0
 have hrl : r.length = n.toNat := by rw [hr0, hOl n (by omega) (by omega)]
 rw [hrl, show ((n.toNat : Nat) : Int) = n by omega]
 refine wlk Tryz.f33 ?_
 unhygienic intros
 have hln : lnI sL = n := by rw [hk.lnI_eq]; omega
 have hl1 : ∀ x, lnI [x] = 1 := fun x => hk.lnI_eq _
 have hlO : ∀ i : Int, 0 ≤ i → i ≤ n → lnI (O i) = i := fun i h h2 => by rw [hk.lnI_eq, hOl i h h2]; omega
 have hsh : ∀ i : Int, i2 .shl .i64 (gtI sL i) sh = shl1 sh (gtI sL i) := fun i => by rw [hk.i2_eq]; rfl
 have hap : ∀ i : Int, 0 ≤ i → i < n → apI (O i) [shl1 sh (gtI sL i)] = O (i + 1) := fun i h h2 => by rw [hk.apI_eq, hk.gtI_eq, hOs i h h2]
 clear hOs hn hOl
 subst hr0
 clear hrl
 obtain ⟨N, hN⟩ : ∃ N, N = n.toNat := ⟨_, rfl⟩
 rw [← hN]
 (conv => cbv)
 repeat' (first | assumption | ((first | rw [hln] | refine stp ?_ | refine stpB (fun _ => ?_) (fun _ => ?_)) <;> (conv => cbv)) | exact stpF | fail)
 refine hk.loopI (loop_rule (α := Nat × Int) (fun x => [(2, .ptr 0 0), (5, .int .i64 0), (8, .sl 1 x.1 0 x.2), (32, .ls (.il .i64 sL) .any), (33, .int .i64 n), (34, .int .i64 x.2)]) (fun x => [.box [.int .i64 kd, .int .i64 vl, .int .i64 sh, .ls (.il .i64 ix) .any, .int .i64 lg, .int .i64 gn, .int .i64 pt, .ls (.il .i64 rc) .any, .ls (.il .i64 da) .any], .rw x.1 (.il .i64 (O x.2))])
  (fun x => 0 ≤ x.2 ∧ x.2 ≤ n ∧ x.1 = x.2.toNat) (fun x => (n - x.2).toNat) (0, 0) ⟨by simp only; omega, by simp only; omega, rfl⟩ ?_ ?_)
 ·rw [hO0]
  refine Gh.trans (Gh.rowT 8 (.il .i64 []) rfl rfl) (Gh.tm ?_)
  repeat' (first | exact Holds.nil _ _ | refine Holds.cons (Wk.refl _ _) ?_)
 intro ⟨g, i⟩ ⟨hi, hi2, hg⟩ Q' hb hx hr
 simp only at hi hi2 hg
 have hlO1 := fun h1 h2 => hlO (i + 1) h1 h2
 have hlO := hlO i hi hi2
 have hsh := hsh i
 have hbq : Nat.beq g g = true := Nat.beq_refl _
 conv at hbq => cbv
 dsimp only
 (conv => cbv)
 refine hk.brLss (fun h2 => ?_) (fun h2 => ?_)
 ·have hap := hap i hi h2
  have hlO1 := hlO1 (by omega) (by omega)
  have had : i2 .add .i64 i 1 = i + 1 := hk.add64 _ _ (by omega) (by omega)
  have hnd : nd (.appn 0 i i (ad i 1) 8) := hk.ndI (by rw [hk.ad_eq]; exact ⟨rfl, rfl, by omega, by simp; omega, by omega⟩)
  obtain ⟨x, hx0⟩ : ∃ x, x = gtI sL i := ⟨_, rfl⟩
  rw [← hx0] at hsh hap
  obtain ⟨y, hy0⟩ : ∃ y, y = shl1 sh x := ⟨_, rfl⟩
  rw [← hy0] at hsh hap
  obtain ⟨O1, hO1⟩ : ∃ O1, O1 = O (i + 1) := ⟨_, rfl⟩
  rw [← hO1] at hap hlO1
  (conv => cbv)
  try rw [hln]
  refine hk.idxI hi h2 ?_
  (conv => cbv)
  try rw [← hx0]
  repeat' (first | assumption | ((first | rw [← hx0] | rw [hsh] | rw [hbq] | rw [hap] | rw [hlO, hl1] | refine hk.needI hs0 ?_ | refine ⟨hnd, ?_⟩ | rw [hlO1] | refine stp ?_ | refine stpB (fun _ => ?_) (fun _ => ?_)) <;> (conv => cbv)) | exact stpF | fail)
  refine hb (g + 1, i + 1) _ ⟨by simp only; omega, by simp only; omega, by simp only; omega⟩ (by simp only; omega) ?_
  dsimp only
  rw [had, ← hO1]
  refine Gh.low 2 (Nat.le_of_ble_eq_true rfl) ?_ rfl rfl rfl
  repeat' (first | exact Holds.nil _ _ | refine Holds.cons (Wk.refl _ _) ?_ | refine Holds.cons (Wk.of_eq ?_) ?_)
  all_goals first
   | rfl
   | skip
 ·have : i = n := by omega
  subst this
  have hNg : N = g := by omega
  subst hNg
  refine hx _ _ ?_
  dsimp only
  (conv => cbv)
  exact hk.fin1 rfl
def outL (kd vl sh : Int) (ix : List Int) (lg gn : Int) (da : List Int) (n d : Int) : List Int :=
 if kd = 2 then nmL sh ix lg gn da d else if kd = 3 then da else List.replicate n.toNat vl
theorem form_two {vl sh : Int} {ix : List Int} {lg gn pt : Int} {rc da : List Int} {n d : Int} (h : formE 2 vl sh ix lg gn pt rc da n d = 0) (hd : d ≤ 26) (hn : n ≤ 1024) :
 0 ≤ sh ∧ sh ≤ 26 ∧ IxOK ix ∧ termB lg gn = true ∧ Small40 da ∧ da.length ≤ 1024 ∧ (da.length : Int) = n := by
 unfold formE at h
 rw [if_neg (by decide), if_neg (by decide), if_neg (by decide), if_pos rfl] at h
 split at h
 ·rename_i hh
  obtain ⟨h1, h2, h3, h4, h5, h6, h7, h8⟩ := hh
  refine ⟨h2, by omega, (goodIx_iff _).1 h4, h5, fun i hi => ?_, by omega, h6⟩
  rw [List.any_eq_false] at h8
  have := h8 (da.getD i 0) (mem_getD.2 ⟨i, hi, rfl⟩)
  rw [farP, Bool.or_eq_true, decide_eq_true_eq, decide_eq_true_eq] at this
  omega
 ·exact absurd h (by decide)
theorem form_two2 {vl sh : Int} {ix : List Int} {lg gn pt : Int} {rc da : List Int} {n d : Int} (h : formE 2 vl sh ix lg gn pt rc da n d = 0) : vl = 0 ∧ partsB n pt rc = true ∧ da.any farP = false := by
 unfold formE at h
 rw [if_neg (by decide), if_neg (by decide), if_neg (by decide), if_pos rfl] at h
 split at h
 ·rename_i hh
  exact ⟨hh.1, hh.2.2.2.2.2.2.1, hh.2.2.2.2.2.2.2⟩
 ·exact absurd h (by decide)
end Go.Proofs.YtoeekjddeknmbaaGreat
