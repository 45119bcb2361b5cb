/- Scores: which are right. -/
import Derived.Test.YtnkaagbepppodaaTab
import Derived.Test.YtnkaagbepppodaaAlGhost
set_option linter.unusedSimpArgs false
set_option linter.unusedVariables false
set_option maxHeartbeats 4000000
open Go Go.AL
namespace Go.Proofs.Ytnkaagbepppodaa
abbrev Cue := Int × List UInt8
def cueA (c : Cue) : AVal := .agg [.int .i64 c.1, .str c.2]
def cuesA (l : List Cue) : AVal := .ls (.gl (.rc [.int .i64, .str]) (l.map cueA)) .any
def cat (l : List Cue) (i : Nat) : Cue := l.getD i (0, [])
theorem map_get (l : List Cue) (i : Nat) (h : i < l.length) : (l.map cueA).getD i .junk = cueA (cat l i) := by simp [List.getD, cat, h]
theorem nan_spec (a : Int) (h : Heap) : Does PP 65 [.int .i64 a] h (Is (.bool false) h) := by
  refine doesF P_ok Try.f65 (by kernel_rfl) (by kernel_rfl) ?_
  intro i2 c2 u1 cv mx mn ad sbt bn bq ba lnI gtI apI sbI stI rpI lnG gtG apG sbG stG rpG fi fb fs fl fg fc sln sgt sap ssb sc b2s s2b nd call calld callv callvd loop rfun fin hk
  cbv
  exact hk.fin1 (by rw [hk.c2_neq]; simp)
def cmpI (a b : Int) : Int := if a < b then -1 else if a > b then 1 else 0
theorem cmp_spec (a b : Int) (h : Heap) : Does PP 56 [.int .i64 a, .int .i64 b] h (Is (.int .i64 (cmpI a b)) h) := by
  obtain ⟨r, hr⟩ : ∃ r, r = cmpI a b := ⟨_, rfl⟩
  rw [← hr]
  refine doesF P_ok Try.f56 (by kernel_rfl) (by kernel_rfl) ?_
  intro i2 c2 u1 cv mx mn ad sbt bn bq ba lnI gtI apI sbI stI rpI lnG gtG apG sbG stG rpG fi fb fs fl fg fc sln sgt sap ssb sc b2s s2b nd call calld callv callvd loop rfun fin hk
  cbv
  refine hk.call1 (nan_spec _ _) ?_
  cbv
  refine hk.call1 (nan_spec _ _) ?_
  cbv
  repeat' (first
    | exact hk.fin1 (by
        rename_i h1 _ h2
        rw [hr, cmpI]
        simp only [hk.c2_lss, hk.c2_gtr, decide_eq_true_eq, decide_eq_false_iff_not] at h1 h2
        simp [h1, h2])
    | exact hk.fin1 (by
        rename_i h1
        rw [hr, cmpI]
        simp only [hk.c2_lss, hk.c2_gtr, decide_eq_true_eq, decide_eq_false_iff_not] at h1
        simp [h1])
    | (split <;> cbv))
  all_goals trace_state
theorem cueCmp_spec (a n : Int) (s : List UInt8) (h : Heap) : Does PP 42 [.agg [.int .i64 a, .str s], .int .i64 n] h (Is (.int .i64 (cmpI a n)) h) := by
  obtain ⟨r, hr⟩ : ∃ r, r = cmpI a n := ⟨_, rfl⟩
  rw [← hr]
  refine pure0 (doesF P_ok Try.f42 (by kernel_rfl) (by kernel_rfl) ?_) rfl rfl h
  intro i2 c2 u1 cv mx mn ad sbt bn bq ba lnI gtI apI sbI stI rpI lnG gtG apG sbG stG rpG fi fb fs fl fg fc sln sgt sap ssb sc b2s s2b nd call calld callv callvd loop rfun fin hk
  have hc := cmp_spec a n
  rw [← hr] at hc
  cbv
  refine hk.call1 (hc _) ?_
  cbv
  exact hk.fin0 rfl rfl (Wk.refl _ _)
/-! ### Letters -/
def chI (x : Int) : Bool := (decide (x ≥ 97) && decide (x ≤ 122)) || ((decide (x ≥ 48) && decide (x ≤ 57)) || decide (x = 45))
def byteI (s : List UInt8) (i : Int) : Int := ((s.getD i.toNat 0).toNat : Int)
def rightB (c : Cue) : Bool := (c.2.all fun x => chI (x.toNat : Int)) && (decide (1 ≤ c.2.length) && decide (c.2.length ≤ 24) && decide (0 ≤ c.1) && decide (c.1 ≤ 1048576))
theorem all_let {s : List UInt8} {i : Int} (h0 : 0 ≤ i) (h1 : (s.length : Int) ≤ i) (h : ∀ j, j < i.toNat → chI (byteI s j) = true) : (s.all fun x => chI (x.toNat : Int)) = true := by
  rw [List.all_eq_true]
  intro x hx
  obtain ⟨k, hk, rfl⟩ := List.mem_iff_getElem.1 hx
  have := h k (by omega)
  simpa [byteI, List.getD, hk] using this
theorem not_let {s : List UInt8} {i : Int} (h0 : 0 ≤ i) (h1 : i < (s.length : Int)) (h : chI (byteI s i) = false) : (s.all fun x => chI (x.toNat : Int)) = false := by
  rw [List.all_eq_false]
  have hl : i.toNat < s.length := by omega
  refine ⟨s[i.toNat], List.getElem_mem hl, ?_⟩
  simp [byteI, List.getD, hl] at h
  simp [h]
theorem right_spec (a : Int) (s : List UInt8) (h : Heap) (hs : s.length ≤ 1000) : Does PP 40 [.agg [.int .i64 a, .str s]] h (Is (.bool (rightB (a, s))) h) := by
  obtain ⟨r, hr⟩ : ∃ r, r = rightB (a, s) := ⟨_, rfl⟩
  rw [← hr]
  refine pure0 (doesF P_ok Try.f40 (by kernel_rfl) (by kernel_rfl) ?_) rfl rfl h
  intro i2 c2 u1 cv mx mn ad sbt bn bq ba lnI gtI apI sbI stI rpI lnG gtG apG sbG stG rpG fi fb fs fl fg fc sln sgt sap ssb sc b2s s2b nd call calld callv callvd loop rfun fin hk
  have hsl := hk.sln_eq s
  have hsl2 : sln s ≤ 1000 := by omega
  have hsl0 : 0 ≤ sln s := by omega
  have hsg : ∀ i, sgt s i = byteI s i := fun i => hk.sgt_eq s i
  have out : ∀ i, 0 ≤ i → i < sln s → chI (byteI s i) = false → r = false := fun i h0 h1 h2 => by
    rw [hr, rightB, not_let h0 (by omega) h2, Bool.false_and]
  have all_ : ∀ i, 0 ≤ i → ¬ i < sln s → (∀ j : Nat, j < i.toNat → chI (byteI s j) = true) → r = (decide (1 ≤ sln s) && decide (sln s ≤ 24) && decide (0 ≤ a) && decide (a ≤ 1048576)) := fun i h0 h1 h2 => by
    rw [hr, rightB, all_let h0 (by omega) h2, Bool.true_and, hsl]
    simp only [show ((1 : Int) ≤ (s.length : Int)) ↔ 1 ≤ s.length by omega, show ((s.length : Int) ≤ 24) ↔ s.length ≤ 24 by omega]
  cbv
  refine hk.loopI (loop_rule (α := Int) (fun x => [(1, .ptr 0 0), (3, .int .i64 x)]) (fun x => [.box [.int .i64 a, .str s]]) (fun x => 0 ≤ x ∧ x ≤ sln s ∧ ∀ j : Nat, j < x.toNat → chI (byteI s j) = true) (fun x => (sln s - x).toNat) 0 ⟨by omega, by omega, fun j hj => by simp at hj⟩ ?_ ?_)
  · exact Gh.tm (by repeat (first | exact Holds.nil _ _ | refine Holds.cons (Wk.refl _ _) ?_))
  intro i ⟨hi, hi2, hall⟩ Q' hb hx hrr
  have hadd := hk.add64 i 1 (by omega) (by omega)
  have next : chI (byteI s i) = true → ∀ j : Nat, j < (i + 1).toNat → chI (byteI s j) = true := fun h j hj => by
    by_cases e : j = i.toNat
    · subst e; rw [show ((i.toNat : Nat) : Int) = i by omega]; exact h
    · exact hall j (by omega)
  have out := out i
  rw [← hsg] at next out
  cbv
  split
  · rename_i hlt
    rw [hk.c2_lss, decide_eq_true_eq] at hlt
    cbv
    refine ⟨hk.idx hi hlt, ?_⟩
    cbv
    repeat' (first
      | (rename_i hh; exact absurd hh (by rw [hk.bn_eq]; decide))
      | (split <;> cbv)
      | (refine hb (i + 1) _ ⟨by omega, by omega, next (by
            clear hb hx hrr
            simp only [hk.c2_geq, hk.c2_leq, hk.c2_eql, hk.bn_eq, decide_eq_true_eq, decide_eq_false_iff_not, Bool.not_eq_true', Bool.not_eq_false', Bool.not_true, Bool.not_false] at *
            simp only [chI, Bool.or_eq_true, Bool.and_eq_true, decide_eq_true_eq]
            omega)⟩ (by omega) (Gh.tm ?_)
         repeat (first | exact Holds.nil _ _ | refine Holds.cons (Wk.refl _ _) ?_ | refine Holds.cons (Wk.of_eq (by rw [← hadd]; rfl)) ?_))
      | (refine hrr _ ?_
         cbv
         exact hk.fin0 rfl rfl (Wk.of_eq (by
            rw [out hi hlt (by
              clear hb hx hrr
              simp only [hk.c2_geq, hk.c2_leq, hk.c2_eql, hk.bn_eq, decide_eq_true_eq, decide_eq_false_iff_not, Bool.not_eq_true', Bool.not_eq_false', Bool.not_true, Bool.not_false] at *
              rw [Bool.eq_false_iff]
              simp only [ne_eq, chI, Bool.or_eq_true, Bool.and_eq_true, decide_eq_true_eq]
              omega)]))))
    all_goals trace_state
  · rename_i hlt
    rw [hk.c2_lss, decide_eq_false_iff_not] at hlt
    have hall := all_ i hi hlt hall
    cbv
    refine hx _ _ ?_
    cbv
    repeat' (first
      | (rename_i hh; exact absurd hh (by rw [hk.bn_eq]; decide))
      | (split <;> cbv)
      | exact hk.fin0 rfl rfl (Wk.of_eq (by
            refine congrArg AVal.bool ?_
            rw [hall, Bool.eq_iff_iff]
            clear hb hx hrr hall hr out
            simp only [hk.c2_geq, hk.c2_leq, decide_eq_true_eq, decide_eq_false_iff_not, ge_iff_le, Bool.and_eq_true, Bool.false_eq_true, false_iff] at *
            omega)))
    all_goals trace_state
end Go.Proofs.Ytnkaagbepppodaa
