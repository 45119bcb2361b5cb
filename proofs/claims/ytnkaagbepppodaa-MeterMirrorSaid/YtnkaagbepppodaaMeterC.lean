/-
  Contracts of functions of the program, proved over the abstract machine of the Al texts.
-/
import Derived.Test.YtnkaagbepppodaaMeterB
set_option maxHeartbeats 4000000
open Go Go.AL
namespace Go.Proofs.Ytnkaagbepppodaa
def turnB (l : List Int) (k : Nat) : Bool := decide (k > 0) && ((decide (l.getD k 0 < 0) && decide (l.getD (k - 1) 0 ≥ 0)) || (decide (l.getD k 0 ≥ 0) && decide (l.getD (k - 1) 0 < 0)))
def lstep (l : List Int) (k : Nat) (x : Int × Int × Int × Int) : Int × Int × Int × Int :=
  (if rsize (l.getD k 0) > x.1 then rsize (l.getD k 0) else x.1, IntKind.wrap .i64 (x.2.1 + l.getD k 0), IntKind.wrap .i64 (x.2.2.1 + IntKind.wrap .i64 (l.getD k 0 * l.getD k 0)), if turnB l k then IntKind.wrap .i64 (x.2.2.2 + 1) else x.2.2.2)
def levs (l : List Int) : Nat → Int × Int × Int × Int
  | 0 => (0, 0, 0, 0)
  | k + 1 => lstep l k (levs l k)
def agg4 (x : Int × Int × Int × Int) : AVal := .agg [.int .i64 x.1, .int .i64 x.2.1, .int .i64 x.2.2.1, .int .i64 x.2.2.2]
theorem rof_spec (l : List Int) (h : Heap) (hl : l.length < 4611686018427387904) : Does PP 15 [.ls (.il .i64 l) .any] h (Is (agg4 (levs l l.length)) h) := by
  obtain ⟨r, hr0⟩ : ∃ r, r = agg4 (levs l l.length) := ⟨_, rfl⟩
  rw [← hr0]
  refine pure0 (doesF P_ok Try.f15 (by kernel_rfl) (by kernel_rfl) ?_) rfl (by rw [hr0]; rfl) h
  intro i2 c2 u1 cv mx mn ad sbt bn bq ba lnI gtI apI sbI stI rpI lnG gtG apG sbG stG rpG fi fb fs fl fg fc sln sgt sap ssb sc b2s s2b nd call calld callv callvd loop rfun fin hk
  have hn := hk.lnI_nn l
  have hl := hk.lnI_lt l 4611686018427387904 (by omega)
  cbv
  refine hk.loopI (loop_rule (α := Int × Int × Int × Int × Int) (fun x => [(0, .ls (.il .i64 l) .any), (2, .ptr 0 0), (3, .ptr 1 0), (7, .int .i64 (lnI l)), (8, .int .i64 x.1)])
      (fun x => [.box [.int .i64 0, .int .i64 0, .int .i64 0, .int .i64 0], .box [.int .i64 x.2.1, .int .i64 x.2.2.1, .int .i64 x.2.2.2.1, .int .i64 x.2.2.2.2]])
      (fun x => 0 ≤ x.1 ∧ x.1 ≤ lnI l ∧ x.2 = levs l x.1.toNat) (fun x => (lnI l - x.1).toNat) (0, 0, 0, 0, 0) ⟨by omega, by omega, rfl⟩ ?_ ?_)
  · exact Gh.tm (by repeat (first | exact Holds.nil _ _ | refine Holds.cons (Wk.refl _ _) ?_))
  rintro ⟨i, p, s, q, t⟩ ⟨hi, hi2, hi3⟩ Q' hb hx hr
  simp only [] at hi hi2 hi3
  cbv
  split
  · rename_i hlt
    rw [hk.c2_lss, decide_eq_true_eq] at hlt
    have hlen := hk.lt_lnI l i hi hlt
    have hadd := hk.add64 i 1 (by omega) (by omega)
    have hsub : c2 .gtr i 0 = true → i2 .sub .i64 i 1 = i - 1 ∧ nd (.idx (i2 .sub .i64 i 1) (lnI l)) := fun h => by
      rw [hk.c2_gtr, decide_eq_true_eq] at h
      have e := hk.sub64 i 1 (by omega) (by omega)
      exact ⟨e, by rw [e]; exact hk.idx (by omega) (by omega)⟩
    obtain ⟨z, hz⟩ : ∃ z, z = rsize (gtI l i) := ⟨_, rfl⟩
    have hcall := refsize_spec (gtI l i) [AObj.box [.int .i64 0, .int .i64 0, .int .i64 0, .int .i64 0], .box [.int .i64 p, .int .i64 s, .int .i64 q, .int .i64 t]]
    rw [← hz] at hcall
    have hT : turnB l i.toNat = (c2 .gtr i 0 && ((c2 .lss (gtI l i) 0 && c2 .geq (gtI l (i2 .sub .i64 i 1)) 0) || (c2 .geq (gtI l i) 0 && c2 .lss (gtI l (i2 .sub .i64 i 1)) 0))) := by
      by_cases h0 : i > 0
      · have e : (i - 1).toNat = i.toNat - 1 := by omega
        have e2 : i.toNat > 0 := by omega
        rw [(hsub (by rw [hk.c2_gtr]; simpa using h0)).1]
        simp only [hk.c2_gtr, hk.c2_lss, hk.c2_geq, hk.gtI_eq, turnB, e, h0, e2]
      · have e2 : ¬ i.toNat > 0 := by omega
        simp only [hk.c2_gtr, turnB, h0, e2, decide_false, Bool.false_and]
    have hK : ∀ b t', turnB l i.toNat = b → t' = (if b then i2 .add .i64 t 1 else t) → 0 ≤ i2 .add .i64 i 1 ∧ i2 .add .i64 i 1 ≤ lnI l ∧
        (mx p z, i2 .add .i64 s (gtI l i), i2 .add .i64 q (i2 .mul .i64 (gtI l i) (gtI l i)), t') = levs l (i2 .add .i64 i 1).toNat := fun b t' h1 h2 => by
      rw [hadd]
      refine ⟨by omega, by omega, ?_⟩
      rw [show (i + 1).toNat = i.toNat + 1 by omega, levs, ← hi3]
      simp only [lstep, h1, h2, hk.mx_eq, hz, hk.i2_add, hk.i2_mul, hk.gtI_eq]
    have hM : (lnI l - i2 .add .i64 i 1).toNat < (lnI l - i).toNat := by rw [hadd]; omega
    have hix := hk.idx hi hlt
    refine ⟨hix, hk.calld1 hcall ?_⟩
    cbv
    repeat' (first | (refine ⟨hix, ?_⟩; cbv) | (refine ⟨(hsub (by assumption)).2, ?_⟩; cbv) | (split <;> cbv))
    all_goals refine hb (_, _, _, _, _) _ ?_ hM (Gh.tm (Holds.cons (Wk.refl _ _) <| Holds.cons (Wk.refl _ _) <| Holds.cons (Wk.refl _ _) <| Holds.cons (Wk.refl _ _) <| Holds.cons (Wk.refl _ _) <| Holds.nil _ _))
    all_goals clear hb hx hr hk hcall hsub
    all_goals first
      | exact hK true _ (by rw [hT]; simp only [*]; rfl) rfl
      | exact hK false _ (by rw [hT]; simp only [*]; rfl) rfl
  · rename_i hge
    rw [hk.c2_lss, decide_eq_false_iff_not] at hge
    refine hx _ _ ?_
    cbv
    have e : i.toNat = l.length := by rw [← hk.lnI_toNat l]; omega
    rw [e] at hi3
    exact hk.fin0 rfl (by rw [hr0]; rfl) (Wk.of_eq (by rw [hr0, ← hi3]; rfl))
end Go.Proofs.Ytnkaagbepppodaa
