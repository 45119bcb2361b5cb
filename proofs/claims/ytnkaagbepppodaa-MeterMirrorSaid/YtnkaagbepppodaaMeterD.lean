/-
  Contracts of functions of the program, proved over the abstract machine of the Al texts.
-/
import Derived.Test.YtnkaagbepppodaaMeterC
set_option maxHeartbeats 4000000
open Go Go.AL
namespace Go.Proofs.Ytnkaagbepppodaa
def turnP (l : List Int) (k : Nat) : Bool := decide (k > 0) && (decide (l.getD k 0 < 0) != decide (l.getD (k - 1) 0 < 0))
def pstep (l : List Int) (k : Nat) (x : Int × Int × Int × Int) : Int × Int × Int × Int :=
  (if wsize (l.getD k 0) > x.1 then wsize (l.getD k 0) else x.1, IntKind.wrap .i64 (x.2.1 + l.getD k 0), IntKind.wrap .i64 (x.2.2.1 + IntKind.wrap .i64 (l.getD k 0 * l.getD k 0)),
    if turnP l k then IntKind.wrap .i64 (IntKind.wrap .i64 (x.2.2.2 + 0) + 1) else IntKind.wrap .i64 (x.2.2.2 + 0))
def plevs (l : List Int) : Nat → Int × Int × Int × Int
  | 0 => (0, 0, 0, 0)
  | k + 1 => pstep l k (plevs l k)
def ofA (l : List Int) : AVal := if chk l = 0 then .tup [agg4 (plevs l l.length), .int .i64 0] else .tup [agg4 (0, 0, 0, 0), .int .i64 (chk l)]
theorem of_spec (l : List Int) (h : Heap) (hl : l.length < 4611686018427387904) : Does PP 13 [.ls (.il .i64 l) .any] h (Is (ofA l) h) := by
  obtain ⟨r, hr0⟩ : ∃ r, r = ofA l := ⟨_, rfl⟩
  obtain ⟨c, hc0⟩ : ∃ c, c = chk l := ⟨_, rfl⟩
  rw [← hr0]
  refine pure0 (doesF P_ok Try.f13 (by kernel_rfl) (by kernel_rfl) ?_) rfl (by rw [hr0]; unfold ofA; split <;> rfl) h
  intro i2 c2 u1 cv mx mn ad sbt bn bq ba lnI gtI apI sbI stI rpI lnG gtG apG sbG stG rpG fi fb fs fl fg fc sln sgt sap ssb sc b2s s2b nd call calld callv callvd loop rfun fin hk
  have hn := hk.lnI_nn l
  have hl' := hk.lnI_lt l 4611686018427387904 (by omega)
  cbv
  refine hk.call1 (r := .int .i64 c) (by rw [hc0]; exact check_spec l _ hl) ?_
  cbv
  split <;> cbv
  · rename_i hc
    rw [hk.c2_neq, decide_eq_true_eq] at hc
    exact hk.fin0 rfl (by rw [hr0]; unfold ofA; split <;> rfl) (Wk.of_eq (by rw [hr0, ofA, if_neg (by rw [← hc0]; exact hc), ← hc0]; rfl))
  · rename_i hc
    rw [hk.c2_neq, decide_eq_false_iff_not, Decidable.not_not] at hc
    refine hk.loopI (loop_rule (α := Int × Int × Int × Int × Int) (fun x => [(0, .ls (.il .i64 l) .any), (2, .ptr 0 0), (5, .ptr 1 0), (14, .ls (.il .i64 l) .any), (15, .int .i64 (lnI l)), (16, .int .i64 x.1)])
        (fun x => [.box [.int .i64 0, .int .i64 0, .int .i64 0, .int .i64 0], .box [.int .i64 x.2.1, .int .i64 x.2.2.1, .int .i64 x.2.2.2.1, .int .i64 x.2.2.2.2]])
        (fun x => 0 ≤ x.1 ∧ x.1 ≤ lnI l ∧ x.2 = plevs l x.1.toNat) (fun x => (lnI l - x.1).toNat) (0, 0, 0, 0, 0) ⟨by omega, by omega, rfl⟩ ?_ ?_)
    · exact Gh.tm (by repeat (first | exact Holds.nil _ _ | refine Holds.cons (Wk.refl _ _) ?_))
    rintro ⟨i, p, s, q, t⟩ ⟨hi, hi2, hi3⟩ Q' hb hx hr
    simp only [] at hi hi2 hi3
    cbv
    split
    · rename_i hlt
      rw [hk.c2_lss, decide_eq_true_eq] at hlt
      have hlen := hk.lt_lnI l i hi hlt
      have hadd := hk.add64 i 1 (by omega) (by omega)
      have hsub : c2 .gtr i 0 = true → i2 .sub .i64 i 1 = i - 1 ∧ nd (.idx (i2 .sub .i64 i 1) (lnI l)) := fun h => by
        rw [hk.c2_gtr, decide_eq_true_eq] at h
        have e := hk.sub64 i 1 (by omega) (by omega)
        exact ⟨e, by rw [e]; exact hk.idx (by omega) (by omega)⟩
      obtain ⟨z, hz⟩ : ∃ z, z = wsize (gtI l i) := ⟨_, rfl⟩
      obtain ⟨w, hw⟩ : ∃ w, w = IntKind.wrap .i64 (gtI l i * gtI l i) := ⟨_, rfl⟩
      have hone := one_spec (gtI l i) [AObj.box [.int .i64 0, .int .i64 0, .int .i64 0, .int .i64 0], .box [.int .i64 p, .int .i64 s, .int .i64 q, .int .i64 t]]
      rw [one, ← hz, ← hw] at hone
      obtain ⟨p', hp'⟩ : ∃ p', p' = if z > p then z else p := ⟨_, rfl⟩
      obtain ⟨s', hs'⟩ : ∃ s', s' = IntKind.wrap .i64 (s + gtI l i) := ⟨_, rfl⟩
      obtain ⟨q', hq'⟩ : ∃ q', q' = IntKind.wrap .i64 (q + w) := ⟨_, rfl⟩
      obtain ⟨tt, htt⟩ : ∃ tt : Bool → Int, ∀ b, tt b = if b then IntKind.wrap .i64 (IntKind.wrap .i64 (t + 0) + 1) else IntKind.wrap .i64 (t + 0) := ⟨_, fun _ => rfl⟩
      have hj := fun b => join_spec p s q t z (gtI l i) w 0 b [AObj.box [.int .i64 0, .int .i64 0, .int .i64 0, .int .i64 0], .box [.int .i64 p, .int .i64 s, .int .i64 q, .int .i64 t]]
      simp only [joined, ← hp', ← hs', ← hq', ← htt] at hj
      have hT : turnP l i.toNat = (c2 .gtr i 0 && bn (bq (c2 .lss (gtI l i) 0) (c2 .lss (gtI l (i2 .sub .i64 i 1)) 0))) := by
        by_cases h0 : i > 0
        · have e : (i - 1).toNat = i.toNat - 1 := by omega
          have e2 : i.toNat > 0 := by omega
          rw [(hsub (by rw [hk.c2_gtr]; simpa using h0)).1]
          simp only [hk.c2_gtr, hk.c2_lss, hk.bn_eq, hk.bq_eq, hk.gtI_eq, turnP, e, h0, e2]
          rfl
        · have e2 : ¬ i.toNat > 0 := by omega
          simp only [hk.c2_gtr, turnP, h0, e2, decide_false, Bool.false_and]
      have hK : ∀ b, turnP l i.toNat = b → 0 ≤ i2 .add .i64 i 1 ∧ i2 .add .i64 i 1 ≤ lnI l ∧ (p', s', q', tt b) = plevs l (i2 .add .i64 i 1).toNat := fun b h1 => by
        rw [hadd]
        refine ⟨by omega, by omega, ?_⟩
        rw [show (i + 1).toNat = i.toNat + 1 by omega, plevs, ← hi3]
        simp only [pstep, h1, hp', hs', hq', htt, hz, hw, hk.gtI_eq]
      have hM : (lnI l - i2 .add .i64 i 1).toNat < (lnI l - i).toNat := by rw [hadd]; omega
      have hix := hk.idx hi hlt
      refine ⟨hix, ?_⟩
      cbv
      first | refine hk.calld1 hone ?_ | refine hk.call1 hone ?_
      cbv
      repeat' (first | (refine hk.calld1 (hj _) ?_; cbv) | (refine hk.call1 (hj _) ?_; cbv) | (refine ⟨hix, ?_⟩; cbv) | (refine ⟨(hsub (by assumption)).2, ?_⟩; cbv) | (split <;> cbv))
      all_goals refine hb (i2 .add .i64 i 1, p', s', q', tt _) _ ?_ hM (Gh.tm (Holds.cons (Wk.refl _ _) <| Holds.cons (Wk.refl _ _) <| Holds.cons (Wk.refl _ _) <| Holds.cons (Wk.refl _ _) <| Holds.cons (Wk.refl _ _) <| Holds.cons (Wk.refl _ _) <| Holds.nil _ _))
      all_goals clear hb hx hr hk hone hj hsub
      all_goals exact hK _ (by rw [hT]; simp only [*]; rfl)
    · rename_i hge
      rw [hk.c2_lss, decide_eq_false_iff_not] at hge
      refine hx _ _ ?_
      cbv
      have e : i.toNat = l.length := by rw [← hk.lnI_toNat l]; omega
      rw [e] at hi3
      exact hk.fin0 rfl (by rw [hr0]; unfold ofA; split <;> rfl) (Wk.of_eq (by rw [hr0, ofA, if_pos (by rw [← hc0]; exact hc), ← hi3]; rfl))
end Go.Proofs.Ytnkaagbepppodaa
