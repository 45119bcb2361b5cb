/- The spans of quiet neighbours, told to a function one by one. -/
import Derived.Test.YtnkaagbepppodaaMeterJ
import Derived.Test.YtnkaagbepppodaaAlTok
set_option linter.unusedSimpArgs false
set_option linter.unusedVariables false
set_option maxHeartbeats 4000000
open Go Go.AL
namespace Go.Proofs.Ytnkaagbepppodaa
def calm (l : List Int) (most i : Int) : Bool := decide (i < l.length) && (decide (l.getD i.toNat 0 ≤ most) && decide (l.getD i.toNat 0 ≥ IntKind.wrap .i64 (0 - most)))
/-- The spans from place i on, so many places being left; the span under way begins at fr. -/
def evs (l : List Int) (most least : Int) : Nat → Int → Int → List (Int × Int)
  | 0, _, _ => []
  | n + 1, fr, i => match calm l most i with
    | true => evs l most least n fr (i + 1)
    | false => match decide (i - fr ≥ least) with
      | true => (fr, i) :: evs l most least n (i + 1) (i + 1)
      | false => evs l most least n (i + 1) (i + 1)
def evsAt (l : List Int) (most least fr i : Int) : List (Int × Int) := evs l most least (l.length + 1 - i).toNat fr i
theorem evsAt_end (l : List Int) (most least fr i : Int) (h : l.length < i) : evsAt l most least fr i = [] := by
  have : ((l.length : Int) + 1 - i).toNat = 0 := by omega
  simp [evsAt, this, evs]
theorem evsAt_calm {l : List Int} {most least fr i : Int} (h : i ≤ l.length) (hc : calm l most i = true) : evsAt l most least fr i = evsAt l most least fr (i + 1) := by
  have : ((l.length : Int) + 1 - i).toNat = ((l.length : Int) + 1 - (i + 1)).toNat + 1 := by omega
  simp only [evsAt, this, evs, hc]
theorem evsAt_hit {l : List Int} {most least fr i : Int} (h : i ≤ l.length) (hc : calm l most i = false) (hl : i - fr ≥ least) : evsAt l most least fr i = (fr, i) :: evsAt l most least (i + 1) (i + 1) := by
  have : ((l.length : Int) + 1 - i).toNat = ((l.length : Int) + 1 - (i + 1)).toNat + 1 := by omega
  simp only [evsAt, this, evs, hc, decide_eq_true hl]
theorem evsAt_miss {l : List Int} {most least fr i : Int} (h : i ≤ l.length) (hc : calm l most i = false) (hl : ¬ i - fr ≥ least) : evsAt l most least fr i = evsAt l most least (i + 1) (i + 1) := by
  have : ((l.length : Int) + 1 - i).toNat = ((l.length : Int) + 1 - (i + 1)).toNat + 1 := by omega
  simp only [evsAt, this, evs, hc, decide_eq_false hl]
def feed {X : Type} (step : X → Int → Int → X × Bool) : List (Int × Int) → X → X
  | [], x => x
  | (a, b) :: r, x => match (step x a b).2 with
    | true => feed step r (step x a b).1
    | false => (step x a b).1
theorem q43 (l : List Int) (most least : Int) (hl : l.length ≤ 200) (hle : 1 ≤ least) (fid : FuncId) (caps : List AVal) {X : Type} (H : X → Heap) (step : X → Int → Int → X × Bool)
    (I : Int → X → Prop) (hI : ∀ i x, I i x → I (i + 1) x)
    (hstep : ∀ x a b, 0 ≤ a → a ≤ b → b ≤ 200 → I b x → Does PP fid (.int .i64 a :: .int .i64 b :: caps) (H x) (Is (.bool (step x a b).2) (H (step x a b).1)) ∧ ((step x a b).2 = true → I (b + 1) (step x a b).1)) (x0 : X) (hx0 : I 0 x0) :
    Does PP 43 [.clo (.func fid) [] caps, .pp [.ls (.il .i64 l) .any], .pp [.int .i64 most], .pp [.int .i64 least]] (H x0) (Is (.tup []) (H (feed step (evsAt l most least 0 0) x0))) := by
  obtain ⟨r, hr⟩ : ∃ r, r = H (feed step (evsAt l most least 0 0) x0) := ⟨_, rfl⟩
  rw [← hr]
  refine doesF P_ok Try.f43 (by kernel_rfl) (by kernel_rfl) ?_
  intro i2 c2 u1 cv mx mn ad sbt bn bq ba lnI gtI apI sbI stI rpI lnG gtG apG sbG stG rpG fi fb fs fl fg fc sln sgt sap ssb sc b2s s2b nd call calld callv callvd loop rfun fin hk
  have hn := hk.lnI_nn l
  have hne := hk.lnI_eq l
  have hl2 := hk.lnI_le l 200 (by omega)
  have hlen : ∀ j, j ≤ lnI l → j ≤ (l.length : Int) := fun j h => by omega
  have hlen2 : ∀ j, lnI l < j → (l.length : Int) < j := fun j h => by omega
  have hadd1 := hk.add64 (lnI l) 1 (by omega) (by omega)
  cbv
  rw [hadd1]
  obtain ⟨N, hN⟩ : ∃ N, N = lnI l + 1 := ⟨_, rfl⟩
  rw [← hN]
  refine hk.loopI (loop_rule (α := Int × Int × X) (fun x => [(0, .clo (.func fid) [] caps), (1, .pp [.ls (.il .i64 l) .any]), (2, .pp [.int .i64 most]), (3, .pp [.int .i64 least]), (5, .int .i64 x.1), (9, .int .i64 N), (10, .int .i64 x.2.1)])
    (fun x => H x.2.2) (fun x => 0 ≤ x.1 ∧ x.1 ≤ x.2.1 ∧ x.2.1 ≤ lnI l + 1 ∧ I x.2.1 x.2.2 ∧ r = H (feed step (evsAt l most least x.1 x.2.1) x.2.2)) (fun x => (lnI l + 1 - x.2.1).toNat) (0, 0, x0) ⟨by omega, by simp only []; omega, by simp only []; omega, hx0, hr⟩ ?_ ?_)
  · exact Gh.tm (by repeat (first | exact Holds.nil _ _ | refine Holds.cons (Wk.refl _ _) ?_))
  rintro ⟨fr, i, x⟩ ⟨hf1, hf2, hi2, hI1, hr⟩ Q' hb hx hrr
  simp only [] at hf1 hf2 hi2 hI1 hr
  have hi1 : 0 ≤ i := by omega
  have hadd2 := hk.add64 i 1 (by omega) (by omega)
  have hsub := hk.sub64 i fr (by omega) (by omega)
  have hcalm : calm l most i = (decide (i < lnI l) && (decide (gtI l i ≤ most) && decide (gtI l i ≥ IntKind.wrap .i64 (0 - most)))) := by rw [calm, hk.gtI_eq, hne]
  cbv
  split
  · rename_i hlt
    rw [hk.c2_lss, decide_eq_true_eq] at hlt
    have hil : i ≤ (l.length : Int) := hlen i (by omega)
    cbv
    have next : ∀ x' s', I (i + 1) x' → r = H (feed step (evsAt l most least (i + 1) (i + 1)) x') → Gh (H x0).length Try.f43.ntmps s' ⟨tmL [(0, .clo (.func fid) [] caps), (1, .pp [.ls (.il .i64 l) .any]), (2, .pp [.int .i64 most]), (3, .pp [.int .i64 least]), (5, .int .i64 (i + 1)), (9, .int .i64 N), (10, .int .i64 (i + 1))], H x'⟩ → Q' .normal s' := fun x' s' h0 h1 h2 =>
      hb (i + 1, i + 1, x') s' ⟨by simp only []; omega, by simp only []; omega, by simp only []; omega, h0, h1⟩ (by simp only []; omega) h2
    split
    · rename_i h1
      rw [hk.c2_lss, decide_eq_true_eq] at h1
      rw [decide_eq_true h1, Bool.true_and] at hcalm
      cbv
      refine ⟨hk.idx hi1 h1, ?_⟩
      cbv
      split
      · rename_i h4
        rw [hk.c2_leq, decide_eq_true_eq] at h4
        rw [decide_eq_true h4, Bool.true_and] at hcalm
        cbv
        refine ⟨hk.idx hi1 h1, ?_⟩
        cbv
        split
        · rename_i h5
          rw [hk.c2_geq, decide_eq_true_eq, hk.u1_neg] at h5
          rw [decide_eq_true h5] at hcalm
          cbv
          refine hb (fr, i + 1, x) _ ⟨hf1, by simp only []; omega, by simp only []; omega, hI _ _ hI1, by rw [hr, evsAt_calm hil hcalm]⟩ (by simp only []; omega) (Gh.tm (by repeat (first | exact Holds.nil _ _ | refine Holds.cons (Wk.refl _ _) ?_ | refine Holds.cons (Wk.of_eq (by rw [← hadd2]; rfl)) ?_)))
        · rename_i h5
          rw [hk.c2_geq, decide_eq_false_iff_not, hk.u1_neg] at h5
          rw [decide_eq_false h5] at hcalm
          cbv
          split
          · rename_i h2
            rw [hk.c2_geq, decide_eq_true_eq, hsub] at h2
            rw [evsAt_hit hil hcalm h2] at hr
            cbv
            refine hk.callI (hstep x fr i hf1 hf2 (by omega) hI1).1 ?_
            rintro _ _ ⟨rfl, rfl⟩
            have hbn := hk.bn_eq (step x fr i).2
            cbv
            split
            · rename_i h3
              rw [hbn, Bool.not_eq_true'] at h3
              cbv
              refine hrr _ ?_
              cbv
              refine hk.finI (fin_same ⟨rfl, ?_⟩)
              rw [hr, feed, h3]
            · rename_i h3
              rw [hbn, Bool.not_eq_false'] at h3
              cbv
              refine next _ _ ((hstep x fr i hf1 hf2 (by omega) hI1).2 h3) (by rw [hr, feed, h3]) (Gh.tm (by repeat (first | exact Holds.nil _ _ | refine Holds.cons (Wk.refl _ _) ?_ | refine Holds.cons (Wk.of_eq (by rw [← hadd2]; rfl)) ?_)))
          · rename_i h2
            rw [hk.c2_geq, decide_eq_false_iff_not, hsub] at h2
            rw [evsAt_miss hil hcalm h2] at hr
            cbv
            refine next _ _ (hI _ _ hI1) hr (Gh.tm (by repeat (first | exact Holds.nil _ _ | refine Holds.cons (Wk.refl _ _) ?_ | refine Holds.cons (Wk.of_eq (by rw [← hadd2]; rfl)) ?_)))
      · rename_i h4
        rw [hk.c2_leq, decide_eq_false_iff_not] at h4
        rw [decide_eq_false h4, Bool.false_and] at hcalm
        cbv
        split
        · rename_i h2
          rw [hk.c2_geq, decide_eq_true_eq, hsub] at h2
          rw [evsAt_hit hil hcalm h2] at hr
          cbv
          refine hk.callI (hstep x fr i hf1 hf2 (by omega) hI1).1 ?_
          rintro _ _ ⟨rfl, rfl⟩
          have hbn := hk.bn_eq (step x fr i).2
          cbv
          split
          · rename_i h3
            rw [hbn, Bool.not_eq_true'] at h3
            cbv
            refine hrr _ ?_
            cbv
            refine hk.finI (fin_same ⟨rfl, ?_⟩)
            rw [hr, feed, h3]
          · rename_i h3
            rw [hbn, Bool.not_eq_false'] at h3
            cbv
            refine next _ _ ((hstep x fr i hf1 hf2 (by omega) hI1).2 h3) (by rw [hr, feed, h3]) (Gh.tm (by repeat (first | exact Holds.nil _ _ | refine Holds.cons (Wk.refl _ _) ?_ | refine Holds.cons (Wk.of_eq (by rw [← hadd2]; rfl)) ?_)))
        · rename_i h2
          rw [hk.c2_geq, decide_eq_false_iff_not, hsub] at h2
          rw [evsAt_miss hil hcalm h2] at hr
          cbv
          refine next _ _ (hI _ _ hI1) hr (Gh.tm (by repeat (first | exact Holds.nil _ _ | refine Holds.cons (Wk.refl _ _) ?_ | refine Holds.cons (Wk.of_eq (by rw [← hadd2]; rfl)) ?_)))
    · rename_i h1
      rw [hk.c2_lss, decide_eq_false_iff_not] at h1
      rw [decide_eq_false h1, Bool.false_and] at hcalm
      cbv
      split
      · rename_i h2
        rw [hk.c2_geq, decide_eq_true_eq, hsub] at h2
        rw [evsAt_hit hil hcalm h2] at hr
        cbv
        refine hk.callI (hstep x fr i hf1 hf2 (by omega) hI1).1 ?_
        rintro _ _ ⟨rfl, rfl⟩
        have hbn := hk.bn_eq (step x fr i).2
        cbv
        split
        · rename_i h3
          rw [hbn, Bool.not_eq_true'] at h3
          cbv
          refine hrr _ ?_
          cbv
          refine hk.finI (fin_same ⟨rfl, ?_⟩)
          rw [hr, feed, h3]
        · rename_i h3
          rw [hbn, Bool.not_eq_false'] at h3
          cbv
          refine next _ _ ((hstep x fr i hf1 hf2 (by omega) hI1).2 h3) (by rw [hr, feed, h3]) (Gh.tm (by repeat (first | exact Holds.nil _ _ | refine Holds.cons (Wk.refl _ _) ?_ | refine Holds.cons (Wk.of_eq (by rw [← hadd2]; rfl)) ?_)))
      · rename_i h2
        rw [hk.c2_geq, decide_eq_false_iff_not, hsub] at h2
        rw [evsAt_miss hil hcalm h2] at hr
        cbv
        refine next _ _ (hI _ _ hI1) hr (Gh.tm (by repeat (first | exact Holds.nil _ _ | refine Holds.cons (Wk.refl _ _) ?_ | refine Holds.cons (Wk.of_eq (by rw [← hadd2]; rfl)) ?_)))
  · rename_i hlt
    rw [hk.c2_lss, decide_eq_false_iff_not] at hlt
    cbv
    refine hx _ _ ?_
    cbv
    refine hk.finI (fin_same ⟨rfl, ?_⟩)
    rw [hr, evsAt_end l most least fr i (hlen2 i (by omega))]
    rfl
end Go.Proofs.Ytnkaagbepppodaa
