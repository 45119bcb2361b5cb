/- Scores: the parts, told to a function one by one. -/
import Derived.Test.YtnkaagbepppodaaScoreE
import Derived.Test.YtnkaagbepppodaaAlRen
set_option linter.unusedSimpArgs false
set_option linter.unusedVariables false
set_option maxHeartbeats 4000000
open Go Go.AL
namespace Go.Proofs.Ytnkaagbepppodaa
def partsC (l : List Cue) (n : Int) : AVal := .clo (.func 44) [] [.pp [cuesA l], .pp [.int .i64 n]]
theorem parts_spec (l : List Cue) (n : Int) (h : Heap) : Does PP 27 [cuesA l, .int .i64 n] h (Is (partsC l n) h) := by
  rw [partsC, cuesA]
  refine pure0 (doesF P_ok Try.f27 (by kernel_rfl) (by kernel_rfl) ?_) rfl rfl h
  intro i2 c2 u1 cv mx mn ad sbt bn bq ba lnI gtI apI sbI stI rpI lnG gtG apG sbG stG rpG fi fb fs fl fg fc sln sgt sap ssb sc b2s s2b nd call calld callv callvd loop rfun fin hk
  cbv
  exact hk.finI (fin_fz 0 _ rfl rfl (fin_fz 1 _ rfl rfl (fin_nil (Wk.refl _ _) rfl ⟨rfl, rfl⟩)))
/-- What part i is told as: name, from, to. -/
def partAt (l : List Cue) (n : Int) (i : Nat) : List UInt8 × Int × Int := ((cat l i).2, min (cat l i).1 n, if i + 1 < l.length then min (cat l (i + 1)).1 n else n)
def feed3 {X : Type} (step : X → List UInt8 × Int × Int → X × Bool) : List (List UInt8 × Int × Int) → X → X
  | [], x => x
  | a :: r, x => match (step x a).2 with
    | true => feed3 step r (step x a).1
    | false => (step x a).1
def partsFrom (l : List Cue) (n : Int) (i : Nat) : List (List UInt8 × Int × Int) := (List.range' i (l.length - i)).map (partAt l n)
theorem partsFrom_end (l : List Cue) (n : Int) {i : Nat} (h : l.length ≤ i) : partsFrom l n i = [] := by simp [partsFrom, show l.length - i = 0 by omega]
theorem partsFrom_step (l : List Cue) (n : Int) {i : Nat} (h : i < l.length) : partsFrom l n i = partAt l n i :: partsFrom l n (i + 1) := by
  rw [partsFrom, show l.length - i = (l.length - (i + 1)) + 1 by omega, List.range'_succ]; rfl
def h28 (L : List AVal) (n m : Int) (x : Int × Bool) : Heap := [.box [.ls (.gl (.rc [.int .i64, .str]) L) .any], .box [.int .i64 n], .box [.int .i64 x.1], .box [.int .i64 m], .box [.bool x.2]]
theorem p44A (l : List Cue) (n : Int) (m : Int) (hl : l.length ≤ 130) (L : List AVal) (hL : L = l.map cueA) (step : Int × Bool → List UInt8 × Int × Int → (Int × Bool) × Bool)
    (I : Nat → Int × Bool → Prop) (hstep : ∀ x i, i < l.length → I i x → Does PP 28 [.str (partAt l n i).1, .agg [.int .i64 (partAt l n i).2.1, .int .i64 (partAt l n i).2.2], .ptr 2 0, .ptr 0 0, .ptr 4 0, .ptr 1 0, .ptr 3 0] ((h28 L n m) x) (Is (.bool (step x (partAt l n i)).2) ((h28 L n m) (step x (partAt l n i)).1)) ∧ ((step x (partAt l n i)).2 = true → I (i + 1) (step x (partAt l n i)).1)) (x0 : Int × Bool) (hx0 : I 0 x0) :
    Does PP 44 [.clo (.func 28) [] [.ptr 2 0, .ptr 0 0, .ptr 4 0, .ptr 1 0, .ptr 3 0], .pp [.ls (.gl (.rc [.int .i64, .str]) L) .any], .pp [.int .i64 n]] ((h28 L n m) x0) (Is (.tup []) ((h28 L n m) (feed3 step (partsFrom l n 0) x0))) := by
  obtain ⟨r, hr⟩ : ∃ r, r = (h28 L n m) (feed3 step (partsFrom l n 0) x0) := ⟨_, rfl⟩
  rw [← hr]
  obtain ⟨a0, o0⟩ := x0
  simp only [h28]
  refine doesF P_ok Try.f44 (by kernel_rfl) (by kernel_rfl) ?_
  intro i2 c2 u1 cv mx mn ad sbt bn bq ba lnI gtI apI sbI stI rpI lnG gtG apG sbG stG rpG fi fb fs fl fg fc sln sgt sap ssb sc b2s s2b nd call calld callv callvd loop rfun fin hk
  have hLn : lnG L = (l.length : Int) := by rw [hk.lnG_eq, hL, List.length_map]
  have hgn := hk.lnG_nn L
  have hat : ∀ i : Int, 0 ≤ i → i < lnG L → fi (fc (gtG L i) 0) = (cat l i.toNat).1 ∧ fs (fc (gtG L i) 1) = (cat l i.toNat).2 := fun i h0 h1 => by
    rw [hk.gtG_eq, hk.fi_eq, hk.fs_eq, hk.fc_eq, hL, map_get l _ (by omega)]
    exact ⟨rfl, rfl⟩
  have hlen : lnG L ≤ 130 := by omega
  have ilt : ∀ i : Int, 0 ≤ i → i < lnG L → i.toNat < l.length := fun i h0 h1 => by omega
  have stp : ∀ i : Int, 0 ≤ i → i < lnG L → partsFrom l n i.toNat = partAt l n i.toNat :: partsFrom l n (i + 1).toNat := fun i h0 h1 => by
    rw [partsFrom_step l n (ilt i h0 h1), show (i + 1).toNat = i.toNat + 1 by omega]
  have fin_ : ∀ i : Int, 0 ≤ i → ¬ i < lnG L → partsFrom l n i.toNat = [] := fun i h0 h1 => partsFrom_end l n (by omega)
  have part1 : ∀ i : Int, 0 ≤ i → i < lnG L → c2 .lss (i + 1) (lnG L) = true → partAt l n i.toNat = (fs (fc (gtG L i) 1), mn (fi (fc (gtG L i) 0)) n, mn (fi (fc (gtG L (i + 1)) 0)) n) := fun i h0 h1 h2 => by
    rw [hk.c2_lss, decide_eq_true_eq] at h2
    rw [partAt, (hat i h0 h1).1, (hat i h0 h1).2, (hat (i + 1) (by omega) h2).1, if_pos (by omega), hk.mn_eq, hk.mn_eq, show (i + 1).toNat = i.toNat + 1 by omega]
    congr 2
    · split <;> omega
    · split <;> omega
  have part2 : ∀ i : Int, 0 ≤ i → i < lnG L → c2 .lss (i + 1) (lnG L) = false → partAt l n i.toNat = (fs (fc (gtG L i) 1), mn (fi (fc (gtG L i) 0)) n, n) := fun i h0 h1 h2 => by
    rw [hk.c2_lss, decide_eq_false_iff_not] at h2
    rw [partAt, (hat i h0 h1).1, (hat i h0 h1).2, if_neg (by omega), hk.mn_eq]
    congr 2
    split <;> omega
  have sI : ∀ i : Int, 0 ≤ i → (i + 1).toNat = i.toNat + 1 := fun i h0 => by omega
  simp only [h28] at hr hstep
  cbv
  refine hk.loopI (loop_rule (α := Int × Int × Bool) (fun x => [(0, .clo (.func 28) [] [.ptr 2 0, .ptr 0 0, .ptr 4 0, .ptr 1 0, .ptr 3 0]), (1, .pp [.ls (.gl (.rc [.int .i64, .str]) L) .any]), (2, .pp [.int .i64 n]), (7, .ls (.gl (.rc [.int .i64, .str]) L) .any), (8, .int .i64 (lnG L)), (9, .int .i64 x.1)])
    (fun x => (h28 L n m) x.2) (fun x => 0 ≤ x.1 ∧ x.1 ≤ lnG L ∧ I x.1.toNat x.2 ∧ r = (h28 L n m) (feed3 step (partsFrom l n x.1.toNat) x.2)) (fun x => (lnG L - x.1).toNat) (0, a0, o0) ⟨by omega, hgn, hx0, hr⟩ ?_ ?_)
  · exact Gh.tm (by repeat (first | exact Holds.nil _ _ | refine Holds.cons (Wk.refl _ _) ?_))
  rintro ⟨i, a, ok⟩ ⟨hi, hi2, hI, hr⟩ Q' hb hx hrr
  simp only [] at hi hi2 hI hr
  have hadd := hk.add64 i 1 (by omega) (by omega)
  have sI := sI i hi
  cbv
  split
  · rename_i hlt
    rw [hk.c2_lss, decide_eq_true_eq] at hlt
    have hst := hstep (a, ok) i.toNat (ilt i hi hlt) hI
    have part1 := part1 i hi hlt
    have part2 := part2 i hi hlt
    rw [stp i hi hlt] at hr
    rw [feed3] at hr
    obtain ⟨⟨⟨a', ok'⟩, go⟩, hs⟩ : ∃ y, y = step (a, ok) (partAt l n i.toNat) := ⟨_, rfl⟩
    rw [← hs] at hst hr
    obtain ⟨⟨q1, q2, q3⟩, hq⟩ : ∃ y, y = partAt l n i.toNat := ⟨_, rfl⟩
    rw [← hq] at hst part1 part2
    rw [← hadd] at part1 part2
    simp only [] at hst hr
    cbv
    refine ⟨hk.ndI ⟨hi, hlt⟩, ?_⟩
    cbv
    split
    · rename_i h1
      have e := part1 h1
      injection e with e1 e
      injection e with e2 e3
      rw [hk.c2_lss, decide_eq_true_eq] at h1
      cbv
      refine ⟨hk.ndI ⟨by rw [hadd]; omega, h1⟩, ?_⟩
      cbv
      rw [← e1, ← e2, ← e3]
      refine hk.callI (Does.renI hst.1 [0, 1, 2, 3, 4] rfl (by decide) rfl (by repeat (first | exact trivial | refine ⟨rfl, ?_⟩)) rfl rfl rfl rfl rfl rfl) ?_
      rintro _ _ ⟨rfl, rfl⟩
      have hbn := hk.bn_eq go
      cbv
      split
      · rename_i h2
        rw [hbn, Bool.not_eq_true'] at h2
        rw [h2] at hr
        cbv
        refine hrr _ ?_
        cbv
        exact hk.finI (fin_low (Wk.refl _ _) rfl rfl ⟨rfl, by rw [hr]; rfl⟩)
      · rename_i h2
        rw [hbn, Bool.not_eq_false'] at h2
        rw [h2] at hr
        cbv
        refine hb (i + 1, a', ok') _ ⟨by simp only []; omega, by simp only []; omega, by simp only [sI]; exact hst.2 h2, hr⟩ (by simp only []; omega) (Gh.low 5 (Nat.le_refl _) ?_ rfl rfl rfl)
        repeat (first | exact Holds.nil _ _ | refine Holds.cons (Wk.refl _ _) ?_ | refine Holds.cons (Wk.of_eq (by rw [← hadd]; rfl)) ?_)
    · rename_i h1
      have e := part2 h1
      injection e with e1 e
      injection e with e2 e3
      cbv
      subst e3
      rw [← e1, ← e2]
      refine hk.callI (Does.renI hst.1 [0, 1, 2, 3, 4] rfl (by decide) rfl (by repeat (first | exact trivial | refine ⟨rfl, ?_⟩)) rfl rfl rfl rfl rfl rfl) ?_
      rintro _ _ ⟨rfl, rfl⟩
      have hbn := hk.bn_eq go
      cbv
      split
      · rename_i h2
        rw [hbn, Bool.not_eq_true'] at h2
        rw [h2] at hr
        cbv
        refine hrr _ ?_
        cbv
        exact hk.finI (fin_low (Wk.refl _ _) rfl rfl ⟨rfl, by rw [hr]; rfl⟩)
      · rename_i h2
        rw [hbn, Bool.not_eq_false'] at h2
        rw [h2] at hr
        cbv
        refine hb (i + 1, a', ok') _ ⟨by simp only []; omega, by simp only []; omega, by simp only [sI]; exact hst.2 h2, hr⟩ (by simp only []; omega) (Gh.low 5 (Nat.le_refl _) ?_ rfl rfl rfl)
        repeat (first | exact Holds.nil _ _ | refine Holds.cons (Wk.refl _ _) ?_ | refine Holds.cons (Wk.of_eq (by rw [← hadd]; rfl)) ?_)
  · rename_i hlt
    rw [hk.c2_lss, decide_eq_false_iff_not] at hlt
    rw [fin_ i hi hlt] at hr
    cbv
    refine hx _ _ ?_
    cbv
    refine hk.finI (fin_same ⟨rfl, ?_⟩)
    rw [hr]; rfl
def h29 (x : Int × Bool) : Heap := [.box [.int .i64 x.1], .box [.bool x.2]]
theorem p44B (l : List Cue) (n : Int)  (hl : l.length ≤ 130) (L : List AVal) (hL : L = l.map cueA) (step : Int × Bool → List UInt8 × Int × Int → (Int × Bool) × Bool)
    (I : Nat → Int × Bool → Prop) (hstep : ∀ x i, i < l.length → I i x → Does PP 29 [.str (partAt l n i).1, .agg [.int .i64 (partAt l n i).2.1, .int .i64 (partAt l n i).2.2], .ptr 1 0, .ptr 0 0] (h29 x) (Is (.bool (step x (partAt l n i)).2) (h29 (step x (partAt l n i)).1)) ∧ ((step x (partAt l n i)).2 = true → I (i + 1) (step x (partAt l n i)).1)) (x0 : Int × Bool) (hx0 : I 0 x0) :
    Does PP 44 [.clo (.func 29) [] [.ptr 1 0, .ptr 0 0], .pp [.ls (.gl (.rc [.int .i64, .str]) L) .any], .pp [.int .i64 n]] (h29 x0) (Is (.tup []) (h29 (feed3 step (partsFrom l n 0) x0))) := by
  obtain ⟨r, hr⟩ : ∃ r, r = h29 (feed3 step (partsFrom l n 0) x0) := ⟨_, rfl⟩
  rw [← hr]
  obtain ⟨a0, o0⟩ := x0
  simp only [h29]
  refine doesF P_ok Try.f44 (by kernel_rfl) (by kernel_rfl) ?_
  intro i2 c2 u1 cv mx mn ad sbt bn bq ba lnI gtI apI sbI stI rpI lnG gtG apG sbG stG rpG fi fb fs fl fg fc sln sgt sap ssb sc b2s s2b nd call calld callv callvd loop rfun fin hk
  have hLn : lnG L = (l.length : Int) := by rw [hk.lnG_eq, hL, List.length_map]
  have hgn := hk.lnG_nn L
  have hat : ∀ i : Int, 0 ≤ i → i < lnG L → fi (fc (gtG L i) 0) = (cat l i.toNat).1 ∧ fs (fc (gtG L i) 1) = (cat l i.toNat).2 := fun i h0 h1 => by
    rw [hk.gtG_eq, hk.fi_eq, hk.fs_eq, hk.fc_eq, hL, map_get l _ (by omega)]
    exact ⟨rfl, rfl⟩
  have hlen : lnG L ≤ 130 := by omega
  have ilt : ∀ i : Int, 0 ≤ i → i < lnG L → i.toNat < l.length := fun i h0 h1 => by omega
  have stp : ∀ i : Int, 0 ≤ i → i < lnG L → partsFrom l n i.toNat = partAt l n i.toNat :: partsFrom l n (i + 1).toNat := fun i h0 h1 => by
    rw [partsFrom_step l n (ilt i h0 h1), show (i + 1).toNat = i.toNat + 1 by omega]
  have fin_ : ∀ i : Int, 0 ≤ i → ¬ i < lnG L → partsFrom l n i.toNat = [] := fun i h0 h1 => partsFrom_end l n (by omega)
  have part1 : ∀ i : Int, 0 ≤ i → i < lnG L → c2 .lss (i + 1) (lnG L) = true → partAt l n i.toNat = (fs (fc (gtG L i) 1), mn (fi (fc (gtG L i) 0)) n, mn (fi (fc (gtG L (i + 1)) 0)) n) := fun i h0 h1 h2 => by
    rw [hk.c2_lss, decide_eq_true_eq] at h2
    rw [partAt, (hat i h0 h1).1, (hat i h0 h1).2, (hat (i + 1) (by omega) h2).1, if_pos (by omega), hk.mn_eq, hk.mn_eq, show (i + 1).toNat = i.toNat + 1 by omega]
    congr 2
    · split <;> omega
    · split <;> omega
  have part2 : ∀ i : Int, 0 ≤ i → i < lnG L → c2 .lss (i + 1) (lnG L) = false → partAt l n i.toNat = (fs (fc (gtG L i) 1), mn (fi (fc (gtG L i) 0)) n, n) := fun i h0 h1 h2 => by
    rw [hk.c2_lss, decide_eq_false_iff_not] at h2
    rw [partAt, (hat i h0 h1).1, (hat i h0 h1).2, if_neg (by omega), hk.mn_eq]
    congr 2
    split <;> omega
  have sI : ∀ i : Int, 0 ≤ i → (i + 1).toNat = i.toNat + 1 := fun i h0 => by omega
  simp only [h29] at hr hstep
  cbv
  refine hk.loopI (loop_rule (α := Int × Int × Bool) (fun x => [(0, .clo (.func 29) [] [.ptr 1 0, .ptr 0 0]), (1, .pp [.ls (.gl (.rc [.int .i64, .str]) L) .any]), (2, .pp [.int .i64 n]), (7, .ls (.gl (.rc [.int .i64, .str]) L) .any), (8, .int .i64 (lnG L)), (9, .int .i64 x.1)])
    (fun x => h29 x.2) (fun x => 0 ≤ x.1 ∧ x.1 ≤ lnG L ∧ I x.1.toNat x.2 ∧ r = h29 (feed3 step (partsFrom l n x.1.toNat) x.2)) (fun x => (lnG L - x.1).toNat) (0, a0, o0) ⟨by omega, hgn, hx0, hr⟩ ?_ ?_)
  · exact Gh.tm (by repeat (first | exact Holds.nil _ _ | refine Holds.cons (Wk.refl _ _) ?_))
  rintro ⟨i, a, ok⟩ ⟨hi, hi2, hI, hr⟩ Q' hb hx hrr
  simp only [] at hi hi2 hI hr
  have hadd := hk.add64 i 1 (by omega) (by omega)
  have sI := sI i hi
  cbv
  split
  · rename_i hlt
    rw [hk.c2_lss, decide_eq_true_eq] at hlt
    have hst := hstep (a, ok) i.toNat (ilt i hi hlt) hI
    have part1 := part1 i hi hlt
    have part2 := part2 i hi hlt
    rw [stp i hi hlt] at hr
    rw [feed3] at hr
    obtain ⟨⟨⟨a', ok'⟩, go⟩, hs⟩ : ∃ y, y = step (a, ok) (partAt l n i.toNat) := ⟨_, rfl⟩
    rw [← hs] at hst hr
    obtain ⟨⟨q1, q2, q3⟩, hq⟩ : ∃ y, y = partAt l n i.toNat := ⟨_, rfl⟩
    rw [← hq] at hst part1 part2
    rw [← hadd] at part1 part2
    simp only [] at hst hr
    cbv
    refine ⟨hk.ndI ⟨hi, hlt⟩, ?_⟩
    cbv
    split
    · rename_i h1
      have e := part1 h1
      injection e with e1 e
      injection e with e2 e3
      rw [hk.c2_lss, decide_eq_true_eq] at h1
      cbv
      refine ⟨hk.ndI ⟨by rw [hadd]; omega, h1⟩, ?_⟩
      cbv
      rw [← e1, ← e2, ← e3]
      refine hk.callI (Does.renI hst.1 [0, 1] rfl (by decide) rfl (by repeat (first | exact trivial | refine ⟨rfl, ?_⟩)) rfl rfl rfl rfl rfl rfl) ?_
      rintro _ _ ⟨rfl, rfl⟩
      have hbn := hk.bn_eq go
      cbv
      split
      · rename_i h2
        rw [hbn, Bool.not_eq_true'] at h2
        rw [h2] at hr
        cbv
        refine hrr _ ?_
        cbv
        exact hk.finI (fin_low (Wk.refl _ _) rfl rfl ⟨rfl, by rw [hr]; rfl⟩)
      · rename_i h2
        rw [hbn, Bool.not_eq_false'] at h2
        rw [h2] at hr
        cbv
        refine hb (i + 1, a', ok') _ ⟨by simp only []; omega, by simp only []; omega, by simp only [sI]; exact hst.2 h2, hr⟩ (by simp only []; omega) (Gh.low 2 (Nat.le_refl _) ?_ rfl rfl rfl)
        repeat (first | exact Holds.nil _ _ | refine Holds.cons (Wk.refl _ _) ?_ | refine Holds.cons (Wk.of_eq (by rw [← hadd]; rfl)) ?_)
    · rename_i h1
      have e := part2 h1
      injection e with e1 e
      injection e with e2 e3
      cbv
      subst e3
      rw [← e1, ← e2]
      refine hk.callI (Does.renI hst.1 [0, 1] rfl (by decide) rfl (by repeat (first | exact trivial | refine ⟨rfl, ?_⟩)) rfl rfl rfl rfl rfl rfl) ?_
      rintro _ _ ⟨rfl, rfl⟩
      have hbn := hk.bn_eq go
      cbv
      split
      · rename_i h2
        rw [hbn, Bool.not_eq_true'] at h2
        rw [h2] at hr
        cbv
        refine hrr _ ?_
        cbv
        exact hk.finI (fin_low (Wk.refl _ _) rfl rfl ⟨rfl, by rw [hr]; rfl⟩)
      · rename_i h2
        rw [hbn, Bool.not_eq_false'] at h2
        rw [h2] at hr
        cbv
        refine hb (i + 1, a', ok') _ ⟨by simp only []; omega, by simp only []; omega, by simp only [sI]; exact hst.2 h2, hr⟩ (by simp only []; omega) (Gh.low 2 (Nat.le_refl _) ?_ rfl rfl rfl)
        repeat (first | exact Holds.nil _ _ | refine Holds.cons (Wk.refl _ _) ?_ | refine Holds.cons (Wk.of_eq (by rw [← hadd]; rfl)) ?_)
  · rename_i hlt
    rw [hk.c2_lss, decide_eq_false_iff_not] at hlt
    rw [fin_ i hi hlt] at hr
    cbv
    refine hx _ _ ?_
    cbv
    refine hk.finI (fin_same ⟨rfl, ?_⟩)
    rw [hr]; rfl
end Go.Proofs.Ytnkaagbepppodaa
