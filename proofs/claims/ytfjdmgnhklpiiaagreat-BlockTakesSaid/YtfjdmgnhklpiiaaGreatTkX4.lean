/-
  Contracts of functions of the program, proved over the abstract machine of the Al texts.
-/
import Derived.Test.YtfjdmgnhklpiiaaGreatTryTab
import Derived.Test.YtfjdmgnhklpiiaaGreatAl4
import Derived.Test.YtfjdmgnhklpiiaaGreatBaseX
import Derived.Test.YtfjdmgnhklpiiaaGreatPpY
import Derived.Test.YtfjdmgnhklpiiaaGreatBsX1
import Derived.Test.YtfjdmgnhklpiiaaGreatTkX1
import Derived.Test.YtfjdmgnhklpiiaaGreatTkX3
import Derived.Test.YtfjdmgnhklpiiaaGreatRkX
import Derived.Test.YtfjdmgnhklpiiaaGreatTkX2
set_option maxHeartbeats 4000000
set_option maxRecDepth 20000
set_option linter.unusedSimpArgs false
set_option linter.unusedVariables false
open Go Go.AL
namespace Go.Proofs.YtfjdmgnhklpiiaaGreat
/-! ### The document's reader -/
theorem rint_rr (all : Int) (s : RS) (n : Int) (h : Heap) (hl : s.1.length < 1099511627776) (h1 : 1 ≤ n) (h2 : n ≤ 47) :
    Does PP 39 [rr all s, I n] h (Is (.tup [rr all (tkS n s), I (sgW n s)]) h) := by
  have ht := fun h => rtake_rr all s n h hl
  obtain ⟨v0, v1⟩ := tkW_range n s
  have hlt := tkW_lt n s (by omega)
  have hbad := tkW_bad n s
  have hp0 : (0 : Int) < 2 ^ (n - 1).toNat := Int.pow_pos (by decide)
  have hsg : sgW n s = if tkW n s ≥ 2 ^ (n - 1).toNat then tkW n s - 2 ^ n.toNat else tkW n s := rfl
  have hp1 := pow_le48 (n := n) (by omega)
  have hpw1 := fun h => power_spec (n - 1) h (by omega)
  have hpw2 := fun h => power_spec n h (by omega)
  obtain ⟨P, hP⟩ : ∃ P : Int, P = 2 ^ (n - 1).toNat := ⟨_, rfl⟩
  obtain ⟨N, hN⟩ : ∃ P : Int, P = 2 ^ n.toNat := ⟨_, rfl⟩
  obtain ⟨V, hV⟩ : ∃ P : Int, P = tkW n s := ⟨_, rfl⟩
  obtain ⟨W, hW⟩ : ∃ P : Int, P = sgW n s := ⟨_, rfl⟩
  unfold rr at ht ⊢
  obtain ⟨S, hS⟩ : ∃ P, P = strB s.1 := ⟨_, rfl⟩
  obtain ⟨S1, hS1⟩ : ∃ P, P = strB (tkS n s).1 := ⟨_, rfl⟩
  obtain ⟨F, hF⟩ : ∃ P : Int, P = s.2 := ⟨_, rfl⟩
  obtain ⟨G, hG⟩ : ∃ P : Int, P = (tkS n s).2 := ⟨_, rfl⟩
  simp only [← hP, ← hN, ← hV, ← hW, ← hS, ← hS1, ← hF, ← hG] at *
  clear hP hN hV hW hS hS1 hF hG hl
  have hc : (V ≥ P ∧ W = V - N ∧ G = 0) ∨ (¬ V ≥ P ∧ W = V) := by
    by_cases h : V ≥ P
    · rw [if_pos h] at hsg
      refine .inl ⟨h, hsg, ?_⟩
      by_cases hg : G = 0
      · exact hg
      · have := hbad hg; omega
    · rw [if_neg h] at hsg
      exact .inr ⟨h, hsg⟩
  clear hsg hbad
  obtain ⟨m, hm⟩ : ∃ m, m = n - 1 := ⟨_, rfl⟩
  simp only [← hm] at hpw1
  refine pure0 ?_ rfl rfl h
  refine doesF P_ok Tryz.f39 (by kernel_rfl) (by kernel_rfl) ?_
  intro i2 c2 u1 cv mx mn ad sbt bn bq ba lnI gtI apI sbI stI rpI lnG gtG apG sbG stG rpG fi fb fs fl fg fc sln sgt sap ssb sc b2s s2b nd call calld callv callvd loop rfun fin hk
  have t0 : i2 .sub .i64 n 1 = m := by rw [hm]; exact hk.sub64 _ _ (by omega) (by omega)
  have t3 : i2 .sub .i64 V N = V - N := hk.sub64 _ _ (by omega) (by omega)
  rcases hc with ⟨c1, c2, c3⟩ | ⟨c1, c2⟩
  · rw [← c2] at t3
    clear c2
    subst c3
    (conv => cbv)
    repeat' (first
      | assumption
      | ((first | refine hk.callA (ht _) ?_ | refine hk.calldA ht ?_ | rw [t0] | refine hk.callA (hpw1 _) ?_ | refine hk.calldA hpw1 ?_ | refine hk.callA (hpw2 _) ?_ | refine hk.calldA hpw2 ?_ | rw [t3] | refine stp ?_) <;> (conv => cbv))
      | (refine stpB (fun _ => ?_) (fun _ => ?_) <;> (conv => cbv))
      | exact stpF
      | fail)
    all_goals exact hk.fin0 rfl rfl (Wk.refl _ _)
  · subst c2
    clear t3
    (conv => cbv)
    repeat' (first
      | assumption
      | ((first | refine hk.callA (ht _) ?_ | refine hk.calldA ht ?_ | rw [t0] | refine hk.callA (hpw1 _) ?_ | refine hk.calldA hpw1 ?_ | refine stp ?_) <;> (conv => cbv))
      | (refine stpB (fun _ => ?_) (fun _ => ?_) <;> (conv => cbv))
      | exact stpF
      | fail)
    all_goals exact hk.fin0 rfl rfl (Wk.refl _ _)
theorem zrun_len (m : Int) : ∀ (l : List Bool) (n : Int), (zrun m n l).2.1.length ≤ l.length
  | [], n => Nat.le_refl _
  | true :: t, n => by rw [zrun]; simp
  | false :: t, n => by
    rw [zrun]
    split
    · simp
    · have := zrun_len m t (n + 1)
      simp only [List.length_cons]
      omega
theorem rrun_plan (s : RS) (m : Int) (hm : 0 ≤ m) :
    ∃ Inv : Int → List UInt8 → Prop, Inv 0 (strB s.1) ∧ (s.2 ≠ 0 → (zrW m s = 0 ∧ zrS m s = s) ∧ ∀ j S, Inv j S → S = strB s.1) ∧ (s.2 = 0 → ∀ j S, Inv j S → 0 ≤ j ∧ j ≤ m ∧
      ((S = [] ∧ strB (zrS m s).1 = [] ∧ (zrS m s).2 = 3 ∧ zrW m s = 0) ∨
       (S ≠ [] ∧ ((S.getD 0 0 = 49 ∧ zrW m s = j ∧ strB (zrS m s).1 = S.drop 1 ∧ (zrS m s).2 = 0) ∨
         (S.getD 0 0 = 48 ∧ ((j ≥ m ∧ zrW m s = 0 ∧ strB (zrS m s).1 = S.drop 1 ∧ (zrS m s).2 = 1) ∨ (¬ j ≥ m ∧ Inv (j + 1) (S.drop 1)))))))) := by
  refine ⟨fun j S => ∃ t, S = strB t ∧ 0 ≤ j ∧ j ≤ m ∧ (s.2 = 0 → zrun m j t = (zrW m s, zrS m s)) ∧ (s.2 ≠ 0 → t = s.1), ⟨s.1, rfl, Int.le_refl _, hm, fun h => by rw [zrW, zrS, if_pos h, if_pos h], fun _ => rfl⟩, fun h => ⟨⟨if_neg h, if_neg h⟩, fun j S ⟨t, e1, _, _, _, e2⟩ => by rw [e1, e2 h]⟩, ?_⟩
  intro h0 j S ⟨t, hS, j0, j1, hz, _⟩
  have hz := hz h0
  refine ⟨j0, j1, ?_⟩
  cases t with
  | nil =>
    left
    rw [zrun] at hz
    have e1 : zrW m s = 0 := (congrArg Prod.fst hz).symm
    have e2 : zrS m s = ([], 3) := (congrArg Prod.snd hz).symm
    exact ⟨hS, by rw [e2]; rfl, by rw [e2], e1⟩
  | cons b t =>
    right
    have hd : S.drop 1 = strB t := by rw [hS]; rfl
    refine ⟨by rw [hS]; simp [strB], ?_⟩
    rw [hd]
    cases b with
    | true =>
      left
      rw [zrun] at hz
      have e1 : zrW m s = j := (congrArg Prod.fst hz).symm
      have e2 : zrS m s = (t, 0) := (congrArg Prod.snd hz).symm
      exact ⟨by rw [hS]; rfl, e1, by rw [e2], by rw [e2]⟩
    | false =>
      right
      refine ⟨by rw [hS]; rfl, ?_⟩
      rw [zrun] at hz
      by_cases hj : j ≥ m
      · left
        rw [if_pos hj] at hz
        have e1 : zrW m s = 0 := (congrArg Prod.fst hz).symm
        have e2 : zrS m s = (t, 1) := (congrArg Prod.snd hz).symm
        exact ⟨hj, e1, by rw [e2], by rw [e2]⟩
      · right
        rw [if_neg hj] at hz
        exact ⟨hj, t, rfl, by omega, by omega, fun _ => hz, fun h => absurd h0 h⟩
theorem rrun_rr (all : Int) (s : RS) (m : Int) (h : Heap) (hm : 0 ≤ m) (hm2 : m ≤ 1000) :
    Does PP 112 [rr all s, I m] h (Is (.tup [rr all (zrS m s), I (zrW m s)]) h) := by
  obtain ⟨Inv, hI0, hbad, hI⟩ := rrun_plan s m hm
  have hgv := fun S e h => refGive_spec S all 0 e h
  simp only [if_true] at hgv
  have hbad : s.2 ≠ 0 → (zrW m s = 0 ∧ strB (zrS m s).1 = strB s.1 ∧ (zrS m s).2 = s.2) ∧ ∀ j S, Inv j S → S = strB s.1 := fun h => by obtain ⟨⟨a, b⟩, c⟩ := hbad h; exact ⟨⟨a, by rw [b], by rw [b]⟩, c⟩
  unfold rr
  obtain ⟨S0, hS0⟩ : ∃ P, P = strB s.1 := ⟨_, rfl⟩
  obtain ⟨R, hR⟩ : ∃ P, P = strB (zrS m s).1 := ⟨_, rfl⟩
  obtain ⟨F, hF⟩ : ∃ P : Int, P = s.2 := ⟨_, rfl⟩
  obtain ⟨G, hG⟩ : ∃ P : Int, P = (zrS m s).2 := ⟨_, rfl⟩
  obtain ⟨V, hV⟩ : ∃ P : Int, P = zrW m s := ⟨_, rfl⟩
  simp only [← hS0, ← hR, ← hF, ← hG, ← hV] at *
  clear hS0 hR hF hG hV
  refine pure0 ?_ rfl rfl h
  refine doesF P_ok Tryz.f112 (by kernel_rfl) (by kernel_rfl) ?_
  intro i2 c2 u1 cv mx mn ad sbt bn bq ba lnI gtI apI sbI stI rpI lnG gtG apG sbG stG rpG fi fb fs fl fg fc sln sgt sap ssb sc b2s s2b nd call calld callv callvd loop rfun fin hk
  have hsc : ∀ S, sc .eql S [] = decide (S = []) := fun S => by rw [hk.sc_eq]; simp [rSc]; cases S <;> rfl
  have hsg := fun S => hk.sgt_eq S 0
  have hss : ∀ S : List UInt8, S ≠ [] → ssb S 1 (sln S) = S.drop 1 ∧ 0 < sln S := fun S h => by
    have : 0 < S.length := List.length_pos_iff.2 h
    rw [hk.ssb_eq, hk.sln_eq, show (1 : Int).toNat = 1 from rfl, List.take_of_length_le (by rw [List.length_drop]; omega)]
    exact ⟨rfl, by omega⟩
  (conv => cbv)
  repeat' (first
    | assumption
    | ((first | refine stp ?_) <;> (conv => cbv))
    | (refine stpB (fun _ => ?_) (fun _ => ?_) <;> (conv => cbv))
    | exact stpF
    | fail)
  refine hk.loopI (loop_rule (α := Int × List UInt8) (fun x => [(1, .int .i64 m), (2, .ptr 0 0), (4, .ptr 1 0), (6, .int .i64 x.1)]) (fun x => [.box [.str x.2, .int .i64 all, .int .i64 F], .box [.str [], .int .i64 0, .int .i64 0]])
    (fun x => Inv x.1 x.2) (fun x => (m + 1 - x.1).toNat) (0, S0) hI0 ?_ ?_)
  · exact Gh.tm (by repeat (first | exact Holds.nil _ _ | refine Holds.cons (Wk.refl _ _) ?_))
  intro ⟨j, S⟩ hj Q' hb hx hr
  simp only at hj
  dsimp only
  by_cases hF0 : F = 0
  · subst hF0
    obtain ⟨j0, j1, hc⟩ := hI rfl j S hj
    have hsc := hsc S
    have hsg := hsg S
    obtain ⟨N, hN⟩ : ∃ x, x = sln S := ⟨_, rfl⟩
    rcases hc with ⟨d1, d2, d3, d4⟩ | ⟨d1, hc⟩
    · rw [decide_eq_true d1] at hsc
      subst d1 d2 d3 d4
      (conv => cbv)
      repeat' (first
        | assumption
        | ((first | rw [hsc] | refine hk.callA (hgv _ _ _) ?_ | refine hk.calldA (hgv _ _) ?_ | refine hr _ ?_ | refine stp ?_) <;> (conv => cbv))
        | (refine stpB (fun _ => ?_) (fun _ => ?_) <;> (conv => cbv))
        | exact stpF
        | fail)
      all_goals exact hk.fin0 rfl rfl (Wk.refl _ _)
    · rw [decide_eq_false d1] at hsc
      obtain ⟨hss, hs0⟩ := hss S d1
      obtain ⟨S2, hS2⟩ : ∃ x, x = S.drop 1 := ⟨_, rfl⟩
      rw [← hS2] at hc hss
      rw [← hN] at hss hs0
      obtain ⟨X, hX⟩ : ∃ x, x = sgt S 0 := ⟨_, rfl⟩
      rw [← hX] at hsg
      rcases hc with ⟨e0, e1, e2, e3⟩ | ⟨e0, hc⟩
      · have hX2 : X = 49 := by rw [hsg]; simp only [Int.toNat_zero]; rw [e0]; rfl
        subst e1 e2 e3
        (conv => cbv)
        repeat' (first
          | assumption
          | ((first | rw [hsc] | rw [← hX] | rw [← hN] | rw [hss] | refine hk.idxI (Int.le_refl 0) hs0 ?_ | refine hk.needI (by first | (simp only [rNd, hk.ad_eq, hk.sb_eq]; omega) | (simp [rNd, hk.ad_eq, hk.sb_eq]; omega)) ?_ | refine hr _ ?_ | refine stp ?_) <;> (conv => cbv))
          | (refine stpB (fun _ => ?_) (fun _ => ?_) <;> (conv => cbv))
          | exact stpF
          | fail)
        all_goals exact hk.fin0 rfl rfl (Wk.refl _ _)
      · have hX2 : X = 48 := by rw [hsg]; simp only [Int.toNat_zero]; rw [e0]; rfl
        rcases hc with ⟨e1, e2, e3, e4⟩ | ⟨e1, e2⟩
        · subst e2 e3 e4
          (conv => cbv)
          repeat' (first
            | assumption
            | ((first | rw [hsc] | rw [← hX] | rw [← hN] | rw [hss] | refine hk.idxI (Int.le_refl 0) hs0 ?_ | refine hk.needI (by first | (simp only [rNd, hk.ad_eq, hk.sb_eq]; omega) | (simp [rNd, hk.ad_eq, hk.sb_eq]; omega)) ?_ | refine hk.callA (hgv _ _ _) ?_ | refine hk.calldA (hgv _ _) ?_ | refine hr _ ?_ | refine stp ?_) <;> (conv => cbv))
            | (refine stpB (fun _ => ?_) (fun _ => ?_) <;> (conv => cbv))
            | exact stpF
            | fail)
          all_goals exact hk.fin0 rfl rfl (Wk.refl _ _)
        · (conv => cbv)
          repeat' (first
            | assumption
            | ((first | rw [hsc] | rw [← hX] | rw [← hN] | rw [hss] | refine hk.idxI (Int.le_refl 0) hs0 ?_ | refine hk.needI (by first | (simp only [rNd, hk.ad_eq, hk.sb_eq]; omega) | (simp [rNd, hk.ad_eq, hk.sb_eq]; omega)) ?_ | refine stp ?_) <;> (conv => cbv))
            | (refine stpB (fun _ => ?_) (fun _ => ?_) <;> (conv => cbv))
            | exact stpF
            | fail)
          refine hb (j + 1, S2) _ e2 (by simp only; omega) ?_
          refine Gh.tm ?_
          repeat' (first | exact Holds.nil _ _ | refine Holds.cons (Wk.refl _ _) ?_ | refine Holds.cons (Wk.of_eq ?_) ?_)
          all_goals first
            | (rw [← hk.add64 j 1 (by omega) (by omega)]; rfl)
            | rfl
            | skip
  · obtain ⟨⟨e1, e2, e3⟩, e4⟩ := hbad hF0
    have e4 := e4 j S hj
    subst e1 e2 e3 e4
    (conv => cbv)
    repeat' (first
      | assumption
      | ((first | refine hx _ _ ?_ | refine stp ?_) <;> (conv => cbv))
      | (refine stpB (fun _ => ?_) (fun _ => ?_) <;> (conv => cbv))
      | exact stpF
      | fail)
    all_goals exact hk.fin0 rfl rfl (Wk.refl _ _)
/-- A code that comes next, by the document. -/
theorem rrice_rr (all : Int) (s : RS) (k : Int) (h : Heap) (hl : s.1.length < 1099511627776) :
    Does PP 81 [rr all s, I k] h (Is (.tup [rr all (rtS k s), I (rtW k s)]) h) := by
  by_cases hkk : k < 0 ∨ k > 24
  · obtain ⟨e1, e2⟩ := rtS_bad s hkk
    rw [e1, e2]
    have hg := fun h => rgive_rr all s 1 h
    unfold rr at hg ⊢
    obtain ⟨S, hS⟩ : ∃ P, P = strB s.1 := ⟨_, rfl⟩
    obtain ⟨S1, hS1⟩ : ∃ P, P = strB (gvS 1 s).1 := ⟨_, rfl⟩
    obtain ⟨F, hF⟩ : ∃ P : Int, P = s.2 := ⟨_, rfl⟩
    obtain ⟨G, hG⟩ : ∃ P : Int, P = (gvS 1 s).2 := ⟨_, rfl⟩
    simp only [← hS, ← hS1, ← hF, ← hG] at *
    clear hS hS1 hF hG hl e1 e2
    refine pure0 ?_ rfl rfl h
    refine doesF P_ok Tryz.f81 (by kernel_rfl) (by kernel_rfl) ?_
    intro i2 c2 u1 cv mx mn ad sbt bn bq ba lnI gtI apI sbI stI rpI lnG gtG apG sbG stG rpG fi fb fs fl fg fc sln sgt sap ssb sc b2s s2b nd call calld callv callvd loop rfun fin hk
    (conv => cbv)
    refine hk.brLss (fun h => ?_) (fun h => ?_)
    · (conv => cbv)
      repeat' (first
        | assumption
        | ((first | refine hk.callA (hg _) ?_ | refine hk.calldA hg ?_ | refine stp ?_) <;> (conv => cbv))
        | (refine stpB (fun _ => ?_) (fun _ => ?_) <;> (conv => cbv))
        | exact stpF
        | fail)
      all_goals exact hk.fin0 rfl rfl (Wk.refl _ _)
    · (conv => cbv)
      repeat' (first
        | assumption
        | ((first | refine hk.callA (hg _) ?_ | refine hk.calldA hg ?_ | refine stp ?_) <;> (conv => cbv))
        | (refine stpB (fun _ => ?_) (fun _ => ?_) <;> (conv => cbv))
        | exact stpF
        | fail)
      all_goals exact hk.fin0 rfl rfl (Wk.refl _ _)
  · have hk0 : 0 ≤ k := by omega
    have hk1 : k ≤ 24 := by omega
    have hS : rtS k s = if zrW 24 s < 24 then tkS k (zrS 24 s) else if tkW 34 (zrS 24 s) / 2 ^ k.toNat < 24 then gvS 2 (tkS 34 (zrS 24 s)) else tkS 34 (zrS 24 s) := if_neg hkk
    have hW : rtW k s = if (rtS k s).2 = 0 then unZ (rtZ k s) else 0 := rfl
    have hZ : rtZ k s = if zrW 24 s < 24 then zrW 24 s * 2 ^ k.toNat + tkW k (zrS 24 s) else tkW 34 (zrS 24 s) := rfl
    have hz := fun h => rrun_rr all s 24 h (by decide) (by decide)
    obtain ⟨q0, q1⟩ := zrW_range 24 (by decide) s
    have hzl : (zrS 24 s).1.length < 1099511627776 := by
      unfold zrS
      split
      · exact Nat.lt_of_le_of_lt (zrun_len 24 s.1 0) hl
      · exact hl
    obtain ⟨s1, hs1⟩ : ∃ x, x = zrS 24 s := ⟨_, rfl⟩
    obtain ⟨q, hq⟩ : ∃ x, x = zrW 24 s := ⟨_, rfl⟩
    simp only [← hs1, ← hq] at hz hS hZ q0 q1 hzl
    have hp0 : (0 : Int) < 2 ^ k.toNat := Int.pow_pos (by decide)
    have hpk : (2 : Int) ^ k.toNat ≤ 16777216 := by
      have := Nat.pow_le_pow_right (n := 2) (by decide) (show k.toNat ≤ 24 by omega)
      exact Int.ofNat_le.2 this
    have hpw := fun h => power_spec k h (by omega)
    by_cases hq24 : q < 24
    · rw [if_pos hq24] at hS hZ
      have ht := fun h => rtake_rr all s1 k h hzl
      obtain ⟨v0, _⟩ := tkW_range k s1
      have hlt := tkW_lt k s1 hk0
      rw [← hS] at ht
      obtain ⟨V, hV⟩ : ∃ x, x = tkW k s1 := ⟨_, rfl⟩
      obtain ⟨Z, hZd⟩ : ∃ x, x = rtZ k s := ⟨_, rfl⟩
      obtain ⟨W, hWd⟩ : ∃ x, x = rtW k s := ⟨_, rfl⟩
      obtain ⟨U, hU⟩ : ∃ x, x = rtS k s := ⟨_, rfl⟩
      rw [← hV] at hlt v0
      simp only [← hV, ← hU] at ht
      rw [← hZd, ← hV] at hZ
      rw [← hWd, ← hU, ← hZd] at hW
      rw [← hU, ← hWd]
      obtain ⟨P, hP⟩ : ∃ P : Int, P = 2 ^ k.toNat := ⟨_, rfl⟩
      rw [← hP] at hp0 hpk hlt hZ
      simp only [← hP] at hpw
      have hqp : 0 ≤ q * P ∧ q * P ≤ 24 * 16777216 := ⟨Int.mul_nonneg q0 (by omega), Int.le_trans (Int.mul_le_mul_of_nonneg_right (by omega) (by omega)) (Int.mul_le_mul_of_nonneg_left hpk (by decide))⟩
      obtain ⟨QP, hQP⟩ : ∃ x, x = q * P := ⟨_, rfl⟩
      rw [← hQP] at hqp hZ
      have hZ0 : 0 ≤ Z ∧ Z < 281474976710656 := by omega
      unfold rr at hz ht ⊢
      obtain ⟨A, hA⟩ : ∃ P, P = strB s.1 := ⟨_, rfl⟩
      obtain ⟨A1, hA1⟩ : ∃ P, P = strB s1.1 := ⟨_, rfl⟩
      obtain ⟨A2, hA2⟩ : ∃ P, P = strB U.1 := ⟨_, rfl⟩
      obtain ⟨F, hF⟩ : ∃ P : Int, P = s.2 := ⟨_, rfl⟩
      obtain ⟨F1, hF1⟩ : ∃ P : Int, P = s1.2 := ⟨_, rfl⟩
      obtain ⟨F2, hF2⟩ : ∃ P : Int, P = U.2 := ⟨_, rfl⟩
      simp only [← hA, ← hF, ← hA1, ← hF1, ← hA2, ← hF2] at hz ht hW ⊢
      clear hA hA1 hA2 hF hF1 hF2 hU hV hZd hWd hl hs1 hq hS hP hpk hp0 hlt hzl
      refine pure0 ?_ rfl rfl h
      refine doesF P_ok Tryz.f81 (by kernel_rfl) (by kernel_rfl) ?_
      intro i2 c2 u1 cv mx mn ad sbt bn bq ba lnI gtI apI sbI stI rpI lnG gtG apG sbG stG rpG fi fb fs fl fg fc sln sgt sap ssb sc b2s s2b nd call calld callv callvd loop rfun fin hk
      have t1 : i2 .mul .i64 q P = QP := by rw [hQP]; exact hk.mul64 _ _ (by omega) (by omega)
      have t2 : i2 .add .i64 QP V = Z := by rw [hZ]; exact hk.add64 _ _ (by omega) (by omega)
      have hgv : True := trivial
      have t3 : i2 .rem .i64 Z 2 = Z % 2 := by rw [hk.i2_rem, Int.tmod_eq_emod_of_nonneg hZ0.1]
      have t4 : i2 .quo .i64 Z 2 = Z / 2 := by rw [hk.i2_quo, Int.tdiv_eq_ediv_of_nonneg hZ0.1, wrap64 (by omega) (by omega)]
      have t5 : i2 .add .i64 Z 1 = Z + 1 := hk.add64 _ _ (by omega) (by omega)
      have t6 : u1 .neg .i64 (Z + 1) = -(Z + 1) := by rw [hk.u1_neg, show (0 : Int) - (Z + 1) = -(Z + 1) by omega]; exact wrap64 (by omega) (by omega)
      have t7 : i2 .quo .i64 (-(Z + 1)) 2 = -((Z + 1) / 2) := by rw [hk.i2_quo, Int.neg_tdiv, Int.tdiv_eq_ediv_of_nonneg (by omega), wrap64 (by omega) (by omega)]
      have hW1 : F2 = 0 → Z % 2 = 1 → W = -((Z + 1) / 2) := fun h0 h1 => by rw [hW, if_pos h0, unZ, if_pos h1]; omega
      have hW2 : F2 = 0 → ¬ Z % 2 = 1 → W = Z / 2 := fun h0 h1 => by rw [hW, if_pos h0, unZ, if_neg h1]
      have hW3 : ¬ F2 = 0 → W = 0 := fun h0 => by rw [hW, if_neg h0]
      clear hW
      obtain ⟨p, hp⟩ : ∃ x, x = Z % 2 := ⟨_, rfl⟩
      obtain ⟨H2, hH2⟩ : ∃ x, x = Z / 2 := ⟨_, rfl⟩
      obtain ⟨N1, hN1⟩ : ∃ x, x = Z + 1 := ⟨_, rfl⟩
      obtain ⟨NN, hNN⟩ : ∃ x, x = -N1 := ⟨_, rfl⟩
      obtain ⟨RR, hRR⟩ : ∃ x, x = -(N1 / 2) := ⟨_, rfl⟩
      simp only [← hp, ← hH2, ← hN1] at t3 t4 t5 t6 t7 hW1 hW2
      simp only [← hNN] at t6 t7
      simp only [← hRR] at t7 hW1
      clear hp hH2 hNN hRR
      by_cases hF0 : F2 = 0
      · subst hF0
        by_cases hp1 : p = 1
        · have hW1 := hW1 rfl hp1
          subst hW1
          (conv => cbv)
          repeat' (first
            | assumption
            | ((first | refine hk.callA (hz _) ?_ | refine hk.calldA hz ?_ | refine hk.callA (ht _) ?_ | refine hk.calldA ht ?_ | refine hk.callA (hpw _) ?_ | refine hk.calldA hpw ?_ | refine hk.callA (hgv _) ?_ | refine hk.calldA hgv ?_ | rw [t1] | rw [t2] | rw [t3] | rw [t4] | rw [t5] | rw [t6] | rw [t7] | refine stp ?_) <;> (conv => cbv))
            | (refine stpB (fun _ => ?_) (fun _ => ?_) <;> (conv => cbv))
            | exact stpF
            | fail)
          all_goals exact hk.fin0 rfl rfl (Wk.refl _ _)
        · have hW2 := hW2 rfl hp1
          subst hW2
          (conv => cbv)
          repeat' (first
            | assumption
            | ((first | refine hk.callA (hz _) ?_ | refine hk.calldA hz ?_ | refine hk.callA (ht _) ?_ | refine hk.calldA ht ?_ | refine hk.callA (hpw _) ?_ | refine hk.calldA hpw ?_ | refine hk.callA (hgv _) ?_ | refine hk.calldA hgv ?_ | rw [t1] | rw [t2] | rw [t3] | rw [t4] | rw [t5] | rw [t6] | rw [t7] | refine stp ?_) <;> (conv => cbv))
            | (refine stpB (fun _ => ?_) (fun _ => ?_) <;> (conv => cbv))
            | exact stpF
            | fail)
          all_goals exact hk.fin0 rfl rfl (Wk.refl _ _)
      · have hW3 := hW3 hF0
        subst hW3
        (conv => cbv)
        repeat' (first
          | assumption
          | ((first | refine hk.callA (hz _) ?_ | refine hk.calldA hz ?_ | refine hk.callA (ht _) ?_ | refine hk.calldA ht ?_ | refine hk.callA (hpw _) ?_ | refine hk.calldA hpw ?_ | refine hk.callA (hgv _) ?_ | refine hk.calldA hgv ?_ | rw [t1] | rw [t2] | rw [t3] | rw [t4] | rw [t5] | rw [t6] | rw [t7] | refine stp ?_) <;> (conv => cbv))
          | (refine stpB (fun _ => ?_) (fun _ => ?_) <;> (conv => cbv))
          | exact stpF
          | fail)
        all_goals exact hk.fin0 rfl rfl (Wk.refl _ _)
    · rw [if_neg hq24] at hS hZ
      have ht := fun h => rtake_rr all s1 34 h hzl
      obtain ⟨v0, _⟩ := tkW_range 34 s1
      have hlt := tkW_lt 34 s1 (by decide)
      have hgv := fun h => rgive_rr all (tkS 34 s1) 2 h
      obtain ⟨U, hU⟩ : ∃ x, x = rtS k s := ⟨_, rfl⟩
      obtain ⟨V, hV⟩ : ∃ x, x = tkW 34 s1 := ⟨_, rfl⟩
      obtain ⟨Z, hZd⟩ : ∃ x, x = rtZ k s := ⟨_, rfl⟩
      obtain ⟨W, hWd⟩ : ∃ x, x = rtW k s := ⟨_, rfl⟩
      obtain ⟨s3, hs3⟩ : ∃ x, x = tkS 34 s1 := ⟨_, rfl⟩
      obtain ⟨s4, hs4⟩ : ∃ x, x = gvS 2 s3 := ⟨_, rfl⟩
      simp only [← hs3, ← hV] at ht
      simp only [← hs3] at hgv
      simp only [← hs4] at hgv
      rw [← hZd, ← hV] at hZ
      rw [← hWd, ← hU, ← hZd] at hW
      rw [← hV] at v0 hlt
      rw [← hU, ← hV, ← hs3, ← hs4] at hS
      rw [← hU, ← hWd]
      subst hZ
      have h34 : (2 : Int) ^ (Int.toNat 34) = 17179869184 := by decide
      rw [h34] at hlt
      have hZ0 : 0 ≤ Z ∧ Z < 281474976710656 := by omega
      obtain ⟨P, hP⟩ : ∃ P : Int, P = 2 ^ k.toNat := ⟨_, rfl⟩
      rw [← hP] at hp0 hpk hS
      simp only [← hP] at hpw
      obtain ⟨Q, hQ⟩ : ∃ x, x = Z / P := ⟨_, rfl⟩
      rw [← hQ] at hS
      unfold rr at hz ht hgv ⊢
      obtain ⟨A, hA⟩ : ∃ P, P = strB s.1 := ⟨_, rfl⟩
      obtain ⟨A1, hA1⟩ : ∃ P, P = strB s1.1 := ⟨_, rfl⟩
      obtain ⟨A2, hA2⟩ : ∃ P, P = strB U.1 := ⟨_, rfl⟩
      obtain ⟨A3, hA3⟩ : ∃ P, P = strB s3.1 := ⟨_, rfl⟩
      obtain ⟨A4, hA4⟩ : ∃ P, P = strB s4.1 := ⟨_, rfl⟩
      obtain ⟨F, hF⟩ : ∃ P : Int, P = s.2 := ⟨_, rfl⟩
      obtain ⟨F1, hF1⟩ : ∃ P : Int, P = s1.2 := ⟨_, rfl⟩
      obtain ⟨F2, hF2⟩ : ∃ P : Int, P = U.2 := ⟨_, rfl⟩
      obtain ⟨F3, hF3⟩ : ∃ P : Int, P = s3.2 := ⟨_, rfl⟩
      obtain ⟨F4, hF4⟩ : ∃ P : Int, P = s4.2 := ⟨_, rfl⟩
      have hSS : (Q < 24 → A2 = A4 ∧ F2 = F4) ∧ (¬ Q < 24 → A2 = A3 ∧ F2 = F3) := by
        refine ⟨fun h => ?_, fun h => ?_⟩
        · rw [if_pos h] at hS; rw [hA2, hA4, hF2, hF4, hS]; exact ⟨rfl, rfl⟩
        · rw [if_neg h] at hS; rw [hA2, hA3, hF2, hF3, hS]; exact ⟨rfl, rfl⟩
      simp only [← hA, ← hF, ← hA1, ← hF1, ← hA2, ← hF2, ← hA3, ← hF3, ← hA4, ← hF4] at hz ht hgv hW ⊢
      clear hA hA1 hA2 hF hF1 hF2 hU hV hZd hWd hl hs1 hq hS hP hpk hlt hzl hA3 hA4 hF3 hF4 hs3 hs4 h34
      refine pure0 ?_ rfl rfl h
      refine doesF P_ok Tryz.f81 (by kernel_rfl) (by kernel_rfl) ?_
      intro i2 c2 u1 cv mx mn ad sbt bn bq ba lnI gtI apI sbI stI rpI lnG gtG apG sbG stG rpG fi fb fs fl fg fc sln sgt sap ssb sc b2s s2b nd call calld callv callvd loop rfun fin hk
      have hP0 : P ≠ 0 := by omega
      have hQr : 0 ≤ Q ∧ Q ≤ Z := by rw [hQ]; exact ⟨Int.ediv_nonneg hZ0.1 (by omega), Int.ediv_le_self _ hZ0.1⟩
      have t1 : i2 .quo .i64 Z P = Q := by rw [hk.i2_quo, Int.tdiv_eq_ediv_of_nonneg hZ0.1, ← hQ, wrap64 (by omega) (by omega)]
      have t2 : True := trivial
      clear hQ
      rcases Int.lt_or_le Q 24 with hQ | hQ
      · obtain ⟨e1, e2⟩ := hSS.1 hQ
        clear hSS
        subst e1 e2
        have t3 : i2 .rem .i64 Z 2 = Z % 2 := by rw [hk.i2_rem, Int.tmod_eq_emod_of_nonneg hZ0.1]
        have t4 : i2 .quo .i64 Z 2 = Z / 2 := by rw [hk.i2_quo, Int.tdiv_eq_ediv_of_nonneg hZ0.1, wrap64 (by omega) (by omega)]
        have t5 : i2 .add .i64 Z 1 = Z + 1 := hk.add64 _ _ (by omega) (by omega)
        have t6 : u1 .neg .i64 (Z + 1) = -(Z + 1) := by rw [hk.u1_neg, show (0 : Int) - (Z + 1) = -(Z + 1) by omega]; exact wrap64 (by omega) (by omega)
        have t7 : i2 .quo .i64 (-(Z + 1)) 2 = -((Z + 1) / 2) := by rw [hk.i2_quo, Int.neg_tdiv, Int.tdiv_eq_ediv_of_nonneg (by omega), wrap64 (by omega) (by omega)]
        have hW1 : F2 = 0 → Z % 2 = 1 → W = -((Z + 1) / 2) := fun h0 h1 => by rw [hW, if_pos h0, unZ, if_pos h1]; omega
        have hW2 : F2 = 0 → ¬ Z % 2 = 1 → W = Z / 2 := fun h0 h1 => by rw [hW, if_pos h0, unZ, if_neg h1]
        have hW3 : ¬ F2 = 0 → W = 0 := fun h0 => by rw [hW, if_neg h0]
        clear hW
        obtain ⟨p, hp⟩ : ∃ x, x = Z % 2 := ⟨_, rfl⟩
        obtain ⟨H2, hH2⟩ : ∃ x, x = Z / 2 := ⟨_, rfl⟩
        obtain ⟨N1, hN1⟩ : ∃ x, x = Z + 1 := ⟨_, rfl⟩
        obtain ⟨NN, hNN⟩ : ∃ x, x = -N1 := ⟨_, rfl⟩
        obtain ⟨RR, hRR⟩ : ∃ x, x = -(N1 / 2) := ⟨_, rfl⟩
        simp only [← hp, ← hH2, ← hN1] at t3 t4 t5 t6 t7 hW1 hW2
        simp only [← hNN] at t6 t7
        simp only [← hRR] at t7 hW1
        clear hp hH2 hNN hRR
        by_cases hF0 : F2 = 0
        · subst hF0
          by_cases hp1 : p = 1
          · have hW1 := hW1 rfl hp1
            subst hW1
            (conv => cbv)
            repeat' (first
              | assumption
              | ((first | refine hk.callA (hz _) ?_ | refine hk.calldA hz ?_ | refine hk.callA (ht _) ?_ | refine hk.calldA ht ?_ | refine hk.callA (hpw _) ?_ | refine hk.calldA hpw ?_ | refine hk.callA (hgv _) ?_ | refine hk.calldA hgv ?_ | rw [t1] | rw [t2] | rw [t3] | rw [t4] | rw [t5] | rw [t6] | rw [t7] | refine stp ?_) <;> (conv => cbv))
              | (refine stpB (fun _ => ?_) (fun _ => ?_) <;> (conv => cbv))
              | exact stpF
              | fail)
            all_goals exact hk.fin0 rfl rfl (Wk.refl _ _)
          · have hW2 := hW2 rfl hp1
            subst hW2
            (conv => cbv)
            repeat' (first
              | assumption
              | ((first | refine hk.callA (hz _) ?_ | refine hk.calldA hz ?_ | refine hk.callA (ht _) ?_ | refine hk.calldA ht ?_ | refine hk.callA (hpw _) ?_ | refine hk.calldA hpw ?_ | refine hk.callA (hgv _) ?_ | refine hk.calldA hgv ?_ | rw [t1] | rw [t2] | rw [t3] | rw [t4] | rw [t5] | rw [t6] | rw [t7] | refine stp ?_) <;> (conv => cbv))
              | (refine stpB (fun _ => ?_) (fun _ => ?_) <;> (conv => cbv))
              | exact stpF
              | fail)
            all_goals exact hk.fin0 rfl rfl (Wk.refl _ _)
        · have hW3 := hW3 hF0
          subst hW3
          (conv => cbv)
          repeat' (first
            | assumption
            | ((first | refine hk.callA (hz _) ?_ | refine hk.calldA hz ?_ | refine hk.callA (ht _) ?_ | refine hk.calldA ht ?_ | refine hk.callA (hpw _) ?_ | refine hk.calldA hpw ?_ | refine hk.callA (hgv _) ?_ | refine hk.calldA hgv ?_ | rw [t1] | rw [t2] | rw [t3] | rw [t4] | rw [t5] | rw [t6] | rw [t7] | refine stp ?_) <;> (conv => cbv))
            | (refine stpB (fun _ => ?_) (fun _ => ?_) <;> (conv => cbv))
            | exact stpF
            | fail)
          all_goals exact hk.fin0 rfl rfl (Wk.refl _ _)
      · obtain ⟨e1, e2⟩ := hSS.2 (by omega)
        clear hSS
        subst e1 e2
        have t3 : i2 .rem .i64 Z 2 = Z % 2 := by rw [hk.i2_rem, Int.tmod_eq_emod_of_nonneg hZ0.1]
        have t4 : i2 .quo .i64 Z 2 = Z / 2 := by rw [hk.i2_quo, Int.tdiv_eq_ediv_of_nonneg hZ0.1, wrap64 (by omega) (by omega)]
        have t5 : i2 .add .i64 Z 1 = Z + 1 := hk.add64 _ _ (by omega) (by omega)
        have t6 : u1 .neg .i64 (Z + 1) = -(Z + 1) := by rw [hk.u1_neg, show (0 : Int) - (Z + 1) = -(Z + 1) by omega]; exact wrap64 (by omega) (by omega)
        have t7 : i2 .quo .i64 (-(Z + 1)) 2 = -((Z + 1) / 2) := by rw [hk.i2_quo, Int.neg_tdiv, Int.tdiv_eq_ediv_of_nonneg (by omega), wrap64 (by omega) (by omega)]
        have hW1 : F2 = 0 → Z % 2 = 1 → W = -((Z + 1) / 2) := fun h0 h1 => by rw [hW, if_pos h0, unZ, if_pos h1]; omega
        have hW2 : F2 = 0 → ¬ Z % 2 = 1 → W = Z / 2 := fun h0 h1 => by rw [hW, if_pos h0, unZ, if_neg h1]
        have hW3 : ¬ F2 = 0 → W = 0 := fun h0 => by rw [hW, if_neg h0]
        clear hW
        obtain ⟨p, hp⟩ : ∃ x, x = Z % 2 := ⟨_, rfl⟩
        obtain ⟨H2, hH2⟩ : ∃ x, x = Z / 2 := ⟨_, rfl⟩
        obtain ⟨N1, hN1⟩ : ∃ x, x = Z + 1 := ⟨_, rfl⟩
        obtain ⟨NN, hNN⟩ : ∃ x, x = -N1 := ⟨_, rfl⟩
        obtain ⟨RR, hRR⟩ : ∃ x, x = -(N1 / 2) := ⟨_, rfl⟩
        simp only [← hp, ← hH2, ← hN1] at t3 t4 t5 t6 t7 hW1 hW2
        simp only [← hNN] at t6 t7
        simp only [← hRR] at t7 hW1
        clear hp hH2 hNN hRR
        by_cases hF0 : F2 = 0
        · subst hF0
          by_cases hp1 : p = 1
          · have hW1 := hW1 rfl hp1
            subst hW1
            (conv => cbv)
            repeat' (first
              | assumption
              | ((first | refine hk.callA (hz _) ?_ | refine hk.calldA hz ?_ | refine hk.callA (ht _) ?_ | refine hk.calldA ht ?_ | refine hk.callA (hpw _) ?_ | refine hk.calldA hpw ?_ | refine hk.callA (hgv _) ?_ | refine hk.calldA hgv ?_ | rw [t1] | rw [t2] | rw [t3] | rw [t4] | rw [t5] | rw [t6] | rw [t7] | refine stp ?_) <;> (conv => cbv))
              | (refine stpB (fun _ => ?_) (fun _ => ?_) <;> (conv => cbv))
              | exact stpF
              | fail)
            all_goals exact hk.fin0 rfl rfl (Wk.refl _ _)
          · have hW2 := hW2 rfl hp1
            subst hW2
            (conv => cbv)
            repeat' (first
              | assumption
              | ((first | refine hk.callA (hz _) ?_ | refine hk.calldA hz ?_ | refine hk.callA (ht _) ?_ | refine hk.calldA ht ?_ | refine hk.callA (hpw _) ?_ | refine hk.calldA hpw ?_ | refine hk.callA (hgv _) ?_ | refine hk.calldA hgv ?_ | rw [t1] | rw [t2] | rw [t3] | rw [t4] | rw [t5] | rw [t6] | rw [t7] | refine stp ?_) <;> (conv => cbv))
              | (refine stpB (fun _ => ?_) (fun _ => ?_) <;> (conv => cbv))
              | exact stpF
              | fail)
            all_goals exact hk.fin0 rfl rfl (Wk.refl _ _)
        · have hW3 := hW3 hF0
          subst hW3
          (conv => cbv)
          repeat' (first
            | assumption
            | ((first | refine hk.callA (hz _) ?_ | refine hk.calldA hz ?_ | refine hk.callA (ht _) ?_ | refine hk.calldA ht ?_ | refine hk.callA (hpw _) ?_ | refine hk.calldA hpw ?_ | refine hk.callA (hgv _) ?_ | refine hk.calldA hgv ?_ | rw [t1] | rw [t2] | rw [t3] | rw [t4] | rw [t5] | rw [t6] | rw [t7] | refine stp ?_) <;> (conv => cbv))
            | (refine stpB (fun _ => ?_) (fun _ => ?_) <;> (conv => cbv))
            | exact stpF
            | fail)
          all_goals exact hk.fin0 rfl rfl (Wk.refl _ _)
/-- Numbers in two's complement that come next, by the document. -/
theorem rints_rr (all : Int) (s : RS) (n bits : Int) (h : Heap) (hl : s.1.length < 1099511627776) (hn0 : 0 ≤ n) (hn1 : n ≤ 1024) (h1 : 1 ≤ bits) (h2 : bits ≤ 47) :
    Does PP 40 [rr all s, I n, I bits] h (Is (.tup [rr all (tnR bits n s).1, LI (tnR bits n s).2]) h) := by
  obtain ⟨R, hR⟩ : ∃ R, R = tnR bits n s := ⟨_, rfl⟩
  obtain ⟨Inv, hInv⟩ : ∃ Inv : Int → List UInt8 → Int → List Int → Prop, ∀ i S f l, Inv i S f l ↔ ∃ t : RS, S = strB t.1 ∧ f = t.2 ∧ t.1.length ≤ s.1.length ∧ 0 ≤ i ∧ i ≤ n ∧ l.length = i.toNat ∧ itS (tkS bits) (sgW bits) (n - i).toNat t l = R := ⟨_, fun _ _ _ _ => Iff.rfl⟩
  have hI0 : Inv 0 (strB s.1) s.2 [] := (hInv _ _ _ _).2 ⟨s, rfl, rfl, Nat.le_refl _, Int.le_refl _, hn0, rfl, by rw [Int.sub_zero, hR]; rfl⟩
  have hI : ∀ i S f l, Inv i S f l → 0 ≤ i ∧ i ≤ n ∧ l.length = i.toNat ∧ (i < n → f = 0 → ∃ v S1 f1, (∀ h, Does PP 39 [rrd S all f, I bits] h (Is (.tup [rrd S1 all f1, I v]) h)) ∧ Inv (i + 1) S1 f1 (l ++ [v])) ∧ (i = n ∨ f ≠ 0 → S = strB R.1.1 ∧ f = R.1.2 ∧ l = R.2) := fun i S f l h => by
    obtain ⟨t, a1, a2, a3, a4, a5, a6, a7⟩ := (hInv i S f l).1 h
    refine ⟨a4, a5, a6, fun hin hf => ?_, fun hend => ?_⟩
    · rw [show (n - i).toNat = (n - (i + 1)).toNat + 1 by omega, itS, if_neg (by rw [← a2]; exact fun h => h hf)] at a7
      refine ⟨sgW bits t, strB (tkS bits t).1, (tkS bits t).2, fun h => ?_, (hInv _ _ _ _).2 ⟨tkS bits t, rfl, rfl, ?_, by omega, by omega, ?_, a7⟩⟩
      · rw [a1, a2]
        exact rint_rr all t bits h (by omega) h1 h2
      · unfold tkS; rw [List.length_drop]; omega
      · rw [List.length_append, a6]; simp only [List.length_cons, List.length_nil]; omega
    · have : itS (tkS bits) (sgW bits) (n - i).toNat t l = (t, l) := by
        rcases hend with h | h
        · rw [show (n - i).toNat = 0 by omega]; rfl
        · exact itS_fail _ _ _ _ _ (by rw [← a2]; exact h)
      rw [this] at a7
      rw [← a7]
      exact ⟨a1, a2, rfl⟩
  clear hInv
  rw [← hR]
  clear hR
  unfold rr
  obtain ⟨S0, hS0⟩ : ∃ P, P = strB s.1 := ⟨_, rfl⟩
  obtain ⟨F0, hF0⟩ : ∃ P : Int, P = s.2 := ⟨_, rfl⟩
  obtain ⟨S9, hS9⟩ : ∃ P, P = strB R.1.1 := ⟨_, rfl⟩
  obtain ⟨F9, hF9⟩ : ∃ P : Int, P = R.1.2 := ⟨_, rfl⟩
  obtain ⟨L9, hL9⟩ : ∃ P, P = R.2 := ⟨_, rfl⟩
  simp only [← hS0, ← hF0, ← hS9, ← hF9, ← hL9] at *
  clear hS0 hF0 hS9 hF9 hL9
  refine pure0 ?_ rfl rfl h
  refine doesF P_ok Tryz.f40 (by kernel_rfl) (by kernel_rfl) ?_
  intro i2 c2 u1 cv mx mn ad sbt bn bq ba lnI gtI apI sbI stI rpI lnG gtG apG sbG stG rpG fi fb fs fl fg fc sln sgt sap ssb sc b2s s2b nd call calld callv callvd loop rfun fin hk
  have hl1 : ∀ x, lnI [x] = 1 := fun x => hk.lnI_eq _
  (conv => cbv)
  repeat' (first
    | assumption
    | ((first | refine stp ?_) <;> (conv => cbv))
    | (refine stpB (fun _ => ?_) (fun _ => ?_) <;> (conv => cbv))
    | exact stpF
    | fail)
  refine hk.loopI (loop_rule (α := Int × List UInt8 × Int × List Int) (fun x => [(1, .int .i64 n), (2, .int .i64 bits), (3, .ptr 0 0), (6, .ptr 1 0), (7, .ls .nl .nil), (8, .ls (.il .i64 x.2.2.2) (.tok 2 0)), (9, .int .i64 x.1)]) (fun x => [.box [.str x.2.1, .int .i64 all, .int .i64 x.2.2.1], .box [.str [], .int .i64 0, .int .i64 0], .tok 0])
    (fun x => Inv x.1 x.2.1 x.2.2.1 x.2.2.2) (fun x => (n - x.1).toNat) (0, S0, F0, []) hI0 ?_ ?_)
  · refine Gh.trans (Gh.thaw 8 (.il .i64 []) rfl trivial rfl) (Gh.tm ?_)
    repeat' (first | exact Holds.nil _ _ | refine Holds.cons (Wk.refl _ _) ?_)
  intro ⟨i, S, f, l⟩ hJ Q' hb hx hr
  simp only at hJ
  obtain ⟨i0, i1, hll, c1, c2⟩ := hI i S f l hJ
  dsimp only
  by_cases hin : i < n ∧ f = 0
  · obtain ⟨hin, hf⟩ := hin
    subst hf
    obtain ⟨v, S1, f1, hint, hJ1⟩ := c1 hin rfl
    obtain ⟨l2, hl2⟩ : ∃ x, x = l ++ [v] := ⟨_, rfl⟩
    rw [← hl2] at hJ1
    have hap : apI l [v] = l2 := by rw [hl2]; exact hk.apI_eq _ _
    have hln : lnI l ≤ 2000 := by rw [hk.lnI_eq]; omega
    have hln0 := hk.lnI_nn l
    clear c1 c2
    (conv => cbv)
    repeat' (first
      | assumption
      | ((first | refine hk.callA (hint _) ?_ | refine hk.calldA hint ?_ | rw [hl1] | rw [hap] | refine hk.needI (by first | (simp only [rNd, hk.ad_eq, hk.sb_eq]; omega) | (simp [rNd, hk.ad_eq, hk.sb_eq]; omega)) ?_ | refine stp ?_) <;> (conv => cbv))
      | (refine stpB (fun _ => ?_) (fun _ => ?_) <;> (conv => cbv))
      | exact stpF
      | fail)
    refine hb (i + 1, S1, f1, l2) _ hJ1 (by simp only; omega) ?_
    refine Gh.retok 2 1 rfl (Nat.le_of_ble_eq_true rfl) ?_ rfl rfl
    repeat' (first | exact HoldsT.nil _ _ _ _ | refine HoldsT.tok rfl ?_ | refine HoldsT.cons (Wk.refl _ _) rfl ?_ | refine HoldsT.cons (Wk.of_eq ?_) rfl ?_)
    all_goals first
      | (rw [← hk.add64 i 1 (by omega) (by omega)]; rfl)
      | rfl
      | skip
  · obtain ⟨e1, e2, e3⟩ := c2 (by omega)
    subst e1 e2 e3
    clear c1 c2
    by_cases hin2 : i < n
    · have : f ≠ 0 := fun h => hin ⟨hin2, h⟩
      (conv => cbv)
      repeat' (first
        | assumption
        | ((first | refine hx _ _ ?_ | refine stp ?_) <;> (conv => cbv))
        | (refine stpB (fun _ => ?_) (fun _ => ?_) <;> (conv => cbv))
        | exact stpF
        | fail)
      all_goals exact hk.fin0 rfl rfl (Wk.tup ⟨.refl _ _, Wk.any _ _ _, trivial⟩)
    · (conv => cbv)
      repeat' (first
        | assumption
        | ((first | refine hx _ _ ?_ | refine stp ?_) <;> (conv => cbv))
        | (refine stpB (fun _ => ?_) (fun _ => ?_) <;> (conv => cbv))
        | exact stpF
        | fail)
      all_goals exact hk.fin0 rfl rfl (Wk.tup ⟨.refl _ _, Wk.any _ _ _, trivial⟩)
end Go.Proofs.YtfjdmgnhklpiiaaGreat
set_option maxHeartbeats 4000000
set_option maxRecDepth 20000
set_option linter.unusedSimpArgs false
set_option linter.unusedVariables false
open Go Go.AL
namespace Go.Proofs.YtfjdmgnhklpiiaaGreat
theorem tkS_le (n : Int) (s : RS) : (tkS n s).1.length ≤ s.1.length := by unfold tkS; rw [List.length_drop]; omega
theorem zrS_le (m : Int) (s : RS) : (zrS m s).1.length ≤ s.1.length := by
  unfold zrS
  split
  · exact zrun_len m s.1 0
  · exact Nat.le_refl _
theorem rtS_le (k : Int) (s : RS) : (rtS k s).1.length ≤ s.1.length := by
  have h1 := zrS_le 24 s
  have h2 := tkS_le k (zrS 24 s)
  have h3 := tkS_le 34 (zrS 24 s)
  unfold rtS
  repeat' split
  · exact Nat.le_refl _
  · omega
  · show (tkS 34 (zrS 24 s)).1.length ≤ _
    omega
  · omega
theorem itS_le (f : RS → RS) (g : RS → Int) (hf : ∀ s, (f s).1.length ≤ s.1.length) : ∀ (j : Nat) (s : RS) (l : List Int), (itS f g j s l).1.1.length ≤ s.1.length
  | 0, s, l => Nat.le_refl _
  | j + 1, s, l => by
    rw [itS]
    split
    · exact Nat.le_refl _
    · exact Nat.le_trans (itS_le f g hf j _ _) (hf s)
theorem slI_le (m : Nat) : ∀ (i : Nat) (s : RS) (ks l : List Int), (slI m i s ks l).1.1.length ≤ s.1.length
  | 0, s, ks, l => Nat.le_refl _
  | i + 1, s, ks, l => by
    rw [slI]
    split
    · exact Nat.le_refl _
    · exact Nat.le_trans (slI_le m i _ _ _) (Nat.le_trans (itS_le _ _ (rtS_le _) _ _ _) (tkS_le _ _))
theorem rsl_plan (all : Int) (m cnt : Int) (hm : 0 ≤ m) (hc : 0 ≤ cnt) (s0 : RS) (hl : s0.1.length < 1099511627776) :
    ∃ Inv : Int → List UInt8 → Int → List Int → List Int → Prop, Inv 0 (strB s0.1) s0.2 [] [] ∧ ∀ i S f ks l, Inv i S f ks l → 0 ≤ i ∧ i ≤ cnt ∧ ks.length = i.toNat ∧ l.length ≤ i.toNat * m.toNat ∧
      (i < cnt → f = 0 → ∃ (k : Int) (S1 : List UInt8) (f1 : Int), (∀ h, Does PP 38 [rrd S all f, I 5] h (Is (.tup [rrd S1 all f1, I k]) h)) ∧
        ∃ Inv1 : Int → List UInt8 → Int → List Int → Prop, Inv1 0 S1 f1 l ∧ ∀ j S f l', Inv1 j S f l' → 0 ≤ j ∧ j ≤ m ∧ l'.length ≤ l.length + j.toNat ∧
          (j < m → f = 0 → ∃ (v : Int) (S2 : List UInt8) (f2 : Int), (∀ h, Does PP 81 [rrd S all f, I k] h (Is (.tup [rrd S2 all f2, I v]) h)) ∧ Inv1 (j + 1) S2 f2 (l' ++ [v])) ∧
          (j = m ∨ f ≠ 0 → Inv (i + 1) S f (ks ++ [k]) l')) ∧
      (i = cnt ∨ f ≠ 0 → S = strB (slI m.toNat cnt.toNat s0 [] []).1.1 ∧ f = (slI m.toNat cnt.toNat s0 [] []).1.2 ∧ ks = (slI m.toNat cnt.toNat s0 [] []).2.1 ∧ l = (slI m.toNat cnt.toNat s0 [] []).2.2) := by
  obtain ⟨R, hR⟩ : ∃ R, R = slI m.toNat cnt.toNat s0 [] [] := ⟨_, rfl⟩
  rw [← hR]
  refine ⟨fun i S f ks l => ∃ s : RS, S = strB s.1 ∧ f = s.2 ∧ s.1.length ≤ s0.1.length ∧ 0 ≤ i ∧ i ≤ cnt ∧ ks.length = i.toNat ∧ l.length ≤ i.toNat * m.toNat ∧ slI m.toNat (cnt - i).toNat s ks l = R,
    ⟨s0, rfl, rfl, Nat.le_refl _, Int.le_refl _, hc, rfl, by simp, by rw [Int.sub_zero, hR]⟩, ?_⟩
  intro i S f ks l ⟨s, hS, hf, hsl, i0, i1, hkl, hll, hsR⟩
  refine ⟨i0, i1, hkl, hll, fun hin hf0 => ?_, fun hend => ?_⟩
  · rw [show (cnt - i).toNat = (cnt - (i + 1)).toNat + 1 by omega, slI, if_neg (by rw [← hf]; exact fun h => h hf0)] at hsR
    have ht := fun h => rtake_rr all s 5 h (by omega)
    have hs5 := tkS_le 5 s
    obtain ⟨k, hk⟩ : ∃ k, k = tkW 5 s := ⟨_, rfl⟩
    simp only [← hk] at hsR ht
    obtain ⟨Ri, hRi⟩ : ∃ R, R = itS (rtS k) (rtW k) m.toNat (tkS 5 s) l := ⟨_, rfl⟩
    rw [← hRi] at hsR
    refine ⟨k, strB (tkS 5 s).1, (tkS 5 s).2, fun h => by rw [hS, hf]; exact ht h, fun j S f l' => ∃ t : RS, S = strB t.1 ∧ f = t.2 ∧ t.1.length ≤ s0.1.length ∧ 0 ≤ j ∧ j ≤ m ∧ l'.length ≤ l.length + j.toNat ∧ itS (rtS k) (rtW k) (m - j).toNat t l' = Ri,
      ⟨tkS 5 s, rfl, rfl, by omega, Int.le_refl _, hm, by simp, by rw [Int.sub_zero, hRi]⟩, ?_⟩
    intro j S' f' l' ⟨t, tS, tf, tl, j0, j1, jl, tR⟩
    refine ⟨j0, j1, jl, fun hjm hf1 => ?_, fun hend => ?_⟩
    · rw [show (m - j).toNat = (m - (j + 1)).toNat + 1 by omega, itS, if_neg (by rw [← tf]; exact fun h => h hf1)] at tR
      have hle := rtS_le k t
      refine ⟨rtW k t, strB (rtS k t).1, (rtS k t).2, fun h => by rw [tS, tf]; exact rrice_rr all t k h (by omega), rtS k t, rfl, rfl, by omega, by omega, by omega, ?_, tR⟩
      rw [List.length_append]; simp only [List.length_cons, List.length_nil]; omega
    · have : itS (rtS k) (rtW k) (m - j).toNat t l' = (t, l') := by
        rcases hend with h | h
        · rw [show (m - j).toNat = 0 by omega]; rfl
        · exact itS_fail _ _ _ _ _ (by rw [← tf]; exact h)
      rw [this] at tR
      rw [← tR] at hsR
      refine ⟨t, tS, tf, tl, by omega, by omega, ?_, ?_, hsR⟩
      · rw [List.length_append, hkl]; simp only [List.length_cons, List.length_nil]; omega
      · rw [show (i + 1).toNat = i.toNat + 1 by omega, Nat.succ_mul]; omega
  · have : slI m.toNat (cnt - i).toNat s ks l = (s, ks, l) := by
      rcases hend with h | h
      · rw [show (cnt - i).toNat = 0 by omega]; rfl
      · exact slI_fail _ _ _ _ _ (by rw [← hf]; exact h)
    rw [this] at hsR
    rw [← hsR]
    exact ⟨hS, hf, rfl, rfl⟩
theorem row_rz3 (i G : Nat) (m p : Int) (ks : List Int) (a b : AVal) (ha : rz i G (.il .i64 ks) a = a) (hb : rz i G (.il .i64 ks) b = b) (hm : m = (ks.length : Nat)) : rz i G (.il .i64 ks) (.tup [a, b, .agg [I p, .sl i G 0 m]]) = .tup [a, b, .agg [I p, LI ks]] := by
  have e2 : rz i G (.il .i64 ks) (.sl i G 0 m) = LI ks := by
    rw [rz_sl]
    show AVal.ls (.il .i64 (rSub ks 0 m)) .any = _
    rw [show rSub ks 0 m = ks by
      show (ks.drop (Int.toNat 0)).take (m - 0).toNat = ks
      rw [Int.toNat_zero, List.drop_zero, List.take_of_length_le (by omega)]]
  show AVal.tup [rz i G (.il .i64 ks) a, rz i G (.il .i64 ks) b, .agg [I p, rz i G (.il .i64 ks) (.sl i G 0 m)]] = _
  rw [e2, ha, hb]
theorem rslide_rr (all : Int) (s : RS) (n : Int) (h : Heap) (hl : s.1.length < 1099511627776) (hn1 : 1 ≤ n) (hn2 : n ≤ 1024) :
    Does PP 41 [rr all s, I n] h (Is (.tup [rr all (slS n s), LI (if (slS n s).2 = 0 then slL n s else []), .agg [I (if (slS n s).2 = 0 then tkW 2 s else 0), LI (if (slS n s).2 = 0 then slK n s else [])]]) h) := by
  have ht := fun h => rtake_rr all s 2 h hl
  obtain ⟨v0, _⟩ := tkW_range 2 s
  have v1 := tkW_lt 2 s (by decide)
  have h4 : (2 : Int) ^ (Int.toNat 2) = 4 := by decide
  rw [h4] at v1
  have hgv := fun h => rgive_rr all (tkS 2 s) 2 h
  have hpw := fun h => power_spec (tkW 2 s) h (by omega)
  have hp8 : ∀ k : Nat, k ≤ 3 → (1 : Int) ≤ 2 ^ k ∧ (2 : Int) ^ k ≤ 8 := by decide
  obtain ⟨w1, w8⟩ := hp8 (tkW 2 s).toNat (by omega)
  by_cases hdv : n % 2 ^ (tkW 2 s).toNat ≠ 0
  · have hS : slS n s = gvS 2 (tkS 2 s) := if_pos hdv
    have hne : (slS n s).2 ≠ 0 := by
      rw [hS]; unfold gvS; simp only; split <;> omega
    rw [if_neg hne, if_neg hne, if_neg hne]
    rw [hS] at hne ⊢
    unfold rr at *
    obtain ⟨V, hV⟩ : ∃ V, V = tkW 2 s := ⟨_, rfl⟩
    obtain ⟨W, hW⟩ : ∃ W : Int, W = 2 ^ (tkW 2 s).toNat := ⟨_, rfl⟩
    obtain ⟨S0, hS0⟩ : ∃ V, V = strB s.1 := ⟨_, rfl⟩
    obtain ⟨f0, hf0⟩ : ∃ V, V = s.2 := ⟨_, rfl⟩
    obtain ⟨S1, hS1⟩ : ∃ V, V = strB (tkS 2 s).1 := ⟨_, rfl⟩
    obtain ⟨f1, hf1⟩ : ∃ V, V = (tkS 2 s).2 := ⟨_, rfl⟩
    obtain ⟨S2, hS2⟩ : ∃ V, V = strB (gvS 2 (tkS 2 s)).1 := ⟨_, rfl⟩
    obtain ⟨f2, hf2⟩ : ∃ V, V = (gvS 2 (tkS 2 s)).2 := ⟨_, rfl⟩
    simp only [← hW] at hdv hpw w1 w8
    simp only [← hV, ← hS0, ← hf0, ← hS1, ← hf1, ← hS2, ← hf2] at ht hgv hpw v0 v1 hne ⊢
    clear hV hS0 hf0 hS1 hf1 hS2 hf2 hS hW hl hp8 h4
    obtain ⟨D, hD⟩ : ∃ D, D = n % W := ⟨_, rfl⟩
    rw [← hD] at hdv
    refine pure0 ?_ rfl rfl h
    refine doesFs (fun f => f == 9999 || f == 18004) P_ok Tryz.f41 (by kernel_rfl) (by kernel_rfl) ?_
    intro i2 c2 u1 cv mx mn ad sbt bn bq ba lnI gtI apI sbI stI rpI lnG gtG apG sbG stG rpG fi fb fs fl fg fc sln sgt sap ssb sc b2s s2b nd call calld callv callvd loop rfun fin hk
    have t1 : i2 .rem .i64 n W = D := by rw [hk.i2_rem, Int.tmod_eq_emod_of_nonneg (by omega)]; exact hD.symm
    have hW0 : W ≠ 0 := by omega
    clear hD
    (conv => cbv)
    repeat' (first
      | assumption
      | ((first | refine hk.callA (ht _) ?_ | refine hk.calldA ht ?_ | refine hk.callA (hgv _) ?_ | refine hk.calldA hgv ?_ | refine hk.callA (hpw _) ?_ | refine hk.calldA hpw ?_ | rw [t1] | refine stp ?_) <;> (conv => cbv))
      | (refine stpB (fun _ => ?_) (fun _ => ?_) <;> (conv => cbv))
      | exact stpF
      | fail)
    refine hk.loopI (loop_rule (α := Unit) (fun x => [(1, .int .i64 n), (2, .ptr 0 0), (4, .ptr 1 0), (6, .ptr 2 0), (7, .int .i64 V), (8, .ptr 3 0), (9, .ls .nl .nil), (10, .int .i64 0)])
      (fun x => [.box [.str S2, .int .i64 all, .int .i64 f2], .box [.str [], .int .i64 0, .int .i64 0], .box [.int .i64 0, .ls .nl .nil], .box [.int .i64 V, .ls .nl .nil]])
      (fun x => True) (fun x => 0) () trivial ?_ ?_)
    · exact Gh.tm (by repeat (first | exact Holds.nil _ _ | refine Holds.cons (Wk.refl _ _) ?_))
    intro _ _ Q' hb hx hr
    (conv => cbv)
    repeat' (first
      | assumption
      | ((first | refine hk.callA (hpw _) ?_ | refine hk.calldA hpw ?_ | refine hx _ _ ?_ | refine hr _ ?_ | refine stp ?_) <;> (conv => cbv))
      | (refine stpB (fun _ => ?_) (fun _ => ?_) <;> (conv => cbv))
      | exact stpF
      | fail)
    all_goals exact hk.fin0 rfl rfl (Wk.tup ⟨.refl _ _, Wk.nilL _ _, Wk.agg ⟨.refl _ _, Wk.nilL _ _, trivial⟩, trivial⟩)
  · have hdv0 : n % 2 ^ (tkW 2 s).toNat = 0 := Decidable.not_not.1 hdv
    have hm0 : 0 ≤ n / 2 ^ (tkW 2 s).toNat := Int.ediv_nonneg (by omega) (by omega)
    have hmn : n / 2 ^ (tkW 2 s).toNat ≤ n := Int.ediv_le_self _ (by omega)
    have hpn : ((2 ^ (tkW 2 s).toNat : Nat) : Int) = 2 ^ (tkW 2 s).toNat := by simp
    have eS : slS n s = (slI (n / 2 ^ (tkW 2 s).toNat).toNat (2 ^ (tkW 2 s).toNat) (tkS 2 s) [] []).1 := if_neg hdv
    have eK : slK n s = (slI (n / 2 ^ (tkW 2 s).toNat).toNat (2 ^ (tkW 2 s).toNat) (tkS 2 s) [] []).2.1 := rfl
    have eL : slL n s = (slI (n / 2 ^ (tkW 2 s).toNat).toNat (2 ^ (tkW 2 s).toNat) (tkS 2 s) [] []).2.2 := rfl
    have hle := tkS_le 2 s
    obtain ⟨Inv, hI0, hI⟩ := rsl_plan all (n / 2 ^ (tkW 2 s).toNat) (2 ^ (tkW 2 s).toNat) hm0 (by omega) (tkS 2 s) (by omega)
    rw [show ((2 : Int) ^ (tkW 2 s).toNat).toNat = 2 ^ (tkW 2 s).toNat by omega, ← eS, ← eK, ← eL] at hI
    unfold rr at *
    obtain ⟨V, hV⟩ : ∃ V, V = tkW 2 s := ⟨_, rfl⟩
    obtain ⟨W, hW⟩ : ∃ W : Int, W = 2 ^ (tkW 2 s).toNat := ⟨_, rfl⟩
    obtain ⟨m, hm⟩ : ∃ W : Int, W = n / 2 ^ (tkW 2 s).toNat := ⟨_, rfl⟩
    obtain ⟨S0, hS0⟩ : ∃ V, V = strB s.1 := ⟨_, rfl⟩
    obtain ⟨f0, hf0⟩ : ∃ V, V = s.2 := ⟨_, rfl⟩
    obtain ⟨S1, hS1⟩ : ∃ V, V = strB (tkS 2 s).1 := ⟨_, rfl⟩
    obtain ⟨f1, hf1⟩ : ∃ V, V = (tkS 2 s).2 := ⟨_, rfl⟩
    obtain ⟨S9, hS9⟩ : ∃ V, V = strB (slS n s).1 := ⟨_, rfl⟩
    obtain ⟨F, hF⟩ : ∃ V, V = (slS n s).2 := ⟨_, rfl⟩
    obtain ⟨K, hK⟩ : ∃ V, V = slK n s := ⟨_, rfl⟩
    obtain ⟨L, hL⟩ : ∃ V, V = slL n s := ⟨_, rfl⟩
    simp only [← hm] at hI hm0 hmn
    simp only [← hW] at hI hpw w1 w8 hdv0 hm
    simp only [← hV, ← hS0, ← hf0, ← hS1, ← hf1, ← hS9, ← hF, ← hK, ← hL] at ht hpw v0 v1 hI hI0 ⊢
    clear hV hS0 hf0 hS1 hf1 hS9 hF hK hL hW hl hp8 h4 eS eK eL hdv hpn hgv hle
    refine pure0 ?_ rfl rfl h
    refine doesFs (fun f => f == 9999 || f == 18004) P_ok Tryz.f41 (by kernel_rfl) (by kernel_rfl) ?_
    intro i2 c2 u1 cv mx mn ad sbt bn bq ba lnI gtI apI sbI stI rpI lnG gtG apG sbG stG rpG fi fb fs fl fg fc sln sgt sap ssb sc b2s s2b nd call calld callv callvd loop rfun fin hk
    have t1 : i2 .rem .i64 n W = 0 := by rw [hk.i2_rem, Int.tmod_eq_emod_of_nonneg (by omega)]; exact hdv0
    have t2 : i2 .quo .i64 n W = m := by rw [hk.i2_quo, Int.tdiv_eq_ediv_of_nonneg (by omega), ← hm, wrap64 (by omega) (by omega)]
    have hW0 : W ≠ 0 := by omega
    have hl1 : ∀ x, lnI [x] = 1 := fun x => hk.lnI_eq _
    clear hm
    (conv => cbv)
    repeat' (first
      | assumption
      | ((first | refine hk.callA (ht _) ?_ | refine hk.calldA ht ?_ | refine hk.callA (hpw _) ?_ | refine hk.calldA hpw ?_ | rw [t1] | refine stp ?_) <;> (conv => cbv))
      | (refine stpB (fun _ => ?_) (fun _ => ?_) <;> (conv => cbv))
      | exact stpF
      | fail)
    refine hk.loopI (loop_rule (α := Nat × List UInt8 × Int × List Int × List Int × Int) (fun x => [(1, .int .i64 n), (2, .ptr 0 0), (4, .ptr 1 0), (6, .ptr 2 0), (7, .int .i64 V), (8, .ptr 3 0), (9, .ls (.il .i64 x.2.2.2.2.1) (.tok 5 0)), (10, .int .i64 x.2.2.2.2.2)])
      (fun x => [.box [.str x.2.1, .int .i64 all, .int .i64 x.2.2.1], .box [.str [], .int .i64 0, .int .i64 0], .box [.int .i64 0, .ls .nl .nil], .box [.int .i64 V, .sl 4 x.1 0 x.2.2.2.2.2], .rw x.1 (.il .i64 x.2.2.2.1), .tok 0])
      (fun x => x.2.2.2.2.2 = x.1 ∧ Inv x.2.2.2.2.2 x.2.1 x.2.2.1 x.2.2.2.1 x.2.2.2.2.1) (fun x => (W - x.2.2.2.2.2).toNat) (0, S1, f1, [], [], 0) ⟨rfl, hI0⟩ ?_ ?_)
    · refine Gh.trans (Gh.ghost (GE.thawRow 3 1 [.int .i64 V, .ls .nl .nil] (.il .i64 []) rfl rfl rfl) (Nat.le_of_ble_eq_true rfl)) (Gh.trans (Gh.thaw 9 (.il .i64 []) rfl trivial rfl) (Gh.tm ?_))
      repeat' (first | exact Holds.nil _ _ | refine Holds.cons (Wk.refl _ _) ?_)
    intro ⟨G, S, f, ks, l, i⟩ ⟨hiG, hJ⟩ Q' hb hx hr
    simp only at hiG hJ
    obtain ⟨i0, i1, hkl, hll, c1, c2⟩ := hI i S f ks l hJ
    dsimp only
    have hbq : Nat.beq G G = true := Nat.beq_refl G
    conv at hbq => cbv
    have hll2 : l.length ≤ 8192 := by
      have : i.toNat * m.toNat ≤ 8 * 1024 := Nat.mul_le_mul (by omega) (by omega)
      omega
    by_cases hiW : i < W ∧ f = 0
    · obtain ⟨hiW, hf⟩ := hiW
      subst hf
      obtain ⟨k, S2, f2, htk, Inv1, hJ1, hI1⟩ := c1 hiW rfl
      clear c1 c2
      obtain ⟨ks2, hks2⟩ : ∃ x, x = ks ++ [k] := ⟨_, rfl⟩
      have hap : apI ks [k] = ks2 := by rw [hks2]; exact hk.apI_eq _ _
      have hlk : lnI ks = i := by rw [hk.lnI_eq]; omega
      obtain ⟨i2, hi2⟩ : ∃ x, x = i + 1 := ⟨_, rfl⟩
      have hlk2 : lnI ks2 = i2 := by rw [hk.lnI_eq, hks2, List.length_append]; simp only [List.length_cons, List.length_nil]; omega
      (conv => cbv)
      repeat' (first
        | assumption
        | ((first | refine hk.callA (hpw _) ?_ | refine hk.calldA hpw ?_ | refine hk.callA (htk _) ?_ | refine hk.calldA htk ?_ | rw [hbq] | rw [hap] | rw [hlk] | rw [hl1] | refine stp ?_) <;> (conv => cbv))
        | (refine stpB (fun _ => ?_) (fun _ => ?_) <;> (conv => cbv))
        | exact stpF
        | fail)
      rw [hlk2]
      generalize hG1 : G.succ = G1
      refine hk.loopI (loop_rule (α := List UInt8 × Int × List Int × Int) (fun x => [(1, .int .i64 n), (2, .ptr 0 0), (4, .ptr 1 0), (6, .ptr 2 0), (7, .int .i64 V), (8, .ptr 3 0), (9, .ls (.il .i64 x.2.2.1) (.tok 5 0)), (10, .int .i64 i), (12, .int .i64 k), (13, .int .i64 x.2.2.2)])
        (fun x => [.box [.str x.1, .int .i64 all, .int .i64 x.2.1], .box [.str [], .int .i64 0, .int .i64 0], .box [.int .i64 0, .ls .nl .nil], .box [.int .i64 V, .sl 4 G1 0 i2], .rw G1 (.il .i64 ks2), .tok 0])
        (fun x => Inv1 x.2.2.2 x.1 x.2.1 x.2.2.1) (fun x => (m - x.2.2.2).toNat) (S2, f2, l, 0) hJ1 ?_ ?_)
      · refine Gh.low 6 (Nat.le_of_ble_eq_true rfl) ?_ rfl rfl rfl
        repeat' (first | exact Holds.nil _ _ | refine Holds.cons (Wk.refl _ _) ?_)
      intro ⟨S3, f3, l3, j⟩ hJ2 Q2 hb2 hx2 hr2
      simp only at hJ2
      obtain ⟨j0, j1, hl3, d1, d2⟩ := hI1 j S3 f3 l3 hJ2
      dsimp only
      by_cases hjm : j < m ∧ f3 = 0
      · obtain ⟨hjm, hf3⟩ := hjm
        subst hf3
        obtain ⟨v, S4, f4, hrt, hJ3⟩ := d1 hjm rfl
        clear d1 d2
        obtain ⟨l4, hl4⟩ : ∃ x, x = l3 ++ [v] := ⟨_, rfl⟩
        rw [← hl4] at hJ3
        have hap2 : apI l3 [v] = l4 := by rw [hl4]; exact hk.apI_eq _ _
        have hln3 : lnI l3 ≤ 10000 := by rw [hk.lnI_eq]; omega
        have hln3' := hk.lnI_nn l3
        (conv => cbv)
        repeat' (first
          | assumption
          | ((first | refine hk.callA (hpw _) ?_ | refine hk.calldA hpw ?_ | rw [t2] | refine hk.callA (hrt _) ?_ | refine hk.calldA hrt ?_ | rw [hl1] | rw [hap2] | refine hk.needI (by first | (simp only [rNd, hk.ad_eq, hk.sb_eq]; omega) | (simp [rNd, hk.ad_eq, hk.sb_eq]; omega)) ?_ | refine stp ?_) <;> (conv => cbv))
          | (refine stpB (fun _ => ?_) (fun _ => ?_) <;> (conv => cbv))
          | exact stpF
          | fail)
        refine hb2 (S4, f4, l4, j + 1) _ hJ3 (by simp only; omega) ?_
        refine Gh.retok 5 1 rfl (Nat.le_of_ble_eq_true rfl) ?_ rfl rfl
        repeat' (first | exact HoldsT.nil _ _ _ _ | refine HoldsT.tok rfl ?_ | refine HoldsT.cons (Wk.refl _ _) rfl ?_ | refine HoldsT.cons (Wk.of_eq ?_) rfl ?_)
        all_goals first
          | (rw [← hk.add64 j 1 (by omega) (by omega)]; rfl)
          | rfl
          | skip
      · have hJ3 := d2 (by omega)
        clear d1 d2
        rw [← hks2] at hJ3
        by_cases hjm2 : j < m
        · have hf3 : ¬ f3 = 0 := fun h => hjm ⟨hjm2, h⟩
          (conv => cbv)
          repeat' (first
            | assumption
            | ((first | refine hk.callA (hpw _) ?_ | refine hk.calldA hpw ?_ | rw [t2] | refine hx2 _ _ ?_ | refine stp ?_) <;> (conv => cbv))
            | (refine stpB (fun _ => ?_) (fun _ => ?_) <;> (conv => cbv))
            | exact stpF
            | fail)
          refine hb (G1, S3, f3, ks2, l3, i2) _ ⟨by simp only; omega, by rw [hi2]; exact hJ3⟩ (by simp only; omega) ?_
          rw [hi2]
          refine Gh.tm ?_
          repeat' (first | exact Holds.nil _ _ | refine Holds.cons (Wk.refl _ _) ?_ | refine Holds.cons (Wk.of_eq ?_) ?_)
          all_goals first
            | (rw [← hk.add64 i 1 (by omega) (by omega)]; rfl)
            | rfl
            | skip
        · (conv => cbv)
          repeat' (first
            | assumption
            | ((first | refine hk.callA (hpw _) ?_ | refine hk.calldA hpw ?_ | rw [t2] | refine hx2 _ _ ?_ | refine stp ?_) <;> (conv => cbv))
            | (refine stpB (fun _ => ?_) (fun _ => ?_) <;> (conv => cbv))
            | exact stpF
            | fail)
          refine hb (G1, S3, f3, ks2, l3, i2) _ ⟨by simp only; omega, by rw [hi2]; exact hJ3⟩ (by simp only; omega) ?_
          rw [hi2]
          refine Gh.tm ?_
          repeat' (first | exact Holds.nil _ _ | refine Holds.cons (Wk.refl _ _) ?_ | refine Holds.cons (Wk.of_eq ?_) ?_)
          all_goals first
            | (rw [← hk.add64 i 1 (by omega) (by omega)]; rfl)
            | rfl
            | skip
    · obtain ⟨e2, e3, e4, e5⟩ := c2 (by omega)
      clear c1 c2
      subst e2 e3 e4 e5
      have hend : ¬ i < W ∨ (i < W ∧ ¬ f = 0) := by omega
      have hrzz : rz 4 G (.il .i64 ks) (.tup [rrd S all f, .ls (.il .i64 l) (.tok 5 0), .agg [I V, .sl 4 G 0 i]]) = .tup [rrd S all f, .ls (.il .i64 l) (.tok 5 0), .agg [I V, LI ks]] := row_rz3 4 G i V ks _ _ rfl rfl (by omega)
      by_cases hf : f = 0
      · subst hf
        have hiW2 : ¬ i < W := fun h => hiW ⟨h, rfl⟩
        (conv => cbv)
        repeat' (first
          | assumption
          | ((first | refine hk.callA (hpw _) ?_ | refine hk.calldA hpw ?_ | refine hx _ _ ?_ | refine stp ?_) <;> (conv => cbv))
          | (refine stpB (fun _ => ?_) (fun _ => ?_) <;> (conv => cbv))
          | exact stpF
          | fail)
        refine hk.finI (fin_rz 4 G (.il .i64 ks) rfl rfl ?_)
        show rFin _ _ (rz 4 G (LX.il IntKind.i64 ks) (AVal.tup [rrd S all 0, AVal.ls (LX.il IntKind.i64 l) (Cap.tok 5 0), AVal.agg [I V, AVal.sl 4 G 0 i]])) _
        rw [hrzz]
        refine fin_nil ?_ rfl ⟨rfl, rfl⟩
        exact Wk.tup ⟨.refl _ _, Wk.any _ _ _, .refl _ _, trivial⟩
      · rcases hend with h | ⟨h, _⟩
        · (conv => cbv)
          repeat' (first
            | assumption
            | ((first | refine hk.callA (hpw _) ?_ | refine hk.calldA hpw ?_ | refine hx _ _ ?_ | refine stp ?_) <;> (conv => cbv))
            | (refine stpB (fun _ => ?_) (fun _ => ?_) <;> (conv => cbv))
            | exact stpF
            | fail)
          all_goals rw [if_neg hf, if_neg hf, if_neg hf]
          all_goals exact hk.fin0 rfl rfl (Wk.tup ⟨.refl _ _, Wk.nilL _ _, Wk.agg ⟨.refl _ _, Wk.nilL _ _, trivial⟩, trivial⟩)
        · (conv => cbv)
          repeat' (first
            | assumption
            | ((first | refine hk.callA (hpw _) ?_ | refine hk.calldA hpw ?_ | refine hx _ _ ?_ | refine stp ?_) <;> (conv => cbv))
            | (refine stpB (fun _ => ?_) (fun _ => ?_) <;> (conv => cbv))
            | exact stpF
            | fail)
          all_goals rw [if_neg hf, if_neg hf, if_neg hf]
          all_goals exact hk.fin0 rfl rfl (Wk.tup ⟨.refl _ _, Wk.nilL _ _, Wk.agg ⟨.refl _ _, Wk.nilL _ _, trivial⟩, trivial⟩)
end Go.Proofs.YtfjdmgnhklpiiaaGreat
