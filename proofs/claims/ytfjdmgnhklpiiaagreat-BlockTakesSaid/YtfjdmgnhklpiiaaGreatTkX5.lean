/-
  Contracts of functions of the program, proved over the abstract machine of the Al texts.
-/
import Derived.Test.YtfjdmgnhklpiiaaGreatTryTab
import Derived.Test.YtfjdmgnhklpiiaaGreatAl4
import Derived.Test.YtfjdmgnhklpiiaaGreatBaseX
import Derived.Test.YtfjdmgnhklpiiaaGreatPpY
import Derived.Test.YtfjdmgnhklpiiaaGreatBsX1
import Derived.Test.YtfjdmgnhklpiiaaGreatTkX1
import Derived.Test.YtfjdmgnhklpiiaaGreatTkX3
import Derived.Test.YtfjdmgnhklpiiaaGreatTkX4
import Derived.Test.YtfjdmgnhklpiiaaGreatTkX2
set_option maxHeartbeats 4000000
set_option maxRecDepth 20000
set_option linter.unusedSimpArgs false
set_option linter.unusedVariables false
open Go Go.AL
namespace Go.Proofs.YtfjdmgnhklpiiaaGreat
theorem rbtake_0 (all : Int) (s : RS) (h : Heap) (hl : s.1.length < 1099511627776) (n d : Int) (hn1 : 1 ≤ n) (hn2 : n ≤ 64) (hd1 : 8 ≤ d) (hd2 : d ≤ 26) (hV : tkW 2 s = 0) :
    Does PP 9 [rr all s, I n, I d] h (Is (.tup [rr all (bkS n d s), (bkX n d s).v, LI (bkL n d s)]) h) := by
  have hd := fun h => rdepth_spec d h
  rw [decide_eq_true hd1, decide_eq_true hd2] at hd
  have t1 := fun h => rtake_rr all s 2 h hl
  have l1 := tkS_le 2 s
  rw [hV] at t1
  have gv := fun h => rgive_rr all (bkT n d s) ((bkB n d s).e n d) h
  have hbad := bk_bad (n := n) (d := d) (s := s)
  have herr := bk_err (n := n) (d := d) (s := s)
  have hok := bk_ok (n := n) (d := d) (s := s)
  obtain ⟨ok1, ok2, ok3⟩ := bkB_ok n d s (by omega) (by omega)
  have sm := (smp_both (bkB n d s).kd (bkB n d s).vl (bkB n d s).sh (bkB n d s).ix (bkB n d s).lg (bkB n d s).gn (bkB n d s).pt (bkB n d s).rc (bkB n d s).da n d hn2 ok1 ok2 ok3).2
  have er := bsE_range (bkB n d s).kd (bkB n d s).vl (bkB n d s).sh (bkB n d s).ix (bkB n d s).lg (bkB n d s).gn (bkB n d s).pt (bkB n d s).rc (bkB n d s).da n d
  change ∀ h, Does PP 21 _ h (Is (.tup [LI ((bkB n d s).l n d), I ((bkB n d s).e n d)]) h) at sm
  change 0 ≤ (bkB n d s).e n d ∧ (bkB n d s).e n d ≤ 100 at er
  clear ok1 ok2 ok3
  have eT : bkT n d s = tkS 2 s := by unfold bkT; rw [hV]; rfl
  have eB : bkB n d s = ⟨0, 0, 0, [], 0, 0, 0, [], []⟩ := by unfold bkB; rw [hV]; rfl
  have sm : ∀ h, Does PP 21 [.agg [I 0, I 0, I 0, .ls .nl .nil, I 0, I 0, I 0, .ls .nl .nil, .ls .nl .nil], I n, I d] h (Is (.tup [LI ((bkB n d s).l n d), I ((bkB n d s).e n d)]) h) := fun h => by
    have := sm h
    rw [eB] at this ⊢
    exact this.wk (WkL.cons (Wk.agg ⟨.refl _ _, .refl _ _, .refl _ _, Wk.nilL _ _, .refl _ _, .refl _ _, .refl _ _, Wk.nilL _ _, Wk.nilL _ _, trivial⟩) (WkL.cons (Wk.refl _ _) (WkL.cons (Wk.refl _ _) WkL.nil)))
  have ev : (bkB n d s).v = .agg [I 0, I 0, I 0, LI [], I 0, I 0, I 0, LI [], LI []] := by rw [eB]; rfl
  obtain ⟨E, hE⟩ : ∃ x, x = (bkB n d s).e n d := ⟨_, rfl⟩
  obtain ⟨L, hL⟩ : ∃ x, x = (bkB n d s).l n d := ⟨_, rfl⟩
  simp only [← hE] at gv herr hok er
  rw [← hL] at hok
  simp only [← hE, ← hL] at sm
  clear hE hL
  obtain ⟨T, hTd⟩ : ∃ x, x = bkT n d s := ⟨_, rfl⟩
  obtain ⟨s1, hs1⟩ : ∃ x, x = tkS 2 s := ⟨_, rfl⟩
  obtain ⟨s9, hs9⟩ : ∃ x, x = bkS n d s := ⟨_, rfl⟩
  obtain ⟨s8, hs8⟩ : ∃ x, x = gvS E T := ⟨_, rfl⟩
  simp only [← hTd] at gv hbad herr hok
  simp only [← hs8] at gv herr hok
  rw [← hs9] at hbad herr hok
  simp only [← hs1] at t1
  rw [← hs9]
  have h8a : strB s8.1 = strB T.1 := by rw [hs8]; rfl
  have h8f : T.2 = 0 → s8.2 = E := fun h => by rw [hs8]; exact gvS_snd h
  rw [← hTd, ← hs1] at eT
  clear hTd hs8 hs9 hs1 eB
  subst eT
  unfold rr at *
  obtain ⟨A, hAp⟩ : ∃ A : RS → List UInt8, ∀ s : RS, strB s.1 = A s := ⟨_, fun _ => rfl⟩
  obtain ⟨F, hFp⟩ : ∃ A : RS → Int, ∀ s : RS, s.2 = A s := ⟨_, fun _ => rfl⟩
  simp only [hAp, hFp] at *
  clear hAp hFp hl l1
  obtain ⟨FT, hFT⟩ : ∃ x, x = F T := ⟨_, rfl⟩
  have hFT2 : ∀ x, x = T → F x = FT := fun x h => by rw [h]; exact hFT.symm
  simp only [← hFT] at *
  refine pure0 ?_ rfl rfl h
  refine doesFs (fun f => f == 9999 || f == 19006) P_ok Tryz.f9 (by kernel_rfl) (by kernel_rfl) ?_
  intro i2 c2 u1 cv mx mn ad sbt bn bq ba lnI gtI apI sbI stI rpI lnG gtG apG sbG stG rpG fi fb fs fl fg fc sln sgt sap ssb sc b2s s2b nd call calld callv callvd loop rfun fin hk
  by_cases h0 : FT = 0
  · subst h0
    skip
    have h8f := h8f rfl
    by_cases h1 : E = 0
    · subst h1
      obtain ⟨e1, e2, e3⟩ := hok rfl rfl
      rw [e1, e2, e3, h8a, h8f]
      clear hok herr hbad e1 e2 e3
      rw [ev]
      (conv => cbv)
      repeat' (first
        | assumption
        | ((first | refine hk.callA (hd _) ?_ | refine hk.calldA hd ?_ | refine hk.callA (t1 _) ?_ | refine hk.calldA t1 ?_ | refine hk.callA (sm _) ?_ | refine hk.calldA sm ?_ | refine hk.callA (gv _) ?_ | refine hk.calldA gv ?_ | refine stp ?_) <;> (conv => cbv))
        | (refine stpB (fun _ => ?_) (fun _ => ?_) <;> (conv => cbv))
        | exact stpF
        | fail)
      all_goals exact hk.fin0 rfl rfl (Wk.tup ⟨.refl _ _, Wk.agg ⟨.refl _ _, .refl _ _, .refl _ _, Wk.nilL _ _, .refl _ _, .refl _ _, .refl _ _, Wk.nilL _ _, Wk.nilL _ _, trivial⟩, .refl _ _, trivial⟩)
    · obtain ⟨e1, e2, e3⟩ := herr rfl h1
      rw [e1, e2, e3]
      clear hok herr hbad e1 e2 e3
      (conv => cbv)
      repeat' (first
        | assumption
        | ((first | refine hk.callA (hd _) ?_ | refine hk.calldA hd ?_ | refine hk.callA (t1 _) ?_ | refine hk.calldA t1 ?_ | refine hk.callA (sm _) ?_ | refine hk.calldA sm ?_ | refine hk.callA (gv _) ?_ | refine hk.calldA gv ?_ | refine stp ?_) <;> (conv => cbv))
        | (refine stpB (fun _ => ?_) (fun _ => ?_) <;> (conv => cbv))
        | exact stpF
        | fail)
      all_goals exact hk.fin0 rfl rfl (Wk.tup ⟨.refl _ _, Wk.agg ⟨.refl _ _, .refl _ _, .refl _ _, Wk.nilL _ _, .refl _ _, .refl _ _, .refl _ _, Wk.nilL _ _, Wk.nilL _ _, trivial⟩, Wk.nilL _ _, trivial⟩)
  · obtain ⟨e1, e2, e3⟩ := hbad h0
    rw [e1, e2, e3, hFT2 T rfl]
    clear hok herr hbad e1 e2 e3 sm
    (conv => cbv)
    repeat' (first
      | assumption
      | ((first | refine hk.callA (hd _) ?_ | refine hk.calldA hd ?_ | refine hk.callA (t1 _) ?_ | refine hk.calldA t1 ?_ | refine hk.callA (gv _) ?_ | refine hk.calldA gv ?_ | refine stp ?_) <;> (conv => cbv))
      | (refine stpB (fun _ => ?_) (fun _ => ?_) <;> (conv => cbv))
      | exact stpF
      | fail)
    all_goals exact hk.fin0 rfl rfl (Wk.tup ⟨.refl _ _, Wk.agg ⟨.refl _ _, .refl _ _, .refl _ _, Wk.nilL _ _, .refl _ _, .refl _ _, .refl _ _, Wk.nilL _ _, Wk.nilL _ _, trivial⟩, Wk.nilL _ _, trivial⟩)
theorem rbtake_1 (all : Int) (s : RS) (h : Heap) (hl : s.1.length < 1099511627776) (n d : Int) (hn1 : 1 ≤ n) (hn2 : n ≤ 64) (hd1 : 8 ≤ d) (hd2 : d ≤ 26) (hV : tkW 2 s = 1) :
    Does PP 9 [rr all s, I n, I d] h (Is (.tup [rr all (bkS n d s), (bkX n d s).v, LI (bkL n d s)]) h) := by
  have hd := fun h => rdepth_spec d h
  rw [decide_eq_true hd1, decide_eq_true hd2] at hd
  have t1 := fun h => rtake_rr all s 2 h hl
  have l1 := tkS_le 2 s
  rw [hV] at t1
  have gv := fun h => rgive_rr all (bkT n d s) ((bkB n d s).e n d) h
  have hbad := bk_bad (n := n) (d := d) (s := s)
  have herr := bk_err (n := n) (d := d) (s := s)
  have hok := bk_ok (n := n) (d := d) (s := s)
  obtain ⟨ok1, ok2, ok3⟩ := bkB_ok n d s (by omega) (by omega)
  have sm := (smp_both (bkB n d s).kd (bkB n d s).vl (bkB n d s).sh (bkB n d s).ix (bkB n d s).lg (bkB n d s).gn (bkB n d s).pt (bkB n d s).rc (bkB n d s).da n d hn2 ok1 ok2 ok3).2
  have er := bsE_range (bkB n d s).kd (bkB n d s).vl (bkB n d s).sh (bkB n d s).ix (bkB n d s).lg (bkB n d s).gn (bkB n d s).pt (bkB n d s).rc (bkB n d s).da n d
  change ∀ h, Does PP 21 _ h (Is (.tup [LI ((bkB n d s).l n d), I ((bkB n d s).e n d)]) h) at sm
  change 0 ≤ (bkB n d s).e n d ∧ (bkB n d s).e n d ≤ 100 at er
  clear ok1 ok2 ok3
  have eT : bkT n d s = tkS d (tkS 2 s) := by unfold bkT; rw [hV]; rfl
  have eB : bkB n d s = ⟨1, sgW d (tkS 2 s), 0, [], 0, 0, 0, [], []⟩ := by unfold bkB; rw [hV]; rfl
  have pp := fun h => rint_rr all (tkS 2 s) d h (by omega) (by omega) (by omega)
  have sm : ∀ h, Does PP 21 [.agg [I 1, I (sgW d (tkS 2 s)), I 0, .ls .nl .nil, I 0, I 0, I 0, .ls .nl .nil, .ls .nl .nil], I n, I d] h (Is (.tup [LI ((bkB n d s).l n d), I ((bkB n d s).e n d)]) h) := fun h => by
    have := sm h
    rw [eB] at this ⊢
    exact this.wk (WkL.cons (Wk.agg ⟨.refl _ _, .refl _ _, .refl _ _, Wk.nilL _ _, .refl _ _, .refl _ _, .refl _ _, Wk.nilL _ _, Wk.nilL _ _, trivial⟩) (WkL.cons (Wk.refl _ _) (WkL.cons (Wk.refl _ _) WkL.nil)))
  have ev : (bkB n d s).v = .agg [I 1, I (sgW d (tkS 2 s)), I 0, LI [], I 0, I 0, I 0, LI [], LI []] := by rw [eB]; rfl
  obtain ⟨W, hW⟩ : ∃ x, x = sgW d (tkS 2 s) := ⟨_, rfl⟩
  simp only [← hW] at sm pp ev
  simp only [← eT] at pp
  clear hW
  obtain ⟨E, hE⟩ : ∃ x, x = (bkB n d s).e n d := ⟨_, rfl⟩
  obtain ⟨L, hL⟩ : ∃ x, x = (bkB n d s).l n d := ⟨_, rfl⟩
  simp only [← hE] at gv herr hok er
  rw [← hL] at hok
  simp only [← hE, ← hL] at sm
  clear hE hL
  obtain ⟨T, hTd⟩ : ∃ x, x = bkT n d s := ⟨_, rfl⟩
  obtain ⟨s1, hs1⟩ : ∃ x, x = tkS 2 s := ⟨_, rfl⟩
  obtain ⟨s9, hs9⟩ : ∃ x, x = bkS n d s := ⟨_, rfl⟩
  obtain ⟨s8, hs8⟩ : ∃ x, x = gvS E T := ⟨_, rfl⟩
  simp only [← hTd] at gv hbad herr hok
  simp only [← hs8] at gv herr hok
  rw [← hs9] at hbad herr hok
  simp only [← hs1] at t1
  rw [← hs9]
  have h8a : strB s8.1 = strB T.1 := by rw [hs8]; rfl
  have h8f : T.2 = 0 → s8.2 = E := fun h => by rw [hs8]; exact gvS_snd h
  simp only [← hTd, ← hs1] at pp
  clear hTd hs8 hs9 hs1 eB eT
  unfold rr at *
  obtain ⟨A, hAp⟩ : ∃ A : RS → List UInt8, ∀ s : RS, strB s.1 = A s := ⟨_, fun _ => rfl⟩
  obtain ⟨F, hFp⟩ : ∃ A : RS → Int, ∀ s : RS, s.2 = A s := ⟨_, fun _ => rfl⟩
  simp only [hAp, hFp] at *
  clear hAp hFp hl l1
  obtain ⟨FT, hFT⟩ : ∃ x, x = F T := ⟨_, rfl⟩
  have hFT2 : ∀ x, x = T → F x = FT := fun x h => by rw [h]; exact hFT.symm
  simp only [← hFT] at *
  refine pure0 ?_ rfl rfl h
  refine doesFs (fun f => f == 9999 || f == 19006) P_ok Tryz.f9 (by kernel_rfl) (by kernel_rfl) ?_
  intro i2 c2 u1 cv mx mn ad sbt bn bq ba lnI gtI apI sbI stI rpI lnG gtG apG sbG stG rpG fi fb fs fl fg fc sln sgt sap ssb sc b2s s2b nd call calld callv callvd loop rfun fin hk
  by_cases h0 : FT = 0
  · subst h0
    skip
    have h8f := h8f rfl
    by_cases h1 : E = 0
    · subst h1
      obtain ⟨e1, e2, e3⟩ := hok rfl rfl
      rw [e1, e2, e3, h8a, h8f]
      clear hok herr hbad e1 e2 e3
      rw [ev]
      (conv => cbv)
      repeat' (first
        | assumption
        | ((first | refine hk.callA (hd _) ?_ | refine hk.calldA hd ?_ | refine hk.callA (t1 _) ?_ | refine hk.calldA t1 ?_ | refine hk.callA (pp _) ?_ | refine hk.calldA pp ?_ | refine hk.callA (sm _) ?_ | refine hk.calldA sm ?_ | refine hk.callA (gv _) ?_ | refine hk.calldA gv ?_ | refine stp ?_) <;> (conv => cbv))
        | (refine stpB (fun _ => ?_) (fun _ => ?_) <;> (conv => cbv))
        | exact stpF
        | fail)
      all_goals exact hk.fin0 rfl rfl (Wk.tup ⟨.refl _ _, Wk.agg ⟨.refl _ _, .refl _ _, .refl _ _, Wk.nilL _ _, .refl _ _, .refl _ _, .refl _ _, Wk.nilL _ _, Wk.nilL _ _, trivial⟩, .refl _ _, trivial⟩)
    · obtain ⟨e1, e2, e3⟩ := herr rfl h1
      rw [e1, e2, e3]
      clear hok herr hbad e1 e2 e3
      (conv => cbv)
      repeat' (first
        | assumption
        | ((first | refine hk.callA (hd _) ?_ | refine hk.calldA hd ?_ | refine hk.callA (t1 _) ?_ | refine hk.calldA t1 ?_ | refine hk.callA (pp _) ?_ | refine hk.calldA pp ?_ | refine hk.callA (sm _) ?_ | refine hk.calldA sm ?_ | refine hk.callA (gv _) ?_ | refine hk.calldA gv ?_ | refine stp ?_) <;> (conv => cbv))
        | (refine stpB (fun _ => ?_) (fun _ => ?_) <;> (conv => cbv))
        | exact stpF
        | fail)
      all_goals exact hk.fin0 rfl rfl (Wk.tup ⟨.refl _ _, Wk.agg ⟨.refl _ _, .refl _ _, .refl _ _, Wk.nilL _ _, .refl _ _, .refl _ _, .refl _ _, Wk.nilL _ _, Wk.nilL _ _, trivial⟩, Wk.nilL _ _, trivial⟩)
  · obtain ⟨e1, e2, e3⟩ := hbad h0
    rw [e1, e2, e3, hFT2 T rfl]
    clear hok herr hbad e1 e2 e3 sm
    (conv => cbv)
    repeat' (first
      | assumption
      | ((first | refine hk.callA (hd _) ?_ | refine hk.calldA hd ?_ | refine hk.callA (t1 _) ?_ | refine hk.calldA t1 ?_ | refine hk.callA (pp _) ?_ | refine hk.calldA pp ?_ | refine hk.callA (gv _) ?_ | refine hk.calldA gv ?_ | refine stp ?_) <;> (conv => cbv))
      | (refine stpB (fun _ => ?_) (fun _ => ?_) <;> (conv => cbv))
      | exact stpF
      | fail)
    all_goals exact hk.fin0 rfl rfl (Wk.tup ⟨.refl _ _, Wk.agg ⟨.refl _ _, .refl _ _, .refl _ _, Wk.nilL _ _, .refl _ _, .refl _ _, .refl _ _, Wk.nilL _ _, Wk.nilL _ _, trivial⟩, Wk.nilL _ _, trivial⟩)
theorem rbtake_3 (all : Int) (s : RS) (h : Heap) (hl : s.1.length < 1099511627776) (n d : Int) (hn1 : 1 ≤ n) (hn2 : n ≤ 64) (hd1 : 8 ≤ d) (hd2 : d ≤ 26) (hV : tkW 2 s = 3) :
    Does PP 9 [rr all s, I n, I d] h (Is (.tup [rr all (bkS n d s), (bkX n d s).v, LI (bkL n d s)]) h) := by
  have hd := fun h => rdepth_spec d h
  rw [decide_eq_true hd1, decide_eq_true hd2] at hd
  have t1 := fun h => rtake_rr all s 2 h hl
  have l1 := tkS_le 2 s
  rw [hV] at t1
  have gv := fun h => rgive_rr all (bkT n d s) ((bkB n d s).e n d) h
  have hbad := bk_bad (n := n) (d := d) (s := s)
  have herr := bk_err (n := n) (d := d) (s := s)
  have hok := bk_ok (n := n) (d := d) (s := s)
  obtain ⟨ok1, ok2, ok3⟩ := bkB_ok n d s (by omega) (by omega)
  have sm := (smp_both (bkB n d s).kd (bkB n d s).vl (bkB n d s).sh (bkB n d s).ix (bkB n d s).lg (bkB n d s).gn (bkB n d s).pt (bkB n d s).rc (bkB n d s).da n d hn2 ok1 ok2 ok3).2
  have er := bsE_range (bkB n d s).kd (bkB n d s).vl (bkB n d s).sh (bkB n d s).ix (bkB n d s).lg (bkB n d s).gn (bkB n d s).pt (bkB n d s).rc (bkB n d s).da n d
  change ∀ h, Does PP 21 _ h (Is (.tup [LI ((bkB n d s).l n d), I ((bkB n d s).e n d)]) h) at sm
  change 0 ≤ (bkB n d s).e n d ∧ (bkB n d s).e n d ≤ 100 at er
  clear ok1 ok2 ok3
  have eT : bkT n d s = (tnR d n (tkS 2 s)).1 := by unfold bkT; rw [hV]; rfl
  have eB : bkB n d s = ⟨3, 0, 0, [], 0, 0, 0, [], (tnR d n (tkS 2 s)).2⟩ := by unfold bkB; rw [hV]; rfl
  have pp := fun h => rints_rr all (tkS 2 s) n d h (by omega) (by omega) (by omega) (by omega) (by omega)
  have sm : ∀ h, Does PP 21 [.agg [I 3, I 0, I 0, .ls .nl .nil, I 0, I 0, I 0, .ls .nl .nil, LI (tnR d n (tkS 2 s)).2], I n, I d] h (Is (.tup [LI ((bkB n d s).l n d), I ((bkB n d s).e n d)]) h) := fun h => by
    have := sm h
    rw [eB] at this ⊢
    exact this.wk (WkL.cons (Wk.agg ⟨.refl _ _, .refl _ _, .refl _ _, Wk.nilL _ _, .refl _ _, .refl _ _, .refl _ _, Wk.nilL _ _, .refl _ _, trivial⟩) (WkL.cons (Wk.refl _ _) (WkL.cons (Wk.refl _ _) WkL.nil)))
  have ev : (bkB n d s).v = .agg [I 3, I 0, I 0, LI [], I 0, I 0, I 0, LI [], LI (tnR d n (tkS 2 s)).2] := by rw [eB]; rfl
  obtain ⟨W, hW⟩ : ∃ x, x = (tnR d n (tkS 2 s)).2 := ⟨_, rfl⟩
  simp only [← hW] at sm pp ev
  simp only [← eT] at pp
  clear hW
  obtain ⟨E, hE⟩ : ∃ x, x = (bkB n d s).e n d := ⟨_, rfl⟩
  obtain ⟨L, hL⟩ : ∃ x, x = (bkB n d s).l n d := ⟨_, rfl⟩
  simp only [← hE] at gv herr hok er
  rw [← hL] at hok
  simp only [← hE, ← hL] at sm
  clear hE hL
  obtain ⟨T, hTd⟩ : ∃ x, x = bkT n d s := ⟨_, rfl⟩
  obtain ⟨s1, hs1⟩ : ∃ x, x = tkS 2 s := ⟨_, rfl⟩
  obtain ⟨s9, hs9⟩ : ∃ x, x = bkS n d s := ⟨_, rfl⟩
  obtain ⟨s8, hs8⟩ : ∃ x, x = gvS E T := ⟨_, rfl⟩
  simp only [← hTd] at gv hbad herr hok
  simp only [← hs8] at gv herr hok
  rw [← hs9] at hbad herr hok
  simp only [← hs1] at t1
  rw [← hs9]
  have h8a : strB s8.1 = strB T.1 := by rw [hs8]; rfl
  have h8f : T.2 = 0 → s8.2 = E := fun h => by rw [hs8]; exact gvS_snd h
  simp only [← hTd, ← hs1] at pp
  clear hTd hs8 hs9 hs1 eB eT
  unfold rr at *
  obtain ⟨A, hAp⟩ : ∃ A : RS → List UInt8, ∀ s : RS, strB s.1 = A s := ⟨_, fun _ => rfl⟩
  obtain ⟨F, hFp⟩ : ∃ A : RS → Int, ∀ s : RS, s.2 = A s := ⟨_, fun _ => rfl⟩
  simp only [hAp, hFp] at *
  clear hAp hFp hl l1
  obtain ⟨FT, hFT⟩ : ∃ x, x = F T := ⟨_, rfl⟩
  have hFT2 : ∀ x, x = T → F x = FT := fun x h => by rw [h]; exact hFT.symm
  simp only [← hFT] at *
  refine pure0 ?_ rfl rfl h
  refine doesFs (fun f => f == 9999 || f == 19006) P_ok Tryz.f9 (by kernel_rfl) (by kernel_rfl) ?_
  intro i2 c2 u1 cv mx mn ad sbt bn bq ba lnI gtI apI sbI stI rpI lnG gtG apG sbG stG rpG fi fb fs fl fg fc sln sgt sap ssb sc b2s s2b nd call calld callv callvd loop rfun fin hk
  by_cases h0 : FT = 0
  · subst h0
    skip
    have h8f := h8f rfl
    by_cases h1 : E = 0
    · subst h1
      obtain ⟨e1, e2, e3⟩ := hok rfl rfl
      rw [e1, e2, e3, h8a, h8f]
      clear hok herr hbad e1 e2 e3
      rw [ev]
      (conv => cbv)
      repeat' (first
        | assumption
        | ((first | refine hk.callA (hd _) ?_ | refine hk.calldA hd ?_ | refine hk.callA (t1 _) ?_ | refine hk.calldA t1 ?_ | refine hk.callA (pp _) ?_ | refine hk.calldA pp ?_ | refine hk.callA (sm _) ?_ | refine hk.calldA sm ?_ | refine hk.callA (gv _) ?_ | refine hk.calldA gv ?_ | refine stp ?_) <;> (conv => cbv))
        | (refine stpB (fun _ => ?_) (fun _ => ?_) <;> (conv => cbv))
        | exact stpF
        | fail)
      all_goals exact hk.fin0 rfl rfl (Wk.tup ⟨.refl _ _, Wk.agg ⟨.refl _ _, .refl _ _, .refl _ _, Wk.nilL _ _, .refl _ _, .refl _ _, .refl _ _, Wk.nilL _ _, .refl _ _, trivial⟩, .refl _ _, trivial⟩)
    · obtain ⟨e1, e2, e3⟩ := herr rfl h1
      rw [e1, e2, e3]
      clear hok herr hbad e1 e2 e3
      (conv => cbv)
      repeat' (first
        | assumption
        | ((first | refine hk.callA (hd _) ?_ | refine hk.calldA hd ?_ | refine hk.callA (t1 _) ?_ | refine hk.calldA t1 ?_ | refine hk.callA (pp _) ?_ | refine hk.calldA pp ?_ | refine hk.callA (sm _) ?_ | refine hk.calldA sm ?_ | refine hk.callA (gv _) ?_ | refine hk.calldA gv ?_ | refine stp ?_) <;> (conv => cbv))
        | (refine stpB (fun _ => ?_) (fun _ => ?_) <;> (conv => cbv))
        | exact stpF
        | fail)
      all_goals exact hk.fin0 rfl rfl (Wk.tup ⟨.refl _ _, Wk.agg ⟨.refl _ _, .refl _ _, .refl _ _, Wk.nilL _ _, .refl _ _, .refl _ _, .refl _ _, Wk.nilL _ _, Wk.nilL _ _, trivial⟩, Wk.nilL _ _, trivial⟩)
  · obtain ⟨e1, e2, e3⟩ := hbad h0
    rw [e1, e2, e3, hFT2 T rfl]
    clear hok herr hbad e1 e2 e3 sm
    (conv => cbv)
    repeat' (first
      | assumption
      | ((first | refine hk.callA (hd _) ?_ | refine hk.calldA hd ?_ | refine hk.callA (t1 _) ?_ | refine hk.calldA t1 ?_ | refine hk.callA (pp _) ?_ | refine hk.calldA pp ?_ | refine hk.callA (gv _) ?_ | refine hk.calldA gv ?_ | refine stp ?_) <;> (conv => cbv))
      | (refine stpB (fun _ => ?_) (fun _ => ?_) <;> (conv => cbv))
      | exact stpF
      | fail)
    all_goals exact hk.fin0 rfl rfl (Wk.tup ⟨.refl _ _, Wk.agg ⟨.refl _ _, .refl _ _, .refl _ _, Wk.nilL _ _, .refl _ _, .refl _ _, .refl _ _, Wk.nilL _ _, Wk.nilL _ _, trivial⟩, Wk.nilL _ _, trivial⟩)
end Go.Proofs.YtfjdmgnhklpiiaaGreat
set_option maxHeartbeats 4000000
set_option maxRecDepth 20000
set_option linter.unusedSimpArgs false
set_option linter.unusedVariables false
open Go Go.AL
namespace Go.Proofs.YtfjdmgnhklpiiaaGreat
theorem rsA_le (s : RS) : (rsA s).1.length ≤ s.1.length := by
  have h1 := tkS_le 5 s
  have h2 := tkS_le 5 (tkS 5 s)
  unfold rsA
  split
  · show (tkS 5 (tkS 5 s)).1.length ≤ _
    omega
  · omega
theorem tnR_le (b n : Int) (s : RS) : (tnR b n s).1.1.length ≤ s.1.length := itS_le _ _ (tkS_le b) _ _ _
theorem rsC_le (s : RS) : (rsC s).1.length ≤ s.1.length := by
  have h1 := tkS_le 1 s
  have h2 := tkS_le 8 (tkS 1 s)
  have h3 := tkS_le 4 (tkS 8 (tkS 1 s))
  unfold rsC
  repeat' split
  · show (tkS 4 (tkS 8 (tkS 1 s))).1.length ≤ _
    omega
  · omega
  · omega
theorem rsC_plan2 (s : RS) :
    (tkW 1 s = 1 ∧ lgW s = tkW 8 (tkS 1 s) ∧ gnW s = tkW 4 (tkS 8 (tkS 1 s)) ∧ (((lgW s = 0 ∨ gnW s = 0) ∧ rsC s = gvS 2 (tkS 4 (tkS 8 (tkS 1 s)))) ∨ (¬ (lgW s = 0 ∨ gnW s = 0) ∧ rsC s = tkS 4 (tkS 8 (tkS 1 s))))) ∨
    (¬ tkW 1 s = 1 ∧ lgW s = 0 ∧ gnW s = 0 ∧ rsC s = tkS 1 s) := rsC_plan [] s
theorem rbtake_2 (all : Int) (s : RS) (h : Heap) (hl : s.1.length < 1099511627776) (n d : Int) (hn1 : 1 ≤ n) (hn2 : n ≤ 64) (hd1 : 8 ≤ d) (hd2 : d ≤ 26) (hV : tkW 2 s = 2) :
    Does PP 9 [rr all s, I n, I d] h (Is (.tup [rr all (bkS n d s), (bkX n d s).v, LI (bkL n d s)]) h) := by
  have hd := fun h => rdepth_spec d h
  rw [decide_eq_true hd1, decide_eq_true hd2] at hd
  have t1 := fun h => rtake_rr all s 2 h hl
  have l1 := tkS_le 2 s
  rw [hV] at t1
  have gv := fun h => rgive_rr all (bkT n d s) ((bkB n d s).e n d) h
  have hbad := bk_bad (n := n) (d := d) (s := s)
  have herr := bk_err (n := n) (d := d) (s := s)
  have hok := bk_ok (n := n) (d := d) (s := s)
  obtain ⟨ok1, ok2, ok3⟩ := bkB_ok n d s (by omega) (by omega)
  have sm := (smp_both (bkB n d s).kd (bkB n d s).vl (bkB n d s).sh (bkB n d s).ix (bkB n d s).lg (bkB n d s).gn (bkB n d s).pt (bkB n d s).rc (bkB n d s).da n d hn2 ok1 ok2 ok3).2
  have er := bsE_range (bkB n d s).kd (bkB n d s).vl (bkB n d s).sh (bkB n d s).ix (bkB n d s).lg (bkB n d s).gn (bkB n d s).pt (bkB n d s).rc (bkB n d s).da n d
  change ∀ h, Does PP 21 _ h (Is (.tup [LI ((bkB n d s).l n d), I ((bkB n d s).e n d)]) h) at sm
  change 0 ≤ (bkB n d s).e n d ∧ (bkB n d s).e n d ≤ 100 at er
  clear ok1 ok2 ok3
  have eT : bkT n d s = rsS n (tkS 2 s) := by unfold bkT; rw [hV]; rfl
  have eB : bkB n d s = ⟨2, 0, tkW 5 (tkS 2 s), (rsB (tkS 2 s)).2, lgW (rsB (tkS 2 s)).1, gnW (rsB (tkS 2 s)).1, tkW 2 (rsT (tkS 2 s)), slK n (rsT (tkS 2 s)), slL n (rsT (tkS 2 s))⟩ := by unfold bkB; rw [hV]; rfl
  have t2 := fun h => rtake_rr all (tkS 2 s) 5 h (by omega)
  have l2 := tkS_le 5 (tkS 2 s)
  have t3 := fun h => rtake_rr all (tkS 5 (tkS 2 s)) 5 h (by omega)
  have g3 := fun h => rgive_rr all (tkS 5 (tkS 5 (tkS 2 s))) 2 h
  have lA := rsA_le (tkS 2 s)
  have r2 := tkW_range 5 (tkS 5 (tkS 2 s))
  have r2' := tkW_lt 5 (tkS 5 (tkS 2 s)) (by decide)
  have h32 : (2 : Int) ^ (Int.toNat 5) = 32 := by decide
  rw [h32] at r2'
  have hA : (tkW 5 (tkS 5 (tkS 2 s)) > 16 ∧ rsA (tkS 2 s) = gvS 2 (tkS 5 (tkS 5 (tkS 2 s)))) ∨ (¬ tkW 5 (tkS 5 (tkS 2 s)) > 16 ∧ rsA (tkS 2 s) = tkS 5 (tkS 5 (tkS 2 s))) := by
    by_cases h : tkW 5 (tkS 5 (tkS 2 s)) > 16
    · exact .inl ⟨h, if_pos h⟩
    · exact .inr ⟨h, if_neg h⟩
  have ti := fun h => rints_rr all (rsA (tkS 2 s)) (tkW 5 (tkS 5 (tkS 2 s))) 7 h (by omega) r2.1 (by omega) (by decide) (by decide)
  have lB := tnR_le 7 (tkW 5 (tkS 5 (tkS 2 s))) (rsA (tkS 2 s))
  have eRB : tnR 7 (tkW 5 (tkS 5 (tkS 2 s))) (rsA (tkS 2 s)) = rsB (tkS 2 s) := rfl
  rw [eRB] at lB
  simp only [eRB] at ti
  have hC := rsC_plan2 (rsB (tkS 2 s)).1
  have lC := rsC_le (rsB (tkS 2 s)).1
  have eRT : rsC (rsB (tkS 2 s)).1 = rsT (tkS 2 s) := rfl
  rw [eRT] at hC lC
  have t5 := fun h => rtake_rr all (rsB (tkS 2 s)).1 1 h (by omega)
  have l5 := tkS_le 1 (rsB (tkS 2 s)).1
  have t6 := fun h => rtake_rr all (tkS 1 (rsB (tkS 2 s)).1) 8 h (by omega)
  have l6 := tkS_le 8 (tkS 1 (rsB (tkS 2 s)).1)
  have t7 := fun h => rtake_rr all (tkS 8 (tkS 1 (rsB (tkS 2 s)).1)) 4 h (by omega)
  have g8 := fun h => rgive_rr all (tkS 4 (tkS 8 (tkS 1 (rsB (tkS 2 s)).1))) 2 h
  have sl := fun h => rslide_rr all (rsT (tkS 2 s)) n h (by omega) hn1 (by omega)
  have eRS : slS n (rsT (tkS 2 s)) = bkT n d s := by rw [eT]; rfl
  simp only [eRS] at sl
  obtain ⟨PT, hPT⟩ : ∃ x, x = (if (bkT n d s).2 = 0 then tkW 2 (rsT (tkS 2 s)) else 0) := ⟨_, rfl⟩
  obtain ⟨RC, hRC⟩ : ∃ x, x = (if (bkT n d s).2 = 0 then slK n (rsT (tkS 2 s)) else []) := ⟨_, rfl⟩
  obtain ⟨DD, hDD⟩ : ∃ x, x = (if (bkT n d s).2 = 0 then slL n (rsT (tkS 2 s)) else []) := ⟨_, rfl⟩
  simp only [← hPT, ← hRC, ← hDD] at sl
  obtain ⟨V1, hV1⟩ : ∃ x, x = tkW 5 (tkS 2 s) := ⟨_, rfl⟩
  obtain ⟨IX, hIX⟩ : ∃ x, x = (rsB (tkS 2 s)).2 := ⟨_, rfl⟩
  obtain ⟨LG, hLG⟩ : ∃ x, x = lgW (rsB (tkS 2 s)).1 := ⟨_, rfl⟩
  obtain ⟨GN, hGN⟩ : ∃ x, x = gnW (rsB (tkS 2 s)).1 := ⟨_, rfl⟩
  have hdd : (bkT n d s).2 = 0 → bkB n d s = ⟨2, 0, V1, IX, LG, GN, PT, RC, DD⟩ := fun h => by
    rw [eB, hPT, hRC, hDD, hV1, hIX, hLG, hGN, if_pos h, if_pos h, if_pos h]
  have sm : (bkT n d s).2 = 0 → ∀ h, Does PP 21 [.agg [I 2, I 0, I V1, LI IX, I LG, I GN, I PT, LI RC, LI DD], I n, I d] h (Is (.tup [LI ((bkB n d s).l n d), I ((bkB n d s).e n d)]) h) := fun h0 h => by
    have := sm h
    rw [hdd h0] at this ⊢
    exact this
  have ev : (bkT n d s).2 = 0 → (bkB n d s).v = .agg [I 2, I 0, I V1, LI IX, I LG, I GN, I PT, LI RC, LI DD] := fun h => by rw [hdd h]; rfl
  simp only [← hV1] at t2
  simp only [← hIX] at ti
  rw [← hLG, ← hGN] at hC
  clear hdd hPT hRC hDD hV1 hIX hLG hGN eB eT eRB eRS eRT lA lB lC l2 l5 l6 h32
  obtain ⟨E, hE⟩ : ∃ x, x = (bkB n d s).e n d := ⟨_, rfl⟩
  obtain ⟨L, hL⟩ : ∃ x, x = (bkB n d s).l n d := ⟨_, rfl⟩
  simp only [← hE] at gv herr hok er
  rw [← hL] at hok
  simp only [← hE, ← hL] at sm
  clear hE hL
  obtain ⟨T, hTd⟩ : ∃ x, x = bkT n d s := ⟨_, rfl⟩
  obtain ⟨s1, hs1⟩ : ∃ x, x = tkS 2 s := ⟨_, rfl⟩
  obtain ⟨s9, hs9⟩ : ∃ x, x = bkS n d s := ⟨_, rfl⟩
  obtain ⟨s8, hs8⟩ : ∃ x, x = gvS E T := ⟨_, rfl⟩
  simp only [← hTd] at gv hbad herr hok
  simp only [← hs8] at gv herr hok
  rw [← hs9] at hbad herr hok
  simp only [← hs1] at t1
  rw [← hs9]
  have h8a : strB s8.1 = strB T.1 := by rw [hs8]; rfl
  have h8f : T.2 = 0 → s8.2 = E := fun h => by rw [hs8]; exact gvS_snd h
  simp only [← hTd] at sl sm ev
  simp only [← hs1] at t2 t3 g3 hA ti t5 t6 t7 g8 sl hC r2 r2'
  clear hTd hs8 hs9 hs1
  obtain ⟨b, hb⟩ : ∃ x, x = (rsB s1).1 := ⟨_, rfl⟩
  obtain ⟨s2, hs2⟩ : ∃ x, x = tkS 5 s1 := ⟨_, rfl⟩
  obtain ⟨s3, hs3⟩ : ∃ x, x = tkS 5 s2 := ⟨_, rfl⟩
  obtain ⟨s4, hs4⟩ : ∃ x, x = gvS 2 s3 := ⟨_, rfl⟩
  obtain ⟨sA, hsA⟩ : ∃ x, x = rsA s1 := ⟨_, rfl⟩
  obtain ⟨s5, hs5⟩ : ∃ x, x = tkS 1 b := ⟨_, rfl⟩
  obtain ⟨s6, hs6⟩ : ∃ x, x = tkS 8 s5 := ⟨_, rfl⟩
  obtain ⟨s7, hs7⟩ : ∃ x, x = tkS 4 s6 := ⟨_, rfl⟩
  obtain ⟨sg, hsg⟩ : ∃ x, x = gvS 2 s7 := ⟨_, rfl⟩
  obtain ⟨sT, hsT⟩ : ∃ x, x = rsT s1 := ⟨_, rfl⟩
  simp only [← hb, ← hs2, ← hsA, ← hsT] at t2 t3 g3 hA ti t5 t6 t7 g8 sl hC r2 r2'
  simp only [← hs3, ← hs5] at t2 t3 g3 hA ti t5 t6 t7 g8 sl hC r2 r2'
  simp only [← hs4, ← hs6] at t2 t3 g3 hA ti t5 t6 t7 g8 sl hC r2 r2'
  simp only [← hs7] at t2 t3 g3 hA ti t5 t6 t7 g8 sl hC r2 r2'
  simp only [← hsg] at t2 t3 g3 hA ti t5 t6 t7 g8 sl hC r2 r2'
  obtain ⟨V2, hV2⟩ : ∃ x, x = tkW 5 s2 := ⟨_, rfl⟩
  obtain ⟨V3, hV3⟩ : ∃ x, x = tkW 1 b := ⟨_, rfl⟩
  obtain ⟨V4, hV4⟩ : ∃ x, x = tkW 8 s5 := ⟨_, rfl⟩
  obtain ⟨V5, hV5⟩ : ∃ x, x = tkW 4 s6 := ⟨_, rfl⟩
  simp only [← hV2, ← hV3, ← hV4, ← hV5] at t2 t3 g3 hA ti t5 t6 t7 g8 sl hC r2 r2'
  clear hb hs2 hs3 hs4 hsA hs5 hs6 hs7 hsg hsT hV2 hV3 hV4 hV5
  unfold rr at *
  obtain ⟨A, hAp⟩ : ∃ A : RS → List UInt8, ∀ s : RS, strB s.1 = A s := ⟨_, fun _ => rfl⟩
  obtain ⟨F, hFp⟩ : ∃ A : RS → Int, ∀ s : RS, s.2 = A s := ⟨_, fun _ => rfl⟩
  simp only [hAp, hFp] at *
  clear hAp hFp hl l1
  obtain ⟨FT, hFT⟩ : ∃ x, x = F T := ⟨_, rfl⟩
  have hFT2 : ∀ x, x = T → F x = FT := fun x h => by rw [h]; exact hFT.symm
  simp only [← hFT] at *
  rcases hA with ⟨x1, x2⟩ | ⟨x1, x2⟩
  · subst x2
    rcases hC with ⟨y1, y2, y3, ⟨z1, z2⟩ | ⟨z1, z2⟩⟩ | ⟨y1, y2, y3, y4⟩
    · subst y2 y3 z2
      refine pure0 ?_ rfl rfl h
      refine doesFs (fun f => f == 9999 || f == 19006) P_ok Tryz.f9 (by kernel_rfl) (by kernel_rfl) ?_
      intro i2 c2 u1 cv mx mn ad sbt bn bq ba lnI gtI apI sbI stI rpI lnG gtG apG sbG stG rpG fi fb fs fl fg fc sln sgt sap ssb sc b2s s2b nd call calld callv callvd loop rfun fin hk
      by_cases h0 : FT = 0
      · subst h0
        have sm := sm rfl
        have ev := ev rfl
        have h8f := h8f rfl
        by_cases h1 : E = 0
        · subst h1
          obtain ⟨e1, e2, e3⟩ := hok rfl rfl
          rw [e1, e2, e3, h8a, h8f, ev]
          clear hok herr hbad e1 e2 e3
          (conv => cbv)
          repeat' (first
            | assumption
            | ((first | refine hk.callA (hd _) ?_ | refine hk.calldA hd ?_ | refine hk.callA (t1 _) ?_ | refine hk.calldA t1 ?_ | refine hk.callA (t2 _) ?_ | refine hk.calldA t2 ?_ | refine hk.callA (t3 _) ?_ | refine hk.calldA t3 ?_ | refine hk.callA (g3 _) ?_ | refine hk.calldA g3 ?_ | refine hk.callA (ti _) ?_ | refine hk.calldA ti ?_ | refine hk.callA (t5 _) ?_ | refine hk.calldA t5 ?_ | refine hk.callA (t6 _) ?_ | refine hk.calldA t6 ?_ | refine hk.callA (t7 _) ?_ | refine hk.calldA t7 ?_ | refine hk.callA (g8 _) ?_ | refine hk.calldA g8 ?_ | refine hk.callA (sl _) ?_ | refine hk.calldA sl ?_ | refine hk.callA (sm _) ?_ | refine hk.calldA sm ?_ | refine hk.callA (gv _) ?_ | refine hk.calldA gv ?_ | refine stp ?_) <;> (conv => cbv))
            | (refine stpB (fun _ => ?_) (fun _ => ?_) <;> (conv => cbv))
            | exact stpF
            | fail)
          all_goals exact hk.fin0 rfl rfl (Wk.tup ⟨.refl _ _, Wk.agg ⟨.refl _ _, .refl _ _, .refl _ _, .refl _ _, .refl _ _, .refl _ _, .refl _ _, .refl _ _, .refl _ _, trivial⟩, .refl _ _, trivial⟩)
        · obtain ⟨e1, e2, e3⟩ := herr rfl h1
          rw [e1, e2, e3]
          clear hok herr hbad e1 e2 e3
          (conv => cbv)
          repeat' (first
            | assumption
            | ((first | refine hk.callA (hd _) ?_ | refine hk.calldA hd ?_ | refine hk.callA (t1 _) ?_ | refine hk.calldA t1 ?_ | refine hk.callA (t2 _) ?_ | refine hk.calldA t2 ?_ | refine hk.callA (t3 _) ?_ | refine hk.calldA t3 ?_ | refine hk.callA (g3 _) ?_ | refine hk.calldA g3 ?_ | refine hk.callA (ti _) ?_ | refine hk.calldA ti ?_ | refine hk.callA (t5 _) ?_ | refine hk.calldA t5 ?_ | refine hk.callA (t6 _) ?_ | refine hk.calldA t6 ?_ | refine hk.callA (t7 _) ?_ | refine hk.calldA t7 ?_ | refine hk.callA (g8 _) ?_ | refine hk.calldA g8 ?_ | refine hk.callA (sl _) ?_ | refine hk.calldA sl ?_ | refine hk.callA (sm _) ?_ | refine hk.calldA sm ?_ | refine hk.callA (gv _) ?_ | refine hk.calldA gv ?_ | refine stp ?_) <;> (conv => cbv))
            | (refine stpB (fun _ => ?_) (fun _ => ?_) <;> (conv => cbv))
            | exact stpF
            | fail)
          all_goals exact hk.fin0 rfl rfl (Wk.tup ⟨.refl _ _, Wk.agg ⟨.refl _ _, .refl _ _, .refl _ _, Wk.nilL _ _, .refl _ _, .refl _ _, .refl _ _, Wk.nilL _ _, Wk.nilL _ _, trivial⟩, Wk.nilL _ _, trivial⟩)
      · obtain ⟨e1, e2, e3⟩ := hbad h0
        rw [e1, e2, e3, hFT2 T rfl]
        clear hok herr hbad e1 e2 e3 sm
        (conv => cbv)
        repeat' (first
          | assumption
          | ((first | refine hk.callA (hd _) ?_ | refine hk.calldA hd ?_ | refine hk.callA (t1 _) ?_ | refine hk.calldA t1 ?_ | refine hk.callA (t2 _) ?_ | refine hk.calldA t2 ?_ | refine hk.callA (t3 _) ?_ | refine hk.calldA t3 ?_ | refine hk.callA (g3 _) ?_ | refine hk.calldA g3 ?_ | refine hk.callA (ti _) ?_ | refine hk.calldA ti ?_ | refine hk.callA (t5 _) ?_ | refine hk.calldA t5 ?_ | refine hk.callA (t6 _) ?_ | refine hk.calldA t6 ?_ | refine hk.callA (t7 _) ?_ | refine hk.calldA t7 ?_ | refine hk.callA (g8 _) ?_ | refine hk.calldA g8 ?_ | refine hk.callA (sl _) ?_ | refine hk.calldA sl ?_ | refine hk.callA (sm _) ?_ | refine hk.calldA sm ?_ | refine hk.callA (gv _) ?_ | refine hk.calldA gv ?_ | refine stp ?_) <;> (conv => cbv))
          | (refine stpB (fun _ => ?_) (fun _ => ?_) <;> (conv => cbv))
          | exact stpF
          | fail)
        all_goals exact hk.fin0 rfl rfl (Wk.tup ⟨.refl _ _, Wk.agg ⟨.refl _ _, .refl _ _, .refl _ _, Wk.nilL _ _, .refl _ _, .refl _ _, .refl _ _, Wk.nilL _ _, Wk.nilL _ _, trivial⟩, Wk.nilL _ _, trivial⟩)
    · subst y2 y3 z2
      refine pure0 ?_ rfl rfl h
      refine doesFs (fun f => f == 9999 || f == 19006) P_ok Tryz.f9 (by kernel_rfl) (by kernel_rfl) ?_
      intro i2 c2 u1 cv mx mn ad sbt bn bq ba lnI gtI apI sbI stI rpI lnG gtG apG sbG stG rpG fi fb fs fl fg fc sln sgt sap ssb sc b2s s2b nd call calld callv callvd loop rfun fin hk
      by_cases h0 : FT = 0
      · subst h0
        have sm := sm rfl
        have ev := ev rfl
        have h8f := h8f rfl
        by_cases h1 : E = 0
        · subst h1
          obtain ⟨e1, e2, e3⟩ := hok rfl rfl
          rw [e1, e2, e3, h8a, h8f, ev]
          clear hok herr hbad e1 e2 e3
          (conv => cbv)
          repeat' (first
            | assumption
            | ((first | refine hk.callA (hd _) ?_ | refine hk.calldA hd ?_ | refine hk.callA (t1 _) ?_ | refine hk.calldA t1 ?_ | refine hk.callA (t2 _) ?_ | refine hk.calldA t2 ?_ | refine hk.callA (t3 _) ?_ | refine hk.calldA t3 ?_ | refine hk.callA (g3 _) ?_ | refine hk.calldA g3 ?_ | refine hk.callA (ti _) ?_ | refine hk.calldA ti ?_ | refine hk.callA (t5 _) ?_ | refine hk.calldA t5 ?_ | refine hk.callA (t6 _) ?_ | refine hk.calldA t6 ?_ | refine hk.callA (t7 _) ?_ | refine hk.calldA t7 ?_ | refine hk.callA (g8 _) ?_ | refine hk.calldA g8 ?_ | refine hk.callA (sl _) ?_ | refine hk.calldA sl ?_ | refine hk.callA (sm _) ?_ | refine hk.calldA sm ?_ | refine hk.callA (gv _) ?_ | refine hk.calldA gv ?_ | refine stp ?_) <;> (conv => cbv))
            | (refine stpB (fun _ => ?_) (fun _ => ?_) <;> (conv => cbv))
            | exact stpF
            | fail)
          all_goals exact hk.fin0 rfl rfl (Wk.tup ⟨.refl _ _, Wk.agg ⟨.refl _ _, .refl _ _, .refl _ _, .refl _ _, .refl _ _, .refl _ _, .refl _ _, .refl _ _, .refl _ _, trivial⟩, .refl _ _, trivial⟩)
        · obtain ⟨e1, e2, e3⟩ := herr rfl h1
          rw [e1, e2, e3]
          clear hok herr hbad e1 e2 e3
          (conv => cbv)
          repeat' (first
            | assumption
            | ((first | refine hk.callA (hd _) ?_ | refine hk.calldA hd ?_ | refine hk.callA (t1 _) ?_ | refine hk.calldA t1 ?_ | refine hk.callA (t2 _) ?_ | refine hk.calldA t2 ?_ | refine hk.callA (t3 _) ?_ | refine hk.calldA t3 ?_ | refine hk.callA (g3 _) ?_ | refine hk.calldA g3 ?_ | refine hk.callA (ti _) ?_ | refine hk.calldA ti ?_ | refine hk.callA (t5 _) ?_ | refine hk.calldA t5 ?_ | refine hk.callA (t6 _) ?_ | refine hk.calldA t6 ?_ | refine hk.callA (t7 _) ?_ | refine hk.calldA t7 ?_ | refine hk.callA (g8 _) ?_ | refine hk.calldA g8 ?_ | refine hk.callA (sl _) ?_ | refine hk.calldA sl ?_ | refine hk.callA (sm _) ?_ | refine hk.calldA sm ?_ | refine hk.callA (gv _) ?_ | refine hk.calldA gv ?_ | refine stp ?_) <;> (conv => cbv))
            | (refine stpB (fun _ => ?_) (fun _ => ?_) <;> (conv => cbv))
            | exact stpF
            | fail)
          all_goals exact hk.fin0 rfl rfl (Wk.tup ⟨.refl _ _, Wk.agg ⟨.refl _ _, .refl _ _, .refl _ _, Wk.nilL _ _, .refl _ _, .refl _ _, .refl _ _, Wk.nilL _ _, Wk.nilL _ _, trivial⟩, Wk.nilL _ _, trivial⟩)
      · obtain ⟨e1, e2, e3⟩ := hbad h0
        rw [e1, e2, e3, hFT2 T rfl]
        clear hok herr hbad e1 e2 e3 sm
        (conv => cbv)
        repeat' (first
          | assumption
          | ((first | refine hk.callA (hd _) ?_ | refine hk.calldA hd ?_ | refine hk.callA (t1 _) ?_ | refine hk.calldA t1 ?_ | refine hk.callA (t2 _) ?_ | refine hk.calldA t2 ?_ | refine hk.callA (t3 _) ?_ | refine hk.calldA t3 ?_ | refine hk.callA (g3 _) ?_ | refine hk.calldA g3 ?_ | refine hk.callA (ti _) ?_ | refine hk.calldA ti ?_ | refine hk.callA (t5 _) ?_ | refine hk.calldA t5 ?_ | refine hk.callA (t6 _) ?_ | refine hk.calldA t6 ?_ | refine hk.callA (t7 _) ?_ | refine hk.calldA t7 ?_ | refine hk.callA (g8 _) ?_ | refine hk.calldA g8 ?_ | refine hk.callA (sl _) ?_ | refine hk.calldA sl ?_ | refine hk.callA (sm _) ?_ | refine hk.calldA sm ?_ | refine hk.callA (gv _) ?_ | refine hk.calldA gv ?_ | refine stp ?_) <;> (conv => cbv))
          | (refine stpB (fun _ => ?_) (fun _ => ?_) <;> (conv => cbv))
          | exact stpF
          | fail)
        all_goals exact hk.fin0 rfl rfl (Wk.tup ⟨.refl _ _, Wk.agg ⟨.refl _ _, .refl _ _, .refl _ _, Wk.nilL _ _, .refl _ _, .refl _ _, .refl _ _, Wk.nilL _ _, Wk.nilL _ _, trivial⟩, Wk.nilL _ _, trivial⟩)
    · subst y2 y3 y4
      refine pure0 ?_ rfl rfl h
      refine doesFs (fun f => f == 9999 || f == 19006) P_ok Tryz.f9 (by kernel_rfl) (by kernel_rfl) ?_
      intro i2 c2 u1 cv mx mn ad sbt bn bq ba lnI gtI apI sbI stI rpI lnG gtG apG sbG stG rpG fi fb fs fl fg fc sln sgt sap ssb sc b2s s2b nd call calld callv callvd loop rfun fin hk
      by_cases h0 : FT = 0
      · subst h0
        have sm := sm rfl
        have ev := ev rfl
        have h8f := h8f rfl
        by_cases h1 : E = 0
        · subst h1
          obtain ⟨e1, e2, e3⟩ := hok rfl rfl
          rw [e1, e2, e3, h8a, h8f, ev]
          clear hok herr hbad e1 e2 e3
          (conv => cbv)
          repeat' (first
            | assumption
            | ((first | refine hk.callA (hd _) ?_ | refine hk.calldA hd ?_ | refine hk.callA (t1 _) ?_ | refine hk.calldA t1 ?_ | refine hk.callA (t2 _) ?_ | refine hk.calldA t2 ?_ | refine hk.callA (t3 _) ?_ | refine hk.calldA t3 ?_ | refine hk.callA (g3 _) ?_ | refine hk.calldA g3 ?_ | refine hk.callA (ti _) ?_ | refine hk.calldA ti ?_ | refine hk.callA (t5 _) ?_ | refine hk.calldA t5 ?_ | refine hk.callA (t6 _) ?_ | refine hk.calldA t6 ?_ | refine hk.callA (t7 _) ?_ | refine hk.calldA t7 ?_ | refine hk.callA (g8 _) ?_ | refine hk.calldA g8 ?_ | refine hk.callA (sl _) ?_ | refine hk.calldA sl ?_ | refine hk.callA (sm _) ?_ | refine hk.calldA sm ?_ | refine hk.callA (gv _) ?_ | refine hk.calldA gv ?_ | refine stp ?_) <;> (conv => cbv))
            | (refine stpB (fun _ => ?_) (fun _ => ?_) <;> (conv => cbv))
            | exact stpF
            | fail)
          all_goals exact hk.fin0 rfl rfl (Wk.tup ⟨.refl _ _, Wk.agg ⟨.refl _ _, .refl _ _, .refl _ _, .refl _ _, .refl _ _, .refl _ _, .refl _ _, .refl _ _, .refl _ _, trivial⟩, .refl _ _, trivial⟩)
        · obtain ⟨e1, e2, e3⟩ := herr rfl h1
          rw [e1, e2, e3]
          clear hok herr hbad e1 e2 e3
          (conv => cbv)
          repeat' (first
            | assumption
            | ((first | refine hk.callA (hd _) ?_ | refine hk.calldA hd ?_ | refine hk.callA (t1 _) ?_ | refine hk.calldA t1 ?_ | refine hk.callA (t2 _) ?_ | refine hk.calldA t2 ?_ | refine hk.callA (t3 _) ?_ | refine hk.calldA t3 ?_ | refine hk.callA (g3 _) ?_ | refine hk.calldA g3 ?_ | refine hk.callA (ti _) ?_ | refine hk.calldA ti ?_ | refine hk.callA (t5 _) ?_ | refine hk.calldA t5 ?_ | refine hk.callA (t6 _) ?_ | refine hk.calldA t6 ?_ | refine hk.callA (t7 _) ?_ | refine hk.calldA t7 ?_ | refine hk.callA (g8 _) ?_ | refine hk.calldA g8 ?_ | refine hk.callA (sl _) ?_ | refine hk.calldA sl ?_ | refine hk.callA (sm _) ?_ | refine hk.calldA sm ?_ | refine hk.callA (gv _) ?_ | refine hk.calldA gv ?_ | refine stp ?_) <;> (conv => cbv))
            | (refine stpB (fun _ => ?_) (fun _ => ?_) <;> (conv => cbv))
            | exact stpF
            | fail)
          all_goals exact hk.fin0 rfl rfl (Wk.tup ⟨.refl _ _, Wk.agg ⟨.refl _ _, .refl _ _, .refl _ _, Wk.nilL _ _, .refl _ _, .refl _ _, .refl _ _, Wk.nilL _ _, Wk.nilL _ _, trivial⟩, Wk.nilL _ _, trivial⟩)
      · obtain ⟨e1, e2, e3⟩ := hbad h0
        rw [e1, e2, e3, hFT2 T rfl]
        clear hok herr hbad e1 e2 e3 sm
        (conv => cbv)
        repeat' (first
          | assumption
          | ((first | refine hk.callA (hd _) ?_ | refine hk.calldA hd ?_ | refine hk.callA (t1 _) ?_ | refine hk.calldA t1 ?_ | refine hk.callA (t2 _) ?_ | refine hk.calldA t2 ?_ | refine hk.callA (t3 _) ?_ | refine hk.calldA t3 ?_ | refine hk.callA (g3 _) ?_ | refine hk.calldA g3 ?_ | refine hk.callA (ti _) ?_ | refine hk.calldA ti ?_ | refine hk.callA (t5 _) ?_ | refine hk.calldA t5 ?_ | refine hk.callA (t6 _) ?_ | refine hk.calldA t6 ?_ | refine hk.callA (t7 _) ?_ | refine hk.calldA t7 ?_ | refine hk.callA (g8 _) ?_ | refine hk.calldA g8 ?_ | refine hk.callA (sl _) ?_ | refine hk.calldA sl ?_ | refine hk.callA (sm _) ?_ | refine hk.calldA sm ?_ | refine hk.callA (gv _) ?_ | refine hk.calldA gv ?_ | refine stp ?_) <;> (conv => cbv))
          | (refine stpB (fun _ => ?_) (fun _ => ?_) <;> (conv => cbv))
          | exact stpF
          | fail)
        all_goals exact hk.fin0 rfl rfl (Wk.tup ⟨.refl _ _, Wk.agg ⟨.refl _ _, .refl _ _, .refl _ _, Wk.nilL _ _, .refl _ _, .refl _ _, .refl _ _, Wk.nilL _ _, Wk.nilL _ _, trivial⟩, Wk.nilL _ _, trivial⟩)
  · subst x2
    rcases hC with ⟨y1, y2, y3, ⟨z1, z2⟩ | ⟨z1, z2⟩⟩ | ⟨y1, y2, y3, y4⟩
    · subst y2 y3 z2
      refine pure0 ?_ rfl rfl h
      refine doesFs (fun f => f == 9999 || f == 19006) P_ok Tryz.f9 (by kernel_rfl) (by kernel_rfl) ?_
      intro i2 c2 u1 cv mx mn ad sbt bn bq ba lnI gtI apI sbI stI rpI lnG gtG apG sbG stG rpG fi fb fs fl fg fc sln sgt sap ssb sc b2s s2b nd call calld callv callvd loop rfun fin hk
      by_cases h0 : FT = 0
      · subst h0
        have sm := sm rfl
        have ev := ev rfl
        have h8f := h8f rfl
        by_cases h1 : E = 0
        · subst h1
          obtain ⟨e1, e2, e3⟩ := hok rfl rfl
          rw [e1, e2, e3, h8a, h8f, ev]
          clear hok herr hbad e1 e2 e3
          (conv => cbv)
          repeat' (first
            | assumption
            | ((first | refine hk.callA (hd _) ?_ | refine hk.calldA hd ?_ | refine hk.callA (t1 _) ?_ | refine hk.calldA t1 ?_ | refine hk.callA (t2 _) ?_ | refine hk.calldA t2 ?_ | refine hk.callA (t3 _) ?_ | refine hk.calldA t3 ?_ | refine hk.callA (g3 _) ?_ | refine hk.calldA g3 ?_ | refine hk.callA (ti _) ?_ | refine hk.calldA ti ?_ | refine hk.callA (t5 _) ?_ | refine hk.calldA t5 ?_ | refine hk.callA (t6 _) ?_ | refine hk.calldA t6 ?_ | refine hk.callA (t7 _) ?_ | refine hk.calldA t7 ?_ | refine hk.callA (g8 _) ?_ | refine hk.calldA g8 ?_ | refine hk.callA (sl _) ?_ | refine hk.calldA sl ?_ | refine hk.callA (sm _) ?_ | refine hk.calldA sm ?_ | refine hk.callA (gv _) ?_ | refine hk.calldA gv ?_ | refine stp ?_) <;> (conv => cbv))
            | (refine stpB (fun _ => ?_) (fun _ => ?_) <;> (conv => cbv))
            | exact stpF
            | fail)
          all_goals exact hk.fin0 rfl rfl (Wk.tup ⟨.refl _ _, Wk.agg ⟨.refl _ _, .refl _ _, .refl _ _, .refl _ _, .refl _ _, .refl _ _, .refl _ _, .refl _ _, .refl _ _, trivial⟩, .refl _ _, trivial⟩)
        · obtain ⟨e1, e2, e3⟩ := herr rfl h1
          rw [e1, e2, e3]
          clear hok herr hbad e1 e2 e3
          (conv => cbv)
          repeat' (first
            | assumption
            | ((first | refine hk.callA (hd _) ?_ | refine hk.calldA hd ?_ | refine hk.callA (t1 _) ?_ | refine hk.calldA t1 ?_ | refine hk.callA (t2 _) ?_ | refine hk.calldA t2 ?_ | refine hk.callA (t3 _) ?_ | refine hk.calldA t3 ?_ | refine hk.callA (g3 _) ?_ | refine hk.calldA g3 ?_ | refine hk.callA (ti _) ?_ | refine hk.calldA ti ?_ | refine hk.callA (t5 _) ?_ | refine hk.calldA t5 ?_ | refine hk.callA (t6 _) ?_ | refine hk.calldA t6 ?_ | refine hk.callA (t7 _) ?_ | refine hk.calldA t7 ?_ | refine hk.callA (g8 _) ?_ | refine hk.calldA g8 ?_ | refine hk.callA (sl _) ?_ | refine hk.calldA sl ?_ | refine hk.callA (sm _) ?_ | refine hk.calldA sm ?_ | refine hk.callA (gv _) ?_ | refine hk.calldA gv ?_ | refine stp ?_) <;> (conv => cbv))
            | (refine stpB (fun _ => ?_) (fun _ => ?_) <;> (conv => cbv))
            | exact stpF
            | fail)
          all_goals exact hk.fin0 rfl rfl (Wk.tup ⟨.refl _ _, Wk.agg ⟨.refl _ _, .refl _ _, .refl _ _, Wk.nilL _ _, .refl _ _, .refl _ _, .refl _ _, Wk.nilL _ _, Wk.nilL _ _, trivial⟩, Wk.nilL _ _, trivial⟩)
      · obtain ⟨e1, e2, e3⟩ := hbad h0
        rw [e1, e2, e3, hFT2 T rfl]
        clear hok herr hbad e1 e2 e3 sm
        (conv => cbv)
        repeat' (first
          | assumption
          | ((first | refine hk.callA (hd _) ?_ | refine hk.calldA hd ?_ | refine hk.callA (t1 _) ?_ | refine hk.calldA t1 ?_ | refine hk.callA (t2 _) ?_ | refine hk.calldA t2 ?_ | refine hk.callA (t3 _) ?_ | refine hk.calldA t3 ?_ | refine hk.callA (g3 _) ?_ | refine hk.calldA g3 ?_ | refine hk.callA (ti _) ?_ | refine hk.calldA ti ?_ | refine hk.callA (t5 _) ?_ | refine hk.calldA t5 ?_ | refine hk.callA (t6 _) ?_ | refine hk.calldA t6 ?_ | refine hk.callA (t7 _) ?_ | refine hk.calldA t7 ?_ | refine hk.callA (g8 _) ?_ | refine hk.calldA g8 ?_ | refine hk.callA (sl _) ?_ | refine hk.calldA sl ?_ | refine hk.callA (sm _) ?_ | refine hk.calldA sm ?_ | refine hk.callA (gv _) ?_ | refine hk.calldA gv ?_ | refine stp ?_) <;> (conv => cbv))
          | (refine stpB (fun _ => ?_) (fun _ => ?_) <;> (conv => cbv))
          | exact stpF
          | fail)
        all_goals exact hk.fin0 rfl rfl (Wk.tup ⟨.refl _ _, Wk.agg ⟨.refl _ _, .refl _ _, .refl _ _, Wk.nilL _ _, .refl _ _, .refl _ _, .refl _ _, Wk.nilL _ _, Wk.nilL _ _, trivial⟩, Wk.nilL _ _, trivial⟩)
    · subst y2 y3 z2
      refine pure0 ?_ rfl rfl h
      refine doesFs (fun f => f == 9999 || f == 19006) P_ok Tryz.f9 (by kernel_rfl) (by kernel_rfl) ?_
      intro i2 c2 u1 cv mx mn ad sbt bn bq ba lnI gtI apI sbI stI rpI lnG gtG apG sbG stG rpG fi fb fs fl fg fc sln sgt sap ssb sc b2s s2b nd call calld callv callvd loop rfun fin hk
      by_cases h0 : FT = 0
      · subst h0
        have sm := sm rfl
        have ev := ev rfl
        have h8f := h8f rfl
        by_cases h1 : E = 0
        · subst h1
          obtain ⟨e1, e2, e3⟩ := hok rfl rfl
          rw [e1, e2, e3, h8a, h8f, ev]
          clear hok herr hbad e1 e2 e3
          (conv => cbv)
          repeat' (first
            | assumption
            | ((first | refine hk.callA (hd _) ?_ | refine hk.calldA hd ?_ | refine hk.callA (t1 _) ?_ | refine hk.calldA t1 ?_ | refine hk.callA (t2 _) ?_ | refine hk.calldA t2 ?_ | refine hk.callA (t3 _) ?_ | refine hk.calldA t3 ?_ | refine hk.callA (g3 _) ?_ | refine hk.calldA g3 ?_ | refine hk.callA (ti _) ?_ | refine hk.calldA ti ?_ | refine hk.callA (t5 _) ?_ | refine hk.calldA t5 ?_ | refine hk.callA (t6 _) ?_ | refine hk.calldA t6 ?_ | refine hk.callA (t7 _) ?_ | refine hk.calldA t7 ?_ | refine hk.callA (g8 _) ?_ | refine hk.calldA g8 ?_ | refine hk.callA (sl _) ?_ | refine hk.calldA sl ?_ | refine hk.callA (sm _) ?_ | refine hk.calldA sm ?_ | refine hk.callA (gv _) ?_ | refine hk.calldA gv ?_ | refine stp ?_) <;> (conv => cbv))
            | (refine stpB (fun _ => ?_) (fun _ => ?_) <;> (conv => cbv))
            | exact stpF
            | fail)
          all_goals exact hk.fin0 rfl rfl (Wk.tup ⟨.refl _ _, Wk.agg ⟨.refl _ _, .refl _ _, .refl _ _, .refl _ _, .refl _ _, .refl _ _, .refl _ _, .refl _ _, .refl _ _, trivial⟩, .refl _ _, trivial⟩)
        · obtain ⟨e1, e2, e3⟩ := herr rfl h1
          rw [e1, e2, e3]
          clear hok herr hbad e1 e2 e3
          (conv => cbv)
          repeat' (first
            | assumption
            | ((first | refine hk.callA (hd _) ?_ | refine hk.calldA hd ?_ | refine hk.callA (t1 _) ?_ | refine hk.calldA t1 ?_ | refine hk.callA (t2 _) ?_ | refine hk.calldA t2 ?_ | refine hk.callA (t3 _) ?_ | refine hk.calldA t3 ?_ | refine hk.callA (g3 _) ?_ | refine hk.calldA g3 ?_ | refine hk.callA (ti _) ?_ | refine hk.calldA ti ?_ | refine hk.callA (t5 _) ?_ | refine hk.calldA t5 ?_ | refine hk.callA (t6 _) ?_ | refine hk.calldA t6 ?_ | refine hk.callA (t7 _) ?_ | refine hk.calldA t7 ?_ | refine hk.callA (g8 _) ?_ | refine hk.calldA g8 ?_ | refine hk.callA (sl _) ?_ | refine hk.calldA sl ?_ | refine hk.callA (sm _) ?_ | refine hk.calldA sm ?_ | refine hk.callA (gv _) ?_ | refine hk.calldA gv ?_ | refine stp ?_) <;> (conv => cbv))
            | (refine stpB (fun _ => ?_) (fun _ => ?_) <;> (conv => cbv))
            | exact stpF
            | fail)
          all_goals exact hk.fin0 rfl rfl (Wk.tup ⟨.refl _ _, Wk.agg ⟨.refl _ _, .refl _ _, .refl _ _, Wk.nilL _ _, .refl _ _, .refl _ _, .refl _ _, Wk.nilL _ _, Wk.nilL _ _, trivial⟩, Wk.nilL _ _, trivial⟩)
      · obtain ⟨e1, e2, e3⟩ := hbad h0
        rw [e1, e2, e3, hFT2 T rfl]
        clear hok herr hbad e1 e2 e3 sm
        (conv => cbv)
        repeat' (first
          | assumption
          | ((first | refine hk.callA (hd _) ?_ | refine hk.calldA hd ?_ | refine hk.callA (t1 _) ?_ | refine hk.calldA t1 ?_ | refine hk.callA (t2 _) ?_ | refine hk.calldA t2 ?_ | refine hk.callA (t3 _) ?_ | refine hk.calldA t3 ?_ | refine hk.callA (g3 _) ?_ | refine hk.calldA g3 ?_ | refine hk.callA (ti _) ?_ | refine hk.calldA ti ?_ | refine hk.callA (t5 _) ?_ | refine hk.calldA t5 ?_ | refine hk.callA (t6 _) ?_ | refine hk.calldA t6 ?_ | refine hk.callA (t7 _) ?_ | refine hk.calldA t7 ?_ | refine hk.callA (g8 _) ?_ | refine hk.calldA g8 ?_ | refine hk.callA (sl _) ?_ | refine hk.calldA sl ?_ | refine hk.callA (sm _) ?_ | refine hk.calldA sm ?_ | refine hk.callA (gv _) ?_ | refine hk.calldA gv ?_ | refine stp ?_) <;> (conv => cbv))
          | (refine stpB (fun _ => ?_) (fun _ => ?_) <;> (conv => cbv))
          | exact stpF
          | fail)
        all_goals exact hk.fin0 rfl rfl (Wk.tup ⟨.refl _ _, Wk.agg ⟨.refl _ _, .refl _ _, .refl _ _, Wk.nilL _ _, .refl _ _, .refl _ _, .refl _ _, Wk.nilL _ _, Wk.nilL _ _, trivial⟩, Wk.nilL _ _, trivial⟩)
    · subst y2 y3 y4
      refine pure0 ?_ rfl rfl h
      refine doesFs (fun f => f == 9999 || f == 19006) P_ok Tryz.f9 (by kernel_rfl) (by kernel_rfl) ?_
      intro i2 c2 u1 cv mx mn ad sbt bn bq ba lnI gtI apI sbI stI rpI lnG gtG apG sbG stG rpG fi fb fs fl fg fc sln sgt sap ssb sc b2s s2b nd call calld callv callvd loop rfun fin hk
      by_cases h0 : FT = 0
      · subst h0
        have sm := sm rfl
        have ev := ev rfl
        have h8f := h8f rfl
        by_cases h1 : E = 0
        · subst h1
          obtain ⟨e1, e2, e3⟩ := hok rfl rfl
          rw [e1, e2, e3, h8a, h8f, ev]
          clear hok herr hbad e1 e2 e3
          (conv => cbv)
          repeat' (first
            | assumption
            | ((first | refine hk.callA (hd _) ?_ | refine hk.calldA hd ?_ | refine hk.callA (t1 _) ?_ | refine hk.calldA t1 ?_ | refine hk.callA (t2 _) ?_ | refine hk.calldA t2 ?_ | refine hk.callA (t3 _) ?_ | refine hk.calldA t3 ?_ | refine hk.callA (g3 _) ?_ | refine hk.calldA g3 ?_ | refine hk.callA (ti _) ?_ | refine hk.calldA ti ?_ | refine hk.callA (t5 _) ?_ | refine hk.calldA t5 ?_ | refine hk.callA (t6 _) ?_ | refine hk.calldA t6 ?_ | refine hk.callA (t7 _) ?_ | refine hk.calldA t7 ?_ | refine hk.callA (g8 _) ?_ | refine hk.calldA g8 ?_ | refine hk.callA (sl _) ?_ | refine hk.calldA sl ?_ | refine hk.callA (sm _) ?_ | refine hk.calldA sm ?_ | refine hk.callA (gv _) ?_ | refine hk.calldA gv ?_ | refine stp ?_) <;> (conv => cbv))
            | (refine stpB (fun _ => ?_) (fun _ => ?_) <;> (conv => cbv))
            | exact stpF
            | fail)
          all_goals exact hk.fin0 rfl rfl (Wk.tup ⟨.refl _ _, Wk.agg ⟨.refl _ _, .refl _ _, .refl _ _, .refl _ _, .refl _ _, .refl _ _, .refl _ _, .refl _ _, .refl _ _, trivial⟩, .refl _ _, trivial⟩)
        · obtain ⟨e1, e2, e3⟩ := herr rfl h1
          rw [e1, e2, e3]
          clear hok herr hbad e1 e2 e3
          (conv => cbv)
          repeat' (first
            | assumption
            | ((first | refine hk.callA (hd _) ?_ | refine hk.calldA hd ?_ | refine hk.callA (t1 _) ?_ | refine hk.calldA t1 ?_ | refine hk.callA (t2 _) ?_ | refine hk.calldA t2 ?_ | refine hk.callA (t3 _) ?_ | refine hk.calldA t3 ?_ | refine hk.callA (g3 _) ?_ | refine hk.calldA g3 ?_ | refine hk.callA (ti _) ?_ | refine hk.calldA ti ?_ | refine hk.callA (t5 _) ?_ | refine hk.calldA t5 ?_ | refine hk.callA (t6 _) ?_ | refine hk.calldA t6 ?_ | refine hk.callA (t7 _) ?_ | refine hk.calldA t7 ?_ | refine hk.callA (g8 _) ?_ | refine hk.calldA g8 ?_ | refine hk.callA (sl _) ?_ | refine hk.calldA sl ?_ | refine hk.callA (sm _) ?_ | refine hk.calldA sm ?_ | refine hk.callA (gv _) ?_ | refine hk.calldA gv ?_ | refine stp ?_) <;> (conv => cbv))
            | (refine stpB (fun _ => ?_) (fun _ => ?_) <;> (conv => cbv))
            | exact stpF
            | fail)
          all_goals exact hk.fin0 rfl rfl (Wk.tup ⟨.refl _ _, Wk.agg ⟨.refl _ _, .refl _ _, .refl _ _, Wk.nilL _ _, .refl _ _, .refl _ _, .refl _ _, Wk.nilL _ _, Wk.nilL _ _, trivial⟩, Wk.nilL _ _, trivial⟩)
      · obtain ⟨e1, e2, e3⟩ := hbad h0
        rw [e1, e2, e3, hFT2 T rfl]
        clear hok herr hbad e1 e2 e3 sm
        (conv => cbv)
        repeat' (first
          | assumption
          | ((first | refine hk.callA (hd _) ?_ | refine hk.calldA hd ?_ | refine hk.callA (t1 _) ?_ | refine hk.calldA t1 ?_ | refine hk.callA (t2 _) ?_ | refine hk.calldA t2 ?_ | refine hk.callA (t3 _) ?_ | refine hk.calldA t3 ?_ | refine hk.callA (g3 _) ?_ | refine hk.calldA g3 ?_ | refine hk.callA (ti _) ?_ | refine hk.calldA ti ?_ | refine hk.callA (t5 _) ?_ | refine hk.calldA t5 ?_ | refine hk.callA (t6 _) ?_ | refine hk.calldA t6 ?_ | refine hk.callA (t7 _) ?_ | refine hk.calldA t7 ?_ | refine hk.callA (g8 _) ?_ | refine hk.calldA g8 ?_ | refine hk.callA (sl _) ?_ | refine hk.calldA sl ?_ | refine hk.callA (sm _) ?_ | refine hk.calldA sm ?_ | refine hk.callA (gv _) ?_ | refine hk.calldA gv ?_ | refine stp ?_) <;> (conv => cbv))
          | (refine stpB (fun _ => ?_) (fun _ => ?_) <;> (conv => cbv))
          | exact stpF
          | fail)
        all_goals exact hk.fin0 rfl rfl (Wk.tup ⟨.refl _ _, Wk.agg ⟨.refl _ _, .refl _ _, .refl _ _, Wk.nilL _ _, .refl _ _, .refl _ _, .refl _ _, Wk.nilL _ _, Wk.nilL _ _, trivial⟩, Wk.nilL _ _, trivial⟩)
theorem rbtake_rr (all : Int) (s : RS) (h : Heap) (hl : s.1.length < 1099511627776) (n d : Int) (hn1 : 1 ≤ n) (hn2 : n ≤ 64) (hd1 : 8 ≤ d) (hd2 : d ≤ 26) :
    Does PP 9 [rr all s, I n, I d] h (Is (.tup [rr all (bkS n d s), (bkX n d s).v, LI (bkL n d s)]) h) := by
  have v0 := tkW_range 2 s
  have v1 := tkW_lt 2 s (by decide)
  have h4 : (2 : Int) ^ (Int.toNat 2) = 4 := by decide
  rw [h4] at v1
  by_cases k0 : tkW 2 s = 0
  · exact rbtake_0 all s h hl n d hn1 hn2 hd1 hd2 k0
  by_cases k1 : tkW 2 s = 1
  · exact rbtake_1 all s h hl n d hn1 hn2 hd1 hd2 k1
  by_cases k2 : tkW 2 s = 2
  · exact rbtake_2 all s h hl n d hn1 hn2 hd1 hd2 k2
  exact rbtake_3 all s h hl n d hn1 hn2 hd1 hd2 (by omega)
end Go.Proofs.YtfjdmgnhklpiiaaGreat
