/-
  Contracts of functions of the program, proved over the abstract machine of the Al texts.
-/
import Derived.Test.YtfjdmgnhklpiiaaGreatTryTab
import Derived.Test.YtfjdmgnhklpiiaaGreatAl4
import Derived.Test.YtfjdmgnhklpiiaaGreatBaseX
import Derived.Test.YtfjdmgnhklpiiaaGreatBsX8
import Derived.Test.YtfjdmgnhklpiiaaGreatTkX1
import Derived.Test.YtfjdmgnhklpiiaaGreatTkX2
import Derived.Test.YtfjdmgnhklpiiaaGreatPpX
import Derived.Test.YtfjdmgnhklpiiaaGreatBsX1
set_option maxHeartbeats 4000000
set_option maxRecDepth 20000
set_option linter.unusedSimpArgs false
set_option linter.unusedVariables false
open Go Go.AL
namespace Go.Proofs.YtfjdmgnhklpiiaaGreat
def BlkIn.e (x : BlkIn) (n d : Int) : Int := bsE x.kd x.vl x.sh x.ix x.lg x.gn x.pt x.rc x.da n d
def BlkIn.l (x : BlkIn) (n d : Int) : List Int := bsL x.kd x.vl x.sh x.ix x.lg x.gn x.pt x.rc x.da n d
def zBlk : BlkIn := ⟨0, 0, 0, [], 0, 0, 0, [], []⟩
def bkT (n d : Int) (s : RS) : RS :=
  if tkW 2 s = 1 then tkS d (tkS 2 s) else if tkW 2 s = 3 then (tnR d n (tkS 2 s)).1 else if tkW 2 s = 2 then rsS n (tkS 2 s) else tkS 2 s
def bkB (n d : Int) (s : RS) : BlkIn :=
  if tkW 2 s = 1 then ⟨1, sgW d (tkS 2 s), 0, [], 0, 0, 0, [], []⟩
  else if tkW 2 s = 3 then ⟨3, 0, 0, [], 0, 0, 0, [], (tnR d n (tkS 2 s)).2⟩
  else if tkW 2 s = 2 then ⟨2, 0, tkW 5 (tkS 2 s), (rsB (tkS 2 s)).2, lgW (rsB (tkS 2 s)).1, gnW (rsB (tkS 2 s)).1, tkW 2 (rsT (tkS 2 s)), slK n (rsT (tkS 2 s)), slL n (rsT (tkS 2 s))⟩
  else ⟨tkW 2 s, 0, 0, [], 0, 0, 0, [], []⟩
def bkS (n d : Int) (s : RS) : RS := if (bkT n d s).2 ≠ 0 then bkT n d s else gvS ((bkB n d s).e n d) (bkT n d s)
def bkX (n d : Int) (s : RS) : BlkIn := if (bkS n d s).2 = 0 then bkB n d s else zBlk
def bkL (n d : Int) (s : RS) : List Int := if (bkS n d s).2 = 0 then (bkB n d s).l n d else []
theorem slI_mono (m : Nat) : ∀ (i : Nat) (s : RS) (ks l : List Int), (slI m i s ks l).1.2 = 0 → s.2 = 0
  | 0, s, ks, l, h => h
  | i + 1, s, ks, l, h => by
    rw [slI] at h
    split at h
    · exact h
    · rename_i h2; exact Decidable.not_not.1 h2
theorem tkS_mono {n : Int} {s : RS} (h : (tkS n s).2 = 0) : s.2 = 0 := (tkS_ok h).1
theorem gvS_mono {e : Int} {s : RS} (h : (gvS e s).2 = 0) : s.2 = 0 := by
  unfold gvS at h
  simp only at h
  split at h
  · assumption
  · exact h
theorem slS_mono {n : Int} {s : RS} (h : (slS n s).2 = 0) : (tkS 2 s).2 = 0 := by
  unfold slS at h
  split at h
  · exact gvS_mono h
  · exact slI_mono _ _ _ _ _ h
theorem rsC_mono {s : RS} (h : (rsC s).2 = 0) : s.2 = 0 := by
  unfold rsC at h
  split at h
  · split at h
    · exact tkS_mono (tkS_mono (tkS_mono (gvS_mono h)))
    · exact tkS_mono (tkS_mono (tkS_mono h))
  · exact tkS_mono h
theorem rsS_mono {n : Int} {s : RS} (h : (rsS n s).2 = 0) : (rsB s).1.2 = 0 := rsC_mono (tkS_mono (slS_mono h))
theorem RV_bkT {bs : List Int} {s : RS} (h : RV bs s) (n d : Int) : RV bs (bkT n d s) := by
  unfold bkT
  repeat' split
  · exact RV_tk (RV_tk h _) _
  · exact tnR_RV (RV_tk h _) _ _
  · exact RV_sl (RV_rsT (RV_tk h _)) _
  · exact RV_tk h _
theorem slI_len (m : Nat) : ∀ (i : Nat) (s : RS) (ks l : List Int), (slI m i s ks l).2.1.length ≤ ks.length + i ∧ (slI m i s ks l).2.2.length ≤ l.length + i * m
  | 0, s, ks, l => by simp [slI]
  | i + 1, s, ks, l => by
    rw [slI]
    split
    · exact ⟨by simp only; omega, by simp only; omega⟩
    · have h1 := slI_len m i (itS (rtS (tkW 5 s)) (rtW (tkW 5 s)) m (tkS 5 s) l).1 (ks ++ [tkW 5 s]) (itS (rtS (tkW 5 s)) (rtW (tkW 5 s)) m (tkS 5 s) l).2
      have h2 := itS_len (rtS (tkW 5 s)) (rtW (tkW 5 s)) m (tkS 5 s) l
      rw [List.length_append] at h1
      simp only [List.length_cons, List.length_nil] at h1
      rw [Nat.succ_mul]
      omega
theorem sl_lens (n : Int) (s : RS) (hn0 : 0 ≤ n) (hn : n ≤ 1024) : (slK n s).length ≤ 8 ∧ (slL n s).length ≤ 8192 := by
  have v0 := tkW_range 2 s
  have v1 := tkW_lt 2 s (by decide)
  have h4 : (2 : Int) ^ (Int.toNat 2) = 4 := by decide
  rw [h4] at v1
  have hp8 : ∀ k : Nat, k ≤ 3 → 2 ^ k ≤ 8 := by decide
  have w8 := hp8 (tkW 2 s).toNat (by omega)
  have h := slI_len (n / 2 ^ (tkW 2 s).toNat).toNat (2 ^ (tkW 2 s).toNat) (tkS 2 s) [] []
  have hm : (n / 2 ^ (tkW 2 s).toNat).toNat ≤ 1024 := by
    have := Int.ediv_le_self (2 ^ (tkW 2 s).toNat) hn0
    omega
  have : 2 ^ (tkW 2 s).toNat * (n / 2 ^ (tkW 2 s).toNat).toNat ≤ 8 * 1024 := Nat.mul_le_mul w8 hm
  unfold slK slL
  simp only [List.length_nil, Nat.zero_add] at h
  omega
theorem bkB_ok (n d : Int) (s : RS) (hn0 : 0 ≤ n) (hn : n ≤ 1024) : (bkB n d s).ix.length ≤ 9223372036854775807 ∧ (bkB n d s).rc.length ≤ 9223372036854775807 ∧ (bkB n d s).da.length ≤ 9223372036854775807 := by
  have h1 := itS_len (tkS d) (sgW d) n.toNat (tkS 2 s) []
  have h2 := itS_len (tkS 7) (sgW 7) (tkW 5 (tkS 5 (tkS 2 s))).toNat (rsA (tkS 2 s)) []
  have h3 := sl_lens n (rsT (tkS 2 s)) hn0 hn
  have h4 := tkW_lt 5 (tkS 5 (tkS 2 s)) (by decide)
  have h32 : (2 : Int) ^ (Int.toNat 5) = 32 := by decide
  rw [h32] at h4
  simp only [List.length_nil, Nat.zero_add] at h1 h2
  unfold bkB
  repeat' split
  all_goals simp only [List.length_nil]
  · omega
  · unfold tnR; omega
  · unfold rsB tnR; omega
  · omega
end Go.Proofs.YtfjdmgnhklpiiaaGreat
set_option maxHeartbeats 4000000
set_option maxRecDepth 20000
set_option linter.unusedSimpArgs false
set_option linter.unusedVariables false
open Go Go.AL
namespace Go.Proofs.YtfjdmgnhklpiiaaGreat
theorem gvS_snd {e : Int} {s : RS} (h : s.2 = 0) : (gvS e s).2 = e := by unfold gvS; simp only; rw [if_pos h]
theorem bk_bad {n d : Int} {s : RS} (h : (bkT n d s).2 ≠ 0) : bkS n d s = bkT n d s ∧ bkX n d s = zBlk ∧ bkL n d s = [] := by
  have e : bkS n d s = bkT n d s := if_pos h
  exact ⟨e, by rw [bkX, e, if_neg h], by rw [bkL, e, if_neg h]⟩
theorem bk_err {n d : Int} {s : RS} (h : (bkT n d s).2 = 0) (h2 : (bkB n d s).e n d ≠ 0) : bkS n d s = gvS ((bkB n d s).e n d) (bkT n d s) ∧ bkX n d s = zBlk ∧ bkL n d s = [] := by
  have e : bkS n d s = gvS ((bkB n d s).e n d) (bkT n d s) := if_neg (fun h3 => h3 h)
  have e2 : (bkS n d s).2 ≠ 0 := by rw [e, gvS_snd h]; exact h2
  exact ⟨e, by rw [bkX, if_neg e2], by rw [bkL, if_neg e2]⟩
theorem bk_ok {n d : Int} {s : RS} (h : (bkT n d s).2 = 0) (h2 : (bkB n d s).e n d = 0) : bkS n d s = gvS ((bkB n d s).e n d) (bkT n d s) ∧ bkX n d s = bkB n d s ∧ bkL n d s = (bkB n d s).l n d := by
  have e : bkS n d s = gvS ((bkB n d s).e n d) (bkT n d s) := if_neg (fun h3 => h3 h)
  have e2 : (bkS n d s).2 = 0 := by rw [e, gvS_snd h]; exact h2
  exact ⟨e, by rw [bkX, if_pos e2], by rw [bkL, if_pos e2]⟩
theorem btake_0 (bs : List Int) (hB : Bytes8 bs) (hl : bs.length < 137438953472) (s : RS) (hs : RV bs s) (n d : Int) (hn1 : 1 ≤ n) (hn2 : n ≤ 64) (hd1 : 8 ≤ d) (hd2 : d ≤ 26) (hV : tkW 2 s = 0) :
    Does PP 8 [.ptr 0 0, I n, I d] (rh bs s) (Is (.tup [(bkX n d s).v, LI (bkL n d s)]) (rh bs (bkS n d s))) := by
  have hd := fun h => bdepth_spec d h
  rw [decide_eq_true hd1, decide_eq_true hd2] at hd
  have hc := fun h => bcount_spec n h
  rw [decide_eq_true hn1, decide_eq_true (show n ≤ 1024 by omega)] at hc
  have t1 := take_rh bs hB hl s hs 2
  have v1 := RV_tk hs 2
  rw [hV] at t1
  have hT : RV bs (bkT n d s) := RV_bkT hs n d
  have fl := fail_rh bs (bkT n d s)
  have gv := give_rh bs (bkT n d s) ((bkB n d s).e n d)
  have hbad := bk_bad (n := n) (d := d) (s := s)
  have herr := bk_err (n := n) (d := d) (s := s)
  have hok := bk_ok (n := n) (d := d) (s := s)
  obtain ⟨ok1, ok2, ok3⟩ := bkB_ok n d s (by omega) (by omega)
  have sm := (smp_both (bkB n d s).kd (bkB n d s).vl (bkB n d s).sh (bkB n d s).ix (bkB n d s).lg (bkB n d s).gn (bkB n d s).pt (bkB n d s).rc (bkB n d s).da n d hn2 ok1 ok2 ok3).1
  have er := bsE_range (bkB n d s).kd (bkB n d s).vl (bkB n d s).sh (bkB n d s).ix (bkB n d s).lg (bkB n d s).gn (bkB n d s).pt (bkB n d s).rc (bkB n d s).da n d
  change ∀ h, Does PP 19 _ h (Is (.tup [LI ((bkB n d s).l n d), I ((bkB n d s).e n d)]) h) at sm
  change 0 ≤ (bkB n d s).e n d ∧ (bkB n d s).e n d ≤ 100 at er
  clear ok1 ok2 ok3 hT
  have eT : bkT n d s = tkS 2 s := by unfold bkT; rw [hV]; rfl
  have eB : bkB n d s = ⟨0, 0, 0, [], 0, 0, 0, [], []⟩ := by unfold bkB; rw [hV]; rfl
  have sm : ∀ h, Does PP 19 [.agg [I 0, I 0, I 0, .ls .nl .nil, I 0, I 0, I 0, .ls .nl .nil, .ls .nl .nil], I n, I d] h (Is (.tup [LI ((bkB n d s).l n d), I ((bkB n d s).e n d)]) h) := fun h => by
    have := sm h
    rw [eB] at this ⊢
    exact this.wk (WkL.cons (Wk.agg ⟨.refl _ _, .refl _ _, .refl _ _, Wk.nilL _ _, .refl _ _, .refl _ _, .refl _ _, Wk.nilL _ _, Wk.nilL _ _, trivial⟩) (WkL.cons (Wk.refl _ _) (WkL.cons (Wk.refl _ _) WkL.nil)))
  have ev : (bkB n d s).v = .agg [I 0, I 0, I 0, LI [], I 0, I 0, I 0, LI [], LI []] := by rw [eB]; rfl
  obtain ⟨E, hE⟩ : ∃ x, x = (bkB n d s).e n d := ⟨_, rfl⟩
  obtain ⟨L, hL⟩ : ∃ x, x = (bkB n d s).l n d := ⟨_, rfl⟩
  rw [← hE] at gv herr hok er
  rw [← hL] at hok
  simp only [← hE, ← hL] at sm
  clear hE hL
  obtain ⟨T, hTd⟩ : ∃ x, x = bkT n d s := ⟨_, rfl⟩
  obtain ⟨s1, hs1⟩ : ∃ x, x = tkS 2 s := ⟨_, rfl⟩
  obtain ⟨s9, hs9⟩ : ∃ x, x = bkS n d s := ⟨_, rfl⟩
  obtain ⟨s8, hs8⟩ : ∃ x, x = gvS E T := ⟨_, rfl⟩
  rw [← hTd] at fl gv hbad herr hok
  rw [← hs8] at gv herr hok
  rw [← hs9] at hbad herr hok
  rw [← hs1] at t1
  rw [← hs9]
  rw [← hTd, ← hs1] at eT
  have hs1' := hs1
  clear hTd hs8 hs9 hs1 eB
  subst eT
  have qp : True := trivial
  unfold rh at *
  have q1 := fun G => rd_frameG G t1 rfl rfl rfl
  have qf := fun G => rd_frameG G fl rfl rfl rfl
  have qg := fun G => rd_frameG G gv rfl rfl rfl
  clear t1 fl gv
  unfold rd
  obtain ⟨A, hAp⟩ : ∃ A : RS → Int, ∀ s, rpos bs s = A s := ⟨_, fun _ => rfl⟩
  obtain ⟨F, hFp⟩ : ∃ A : RS → Int, ∀ s : RS, s.2 = A s := ⟨_, fun _ => rfl⟩
  simp only [hAp, hFp] at *
  clear hAp hFp hB hl hs v1
  obtain ⟨FT, hFT⟩ : ∃ x, x = F T := ⟨_, rfl⟩
  have hFT2 : ∀ x, x = T → F x = FT := fun x h => by rw [h]; exact hFT.symm
  simp only [← hFT] at *
  refine wlk Tryz.f8 ?_
  unhygienic intros
  have hcv : cv .i64 0 = 0 := by rw [hk.cv_eq]; exact wrap64 (by omega) (by omega)
  by_cases h0 : FT = 0
  · subst h0
    skip
    by_cases h1 : E = 0
    · subst h1
      obtain ⟨e1, e2, e3⟩ := hok rfl rfl
      rw [e1, e2, e3]
      clear hok herr hbad e1 e2 e3
      rw [ev]
      (conv => cbv)
      repeat' (first | assumption | ((first | refine hk.callA (hc _) ?_ | refine hk.calldA hc ?_ | refine hk.callA (hd _) ?_ | refine hk.calldA hd ?_ | refine hk.callA (q1 _) ?_ | rw [hcv] | refine hk.callA (qp _) ?_ | refine hk.callA (qf _) ?_ | refine hk.callA (sm _) ?_ | refine hk.calldA sm ?_ | refine hk.callA (qg _) ?_ | refine stp ?_ | refine stpB (fun _ => ?_) (fun _ => ?_)) <;> (conv => cbv)) | exact stpF | fail)
      all_goals refine hk.finI (fin_lowN 1 (Nat.le_refl 1) ?_ rfl rfl ⟨rfl, rfl⟩)
      all_goals exact Wk.tup ⟨Wk.agg ⟨.refl _ _, .refl _ _, .refl _ _, Wk.nilL _ _, .refl _ _, .refl _ _, .refl _ _, Wk.nilL _ _, Wk.nilL _ _, trivial⟩, .refl _ _, trivial⟩
    · obtain ⟨e1, e2, e3⟩ := herr rfl h1
      rw [e1, e2, e3]
      clear hok herr hbad e1 e2 e3
      (conv => cbv)
      repeat' (first | assumption | ((first | refine hk.callA (hc _) ?_ | refine hk.calldA hc ?_ | refine hk.callA (hd _) ?_ | refine hk.calldA hd ?_ | refine hk.callA (q1 _) ?_ | rw [hcv] | refine hk.callA (qp _) ?_ | refine hk.callA (qf _) ?_ | refine hk.callA (sm _) ?_ | refine hk.calldA sm ?_ | refine hk.callA (qg _) ?_ | refine stp ?_ | refine stpB (fun _ => ?_) (fun _ => ?_)) <;> (conv => cbv)) | exact stpF | fail)
      all_goals refine hk.finI (fin_lowN 1 (Nat.le_refl 1) ?_ rfl rfl ⟨rfl, rfl⟩)
      all_goals exact Wk.tup ⟨Wk.agg ⟨.refl _ _, .refl _ _, .refl _ _, Wk.nilL _ _, .refl _ _, .refl _ _, .refl _ _, Wk.nilL _ _, Wk.nilL _ _, trivial⟩, Wk.nilL _ _, trivial⟩
  · obtain ⟨e1, e2, e3⟩ := hbad h0
    rw [e1, e2, e3, hFT2 T rfl]
    clear hok herr hbad e1 e2 e3 sm
    (conv => cbv)
    repeat' (first | assumption | ((first | refine hk.callA (hc _) ?_ | refine hk.calldA hc ?_ | refine hk.callA (hd _) ?_ | refine hk.calldA hd ?_ | refine hk.callA (q1 _) ?_ | rw [hcv] | refine hk.callA (qp _) ?_ | refine hk.callA (qf _) ?_ | refine hk.callA (qg _) ?_ | refine stp ?_ | refine stpB (fun _ => ?_) (fun _ => ?_)) <;> (conv => cbv)) | exact stpF | fail)
    all_goals refine hk.finI (fin_lowN 1 (Nat.le_refl 1) ?_ rfl rfl ⟨rfl, rfl⟩)
    all_goals exact Wk.tup ⟨Wk.agg ⟨.refl _ _, .refl _ _, .refl _ _, Wk.nilL _ _, .refl _ _, .refl _ _, .refl _ _, Wk.nilL _ _, Wk.nilL _ _, trivial⟩, Wk.nilL _ _, trivial⟩
theorem btake_1 (bs : List Int) (hB : Bytes8 bs) (hl : bs.length < 137438953472) (s : RS) (hs : RV bs s) (n d : Int) (hn1 : 1 ≤ n) (hn2 : n ≤ 64) (hd1 : 8 ≤ d) (hd2 : d ≤ 26) (hV : tkW 2 s = 1) :
    Does PP 8 [.ptr 0 0, I n, I d] (rh bs s) (Is (.tup [(bkX n d s).v, LI (bkL n d s)]) (rh bs (bkS n d s))) := by
  have hd := fun h => bdepth_spec d h
  rw [decide_eq_true hd1, decide_eq_true hd2] at hd
  have hc := fun h => bcount_spec n h
  rw [decide_eq_true hn1, decide_eq_true (show n ≤ 1024 by omega)] at hc
  have t1 := take_rh bs hB hl s hs 2
  have v1 := RV_tk hs 2
  rw [hV] at t1
  have hT : RV bs (bkT n d s) := RV_bkT hs n d
  have fl := fail_rh bs (bkT n d s)
  have gv := give_rh bs (bkT n d s) ((bkB n d s).e n d)
  have hbad := bk_bad (n := n) (d := d) (s := s)
  have herr := bk_err (n := n) (d := d) (s := s)
  have hok := bk_ok (n := n) (d := d) (s := s)
  obtain ⟨ok1, ok2, ok3⟩ := bkB_ok n d s (by omega) (by omega)
  have sm := (smp_both (bkB n d s).kd (bkB n d s).vl (bkB n d s).sh (bkB n d s).ix (bkB n d s).lg (bkB n d s).gn (bkB n d s).pt (bkB n d s).rc (bkB n d s).da n d hn2 ok1 ok2 ok3).1
  have er := bsE_range (bkB n d s).kd (bkB n d s).vl (bkB n d s).sh (bkB n d s).ix (bkB n d s).lg (bkB n d s).gn (bkB n d s).pt (bkB n d s).rc (bkB n d s).da n d
  change ∀ h, Does PP 19 _ h (Is (.tup [LI ((bkB n d s).l n d), I ((bkB n d s).e n d)]) h) at sm
  change 0 ≤ (bkB n d s).e n d ∧ (bkB n d s).e n d ≤ 100 at er
  clear ok1 ok2 ok3 hT
  have eT : bkT n d s = tkS d (tkS 2 s) := by unfold bkT; rw [hV]; rfl
  have eB : bkB n d s = ⟨1, sgW d (tkS 2 s), 0, [], 0, 0, 0, [], []⟩ := by unfold bkB; rw [hV]; rfl
  have sm : ∀ h, Does PP 19 [.agg [I 1, I (sgW d (tkS 2 s)), I 0, .ls .nl .nil, I 0, I 0, I 0, .ls .nl .nil, .ls .nl .nil], I n, I d] h (Is (.tup [LI ((bkB n d s).l n d), I ((bkB n d s).e n d)]) h) := fun h => by
    have := sm h
    rw [eB] at this ⊢
    exact this.wk (WkL.cons (Wk.agg ⟨.refl _ _, .refl _ _, .refl _ _, Wk.nilL _ _, .refl _ _, .refl _ _, .refl _ _, Wk.nilL _ _, Wk.nilL _ _, trivial⟩) (WkL.cons (Wk.refl _ _) (WkL.cons (Wk.refl _ _) WkL.nil)))
  have ev : (bkB n d s).v = .agg [I 1, I (sgW d (tkS 2 s)), I 0, LI [], I 0, I 0, I 0, LI [], LI []] := by rw [eB]; rfl
  obtain ⟨E, hE⟩ : ∃ x, x = (bkB n d s).e n d := ⟨_, rfl⟩
  obtain ⟨L, hL⟩ : ∃ x, x = (bkB n d s).l n d := ⟨_, rfl⟩
  rw [← hE] at gv herr hok er
  rw [← hL] at hok
  simp only [← hE, ← hL] at sm
  clear hE hL
  obtain ⟨T, hTd⟩ : ∃ x, x = bkT n d s := ⟨_, rfl⟩
  obtain ⟨s1, hs1⟩ : ∃ x, x = tkS 2 s := ⟨_, rfl⟩
  obtain ⟨s9, hs9⟩ : ∃ x, x = bkS n d s := ⟨_, rfl⟩
  obtain ⟨s8, hs8⟩ : ∃ x, x = gvS E T := ⟨_, rfl⟩
  rw [← hTd] at fl gv hbad herr hok
  rw [← hs8] at gv herr hok
  rw [← hs9] at hbad herr hok
  rw [← hs1] at t1
  rw [← hs9]
  rw [← hTd, ← hs1] at eT
  have hs1' := hs1
  clear hTd hs8 hs9 hs1 eB
  have pp := rsigned_rh bs hB hl _ v1 d (by omega) (by omega)
  have hs1 : tkS 2 s = s1 := hs1'.symm
  rw [hs1] at pp sm ev
  rw [← eT] at pp
  obtain ⟨W, hW⟩ : ∃ x, x = sgW d s1 := ⟨_, rfl⟩
  rw [← hW] at pp ev
  simp only [← hW] at sm
  clear hs1 hs1' eT hW
  unfold rh at pp
  have qp := fun G => rd_frameG G pp rfl rfl rfl
  clear pp
  unfold rh at *
  have q1 := fun G => rd_frameG G t1 rfl rfl rfl
  have qf := fun G => rd_frameG G fl rfl rfl rfl
  have qg := fun G => rd_frameG G gv rfl rfl rfl
  clear t1 fl gv
  unfold rd
  obtain ⟨A, hAp⟩ : ∃ A : RS → Int, ∀ s, rpos bs s = A s := ⟨_, fun _ => rfl⟩
  obtain ⟨F, hFp⟩ : ∃ A : RS → Int, ∀ s : RS, s.2 = A s := ⟨_, fun _ => rfl⟩
  simp only [hAp, hFp] at *
  clear hAp hFp hB hl hs v1
  obtain ⟨FT, hFT⟩ : ∃ x, x = F T := ⟨_, rfl⟩
  have hFT2 : ∀ x, x = T → F x = FT := fun x h => by rw [h]; exact hFT.symm
  simp only [← hFT] at *
  refine wlk Tryz.f8 ?_
  unhygienic intros
  have hcv : cv .i64 1 = 1 := by rw [hk.cv_eq]; exact wrap64 (by omega) (by omega)
  by_cases h0 : FT = 0
  · subst h0
    skip
    by_cases h1 : E = 0
    · subst h1
      obtain ⟨e1, e2, e3⟩ := hok rfl rfl
      rw [e1, e2, e3]
      clear hok herr hbad e1 e2 e3
      rw [ev]
      (conv => cbv)
      repeat' (first | assumption | ((first | refine hk.callA (hc _) ?_ | refine hk.calldA hc ?_ | refine hk.callA (hd _) ?_ | refine hk.calldA hd ?_ | refine hk.callA (q1 _) ?_ | rw [hcv] | refine hk.callA (qp _) ?_ | refine hk.callA (qf _) ?_ | refine hk.callA (sm _) ?_ | refine hk.calldA sm ?_ | refine hk.callA (qg _) ?_ | refine stp ?_ | refine stpB (fun _ => ?_) (fun _ => ?_)) <;> (conv => cbv)) | exact stpF | fail)
      all_goals refine hk.finI (fin_lowN 1 (Nat.le_refl 1) ?_ rfl rfl ⟨rfl, rfl⟩)
      all_goals exact Wk.tup ⟨Wk.agg ⟨.refl _ _, .refl _ _, .refl _ _, Wk.nilL _ _, .refl _ _, .refl _ _, .refl _ _, Wk.nilL _ _, Wk.nilL _ _, trivial⟩, .refl _ _, trivial⟩
    · obtain ⟨e1, e2, e3⟩ := herr rfl h1
      rw [e1, e2, e3]
      clear hok herr hbad e1 e2 e3
      (conv => cbv)
      repeat' (first | assumption | ((first | refine hk.callA (hc _) ?_ | refine hk.calldA hc ?_ | refine hk.callA (hd _) ?_ | refine hk.calldA hd ?_ | refine hk.callA (q1 _) ?_ | rw [hcv] | refine hk.callA (qp _) ?_ | refine hk.callA (qf _) ?_ | refine hk.callA (sm _) ?_ | refine hk.calldA sm ?_ | refine hk.callA (qg _) ?_ | refine stp ?_ | refine stpB (fun _ => ?_) (fun _ => ?_)) <;> (conv => cbv)) | exact stpF | fail)
      all_goals refine hk.finI (fin_lowN 1 (Nat.le_refl 1) ?_ rfl rfl ⟨rfl, rfl⟩)
      all_goals exact Wk.tup ⟨Wk.agg ⟨.refl _ _, .refl _ _, .refl _ _, Wk.nilL _ _, .refl _ _, .refl _ _, .refl _ _, Wk.nilL _ _, Wk.nilL _ _, trivial⟩, Wk.nilL _ _, trivial⟩
  · obtain ⟨e1, e2, e3⟩ := hbad h0
    rw [e1, e2, e3, hFT2 T rfl]
    clear hok herr hbad e1 e2 e3 sm
    (conv => cbv)
    repeat' (first | assumption | ((first | refine hk.callA (hc _) ?_ | refine hk.calldA hc ?_ | refine hk.callA (hd _) ?_ | refine hk.calldA hd ?_ | refine hk.callA (q1 _) ?_ | rw [hcv] | refine hk.callA (qp _) ?_ | refine hk.callA (qf _) ?_ | refine hk.callA (qg _) ?_ | refine stp ?_ | refine stpB (fun _ => ?_) (fun _ => ?_)) <;> (conv => cbv)) | exact stpF | fail)
    all_goals refine hk.finI (fin_lowN 1 (Nat.le_refl 1) ?_ rfl rfl ⟨rfl, rfl⟩)
    all_goals exact Wk.tup ⟨Wk.agg ⟨.refl _ _, .refl _ _, .refl _ _, Wk.nilL _ _, .refl _ _, .refl _ _, .refl _ _, Wk.nilL _ _, Wk.nilL _ _, trivial⟩, Wk.nilL _ _, trivial⟩
theorem btake_3 (bs : List Int) (hB : Bytes8 bs) (hl : bs.length < 137438953472) (s : RS) (hs : RV bs s) (n d : Int) (hn1 : 1 ≤ n) (hn2 : n ≤ 64) (hd1 : 8 ≤ d) (hd2 : d ≤ 26) (hV : tkW 2 s = 3) :
    Does PP 8 [.ptr 0 0, I n, I d] (rh bs s) (Is (.tup [(bkX n d s).v, LI (bkL n d s)]) (rh bs (bkS n d s))) := by
  have hd := fun h => bdepth_spec d h
  rw [decide_eq_true hd1, decide_eq_true hd2] at hd
  have hc := fun h => bcount_spec n h
  rw [decide_eq_true hn1, decide_eq_true (show n ≤ 1024 by omega)] at hc
  have t1 := take_rh bs hB hl s hs 2
  have v1 := RV_tk hs 2
  rw [hV] at t1
  have hT : RV bs (bkT n d s) := RV_bkT hs n d
  have fl := fail_rh bs (bkT n d s)
  have gv := give_rh bs (bkT n d s) ((bkB n d s).e n d)
  have hbad := bk_bad (n := n) (d := d) (s := s)
  have herr := bk_err (n := n) (d := d) (s := s)
  have hok := bk_ok (n := n) (d := d) (s := s)
  obtain ⟨ok1, ok2, ok3⟩ := bkB_ok n d s (by omega) (by omega)
  have sm := (smp_both (bkB n d s).kd (bkB n d s).vl (bkB n d s).sh (bkB n d s).ix (bkB n d s).lg (bkB n d s).gn (bkB n d s).pt (bkB n d s).rc (bkB n d s).da n d hn2 ok1 ok2 ok3).1
  have er := bsE_range (bkB n d s).kd (bkB n d s).vl (bkB n d s).sh (bkB n d s).ix (bkB n d s).lg (bkB n d s).gn (bkB n d s).pt (bkB n d s).rc (bkB n d s).da n d
  change ∀ h, Does PP 19 _ h (Is (.tup [LI ((bkB n d s).l n d), I ((bkB n d s).e n d)]) h) at sm
  change 0 ≤ (bkB n d s).e n d ∧ (bkB n d s).e n d ≤ 100 at er
  clear ok1 ok2 ok3 hT
  have eT : bkT n d s = (tnR d n (tkS 2 s)).1 := by unfold bkT; rw [hV]; rfl
  have eB : bkB n d s = ⟨3, 0, 0, [], 0, 0, 0, [], (tnR d n (tkS 2 s)).2⟩ := by unfold bkB; rw [hV]; rfl
  have pp := taken_rh bs hB hl _ v1 n d (by omega) (by omega) (by omega) (by omega)
  obtain ⟨DD, hDD⟩ : ∃ x, x = (if (tnR d n (tkS 2 s)).1.2 = 0 then (tnR d n (tkS 2 s)).2 else []) := ⟨_, rfl⟩
  rw [← hDD] at pp
  have hdd : (bkT n d s).2 = 0 → DD = (tnR d n (tkS 2 s)).2 := fun h => by rw [hDD]; rw [eT] at h; exact if_pos h
  have sm : (bkT n d s).2 = 0 → ∀ h, Does PP 19 [.agg [I 3, I 0, I 0, .ls .nl .nil, I 0, I 0, I 0, .ls .nl .nil, LI DD], I n, I d] h (Is (.tup [LI ((bkB n d s).l n d), I ((bkB n d s).e n d)]) h) := fun h0 h => by
    have := sm h
    rw [eB] at this ⊢
    rw [hdd h0]
    exact this.wk (WkL.cons (Wk.agg ⟨.refl _ _, .refl _ _, .refl _ _, Wk.nilL _ _, .refl _ _, .refl _ _, .refl _ _, Wk.nilL _ _, .refl _ _, trivial⟩) (WkL.cons (Wk.refl _ _) (WkL.cons (Wk.refl _ _) WkL.nil)))
  have ev : (bkT n d s).2 = 0 → (bkB n d s).v = .agg [I 3, I 0, I 0, LI [], I 0, I 0, I 0, LI [], LI DD] := fun h => by rw [eB, hdd h]; rfl
  rw [← eT] at pp
  clear hdd hDD
  obtain ⟨E, hE⟩ : ∃ x, x = (bkB n d s).e n d := ⟨_, rfl⟩
  obtain ⟨L, hL⟩ : ∃ x, x = (bkB n d s).l n d := ⟨_, rfl⟩
  rw [← hE] at gv herr hok er
  rw [← hL] at hok
  simp only [← hE, ← hL] at sm
  clear hE hL
  obtain ⟨T, hTd⟩ : ∃ x, x = bkT n d s := ⟨_, rfl⟩
  obtain ⟨s1, hs1⟩ : ∃ x, x = tkS 2 s := ⟨_, rfl⟩
  obtain ⟨s9, hs9⟩ : ∃ x, x = bkS n d s := ⟨_, rfl⟩
  obtain ⟨s8, hs8⟩ : ∃ x, x = gvS E T := ⟨_, rfl⟩
  rw [← hTd] at fl gv hbad herr hok
  rw [← hs8] at gv herr hok
  rw [← hs9] at hbad herr hok
  rw [← hs1] at t1
  rw [← hs9]
  rw [← hTd] at pp ev sm
  rw [← hs1] at pp
  clear hTd hs8 hs9 hs1 eB eT
  unfold rh at pp
  have qp := fun G => rd_frameG G pp rfl rfl rfl
  clear pp
  unfold rh at *
  have q1 := fun G => rd_frameG G t1 rfl rfl rfl
  have qf := fun G => rd_frameG G fl rfl rfl rfl
  have qg := fun G => rd_frameG G gv rfl rfl rfl
  clear t1 fl gv
  unfold rd
  obtain ⟨A, hAp⟩ : ∃ A : RS → Int, ∀ s, rpos bs s = A s := ⟨_, fun _ => rfl⟩
  obtain ⟨F, hFp⟩ : ∃ A : RS → Int, ∀ s : RS, s.2 = A s := ⟨_, fun _ => rfl⟩
  simp only [hAp, hFp] at *
  clear hAp hFp hB hl hs v1
  obtain ⟨FT, hFT⟩ : ∃ x, x = F T := ⟨_, rfl⟩
  have hFT2 : ∀ x, x = T → F x = FT := fun x h => by rw [h]; exact hFT.symm
  simp only [← hFT] at *
  refine wlk Tryz.f8 ?_
  unhygienic intros
  have hcv : cv .i64 3 = 3 := by rw [hk.cv_eq]; exact wrap64 (by omega) (by omega)
  by_cases h0 : FT = 0
  · subst h0
    have sm := sm rfl
    by_cases h1 : E = 0
    · subst h1
      obtain ⟨e1, e2, e3⟩ := hok rfl rfl
      rw [e1, e2, e3]
      clear hok herr hbad e1 e2 e3
      rw [ev rfl]
      (conv => cbv)
      repeat' (first | assumption | ((first | refine hk.callA (hc _) ?_ | refine hk.calldA hc ?_ | refine hk.callA (hd _) ?_ | refine hk.calldA hd ?_ | refine hk.callA (q1 _) ?_ | rw [hcv] | refine hk.callA (qp _) ?_ | refine hk.callA (qf _) ?_ | refine hk.callA (sm _) ?_ | refine hk.calldA sm ?_ | refine hk.callA (qg _) ?_ | refine stp ?_ | refine stpB (fun _ => ?_) (fun _ => ?_)) <;> (conv => cbv)) | exact stpF | fail)
      all_goals refine hk.finI (fin_lowN 1 (Nat.le_refl 1) ?_ rfl rfl ⟨rfl, rfl⟩)
      all_goals exact Wk.tup ⟨Wk.agg ⟨.refl _ _, .refl _ _, .refl _ _, Wk.nilL _ _, .refl _ _, .refl _ _, .refl _ _, Wk.nilL _ _, .refl _ _, trivial⟩, .refl _ _, trivial⟩
    · obtain ⟨e1, e2, e3⟩ := herr rfl h1
      rw [e1, e2, e3]
      clear hok herr hbad e1 e2 e3
      (conv => cbv)
      repeat' (first | assumption | ((first | refine hk.callA (hc _) ?_ | refine hk.calldA hc ?_ | refine hk.callA (hd _) ?_ | refine hk.calldA hd ?_ | refine hk.callA (q1 _) ?_ | rw [hcv] | refine hk.callA (qp _) ?_ | refine hk.callA (qf _) ?_ | refine hk.callA (sm _) ?_ | refine hk.calldA sm ?_ | refine hk.callA (qg _) ?_ | refine stp ?_ | refine stpB (fun _ => ?_) (fun _ => ?_)) <;> (conv => cbv)) | exact stpF | fail)
      all_goals refine hk.finI (fin_lowN 1 (Nat.le_refl 1) ?_ rfl rfl ⟨rfl, rfl⟩)
      all_goals exact Wk.tup ⟨Wk.agg ⟨.refl _ _, .refl _ _, .refl _ _, Wk.nilL _ _, .refl _ _, .refl _ _, .refl _ _, Wk.nilL _ _, Wk.nilL _ _, trivial⟩, Wk.nilL _ _, trivial⟩
  · obtain ⟨e1, e2, e3⟩ := hbad h0
    rw [e1, e2, e3, hFT2 T rfl]
    clear hok herr hbad e1 e2 e3 sm
    (conv => cbv)
    repeat' (first | assumption | ((first | refine hk.callA (hc _) ?_ | refine hk.calldA hc ?_ | refine hk.callA (hd _) ?_ | refine hk.calldA hd ?_ | refine hk.callA (q1 _) ?_ | rw [hcv] | refine hk.callA (qp _) ?_ | refine hk.callA (qf _) ?_ | refine hk.callA (qg _) ?_ | refine stp ?_ | refine stpB (fun _ => ?_) (fun _ => ?_)) <;> (conv => cbv)) | exact stpF | fail)
    all_goals refine hk.finI (fin_lowN 1 (Nat.le_refl 1) ?_ rfl rfl ⟨rfl, rfl⟩)
    all_goals exact Wk.tup ⟨Wk.agg ⟨.refl _ _, .refl _ _, .refl _ _, Wk.nilL _ _, .refl _ _, .refl _ _, .refl _ _, Wk.nilL _ _, Wk.nilL _ _, trivial⟩, Wk.nilL _ _, trivial⟩
theorem btake_2 (bs : List Int) (hB : Bytes8 bs) (hl : bs.length < 137438953472) (s : RS) (hs : RV bs s) (n d : Int) (hn1 : 1 ≤ n) (hn2 : n ≤ 64) (hd1 : 8 ≤ d) (hd2 : d ≤ 26) (hV : tkW 2 s = 2) :
    Does PP 8 [.ptr 0 0, I n, I d] (rh bs s) (Is (.tup [(bkX n d s).v, LI (bkL n d s)]) (rh bs (bkS n d s))) := by
  have hd := fun h => bdepth_spec d h
  rw [decide_eq_true hd1, decide_eq_true hd2] at hd
  have hc := fun h => bcount_spec n h
  rw [decide_eq_true hn1, decide_eq_true (show n ≤ 1024 by omega)] at hc
  have t1 := take_rh bs hB hl s hs 2
  have v1 := RV_tk hs 2
  rw [hV] at t1
  have hT : RV bs (bkT n d s) := RV_bkT hs n d
  have fl := fail_rh bs (bkT n d s)
  have gv := give_rh bs (bkT n d s) ((bkB n d s).e n d)
  have hbad := bk_bad (n := n) (d := d) (s := s)
  have herr := bk_err (n := n) (d := d) (s := s)
  have hok := bk_ok (n := n) (d := d) (s := s)
  obtain ⟨ok1, ok2, ok3⟩ := bkB_ok n d s (by omega) (by omega)
  have sm := (smp_both (bkB n d s).kd (bkB n d s).vl (bkB n d s).sh (bkB n d s).ix (bkB n d s).lg (bkB n d s).gn (bkB n d s).pt (bkB n d s).rc (bkB n d s).da n d hn2 ok1 ok2 ok3).1
  have er := bsE_range (bkB n d s).kd (bkB n d s).vl (bkB n d s).sh (bkB n d s).ix (bkB n d s).lg (bkB n d s).gn (bkB n d s).pt (bkB n d s).rc (bkB n d s).da n d
  change ∀ h, Does PP 19 _ h (Is (.tup [LI ((bkB n d s).l n d), I ((bkB n d s).e n d)]) h) at sm
  change 0 ≤ (bkB n d s).e n d ∧ (bkB n d s).e n d ≤ 100 at er
  clear ok1 ok2 ok3 hT
  have eT : bkT n d s = rsS n (tkS 2 s) := by unfold bkT; rw [hV]; rfl
  have eB : bkB n d s = ⟨2, 0, tkW 5 (tkS 2 s), (rsB (tkS 2 s)).2, lgW (rsB (tkS 2 s)).1, gnW (rsB (tkS 2 s)).1, tkW 2 (rsT (tkS 2 s)), slK n (rsT (tkS 2 s)), slL n (rsT (tkS 2 s))⟩ := by unfold bkB; rw [hV]; rfl
  have pp := rest_rh bs hB hl _ v1 n hn1 (by omega)
  obtain ⟨IX, hIX⟩ : ∃ x, x = (if (rsB (tkS 2 s)).1.2 = 0 then (rsB (tkS 2 s)).2 else []) := ⟨_, rfl⟩
  obtain ⟨PT, hPT⟩ : ∃ x, x = (if (rsS n (tkS 2 s)).2 = 0 then tkW 2 (rsT (tkS 2 s)) else 0) := ⟨_, rfl⟩
  obtain ⟨RC, hRC⟩ : ∃ x, x = (if (rsS n (tkS 2 s)).2 = 0 then slK n (rsT (tkS 2 s)) else []) := ⟨_, rfl⟩
  obtain ⟨DD, hDD⟩ : ∃ x, x = (if (rsS n (tkS 2 s)).2 = 0 then slL n (rsT (tkS 2 s)) else []) := ⟨_, rfl⟩
  rw [← hIX, ← hPT, ← hRC, ← hDD] at pp
  obtain ⟨SH, hSH⟩ : ∃ x, x = tkW 5 (tkS 2 s) := ⟨_, rfl⟩
  obtain ⟨LG, hLG⟩ : ∃ x, x = lgW (rsB (tkS 2 s)).1 := ⟨_, rfl⟩
  obtain ⟨GN, hGN⟩ : ∃ x, x = gnW (rsB (tkS 2 s)).1 := ⟨_, rfl⟩
  rw [← hSH, ← hLG, ← hGN] at pp
  have hdd : (bkT n d s).2 = 0 → bkB n d s = ⟨2, 0, SH, IX, LG, GN, PT, RC, DD⟩ := fun h => by
    rw [eT] at h
    rw [eB, hIX, hPT, hRC, hDD, hSH, hLG, hGN, if_pos h, if_pos h, if_pos h, if_pos (rsS_mono h)]
  have sm : (bkT n d s).2 = 0 → ∀ h, Does PP 19 [.agg [I 2, I 0, I SH, LI IX, I LG, I GN, I PT, LI RC, LI DD], I n, I d] h (Is (.tup [LI ((bkB n d s).l n d), I ((bkB n d s).e n d)]) h) := fun h0 h => by
    have := sm h
    rw [hdd h0] at this ⊢
    exact this
  have ev : (bkT n d s).2 = 0 → (bkB n d s).v = .agg [I 2, I 0, I SH, LI IX, I LG, I GN, I PT, LI RC, LI DD] := fun h => by rw [hdd h]; rfl
  rw [← eT] at pp
  clear hdd hDD hIX hPT hRC hSH hLG hGN
  obtain ⟨E, hE⟩ : ∃ x, x = (bkB n d s).e n d := ⟨_, rfl⟩
  obtain ⟨L, hL⟩ : ∃ x, x = (bkB n d s).l n d := ⟨_, rfl⟩
  rw [← hE] at gv herr hok er
  rw [← hL] at hok
  simp only [← hE, ← hL] at sm
  clear hE hL
  obtain ⟨T, hTd⟩ : ∃ x, x = bkT n d s := ⟨_, rfl⟩
  obtain ⟨s1, hs1⟩ : ∃ x, x = tkS 2 s := ⟨_, rfl⟩
  obtain ⟨s9, hs9⟩ : ∃ x, x = bkS n d s := ⟨_, rfl⟩
  obtain ⟨s8, hs8⟩ : ∃ x, x = gvS E T := ⟨_, rfl⟩
  rw [← hTd] at fl gv hbad herr hok
  rw [← hs8] at gv herr hok
  rw [← hs9] at hbad herr hok
  rw [← hs1] at t1
  rw [← hs9]
  rw [← hTd] at pp ev sm
  rw [← hs1] at pp
  clear hTd hs8 hs9 hs1 eB eT
  unfold rh at pp
  have qp := fun G => rd_frameG G pp rfl rfl rfl
  clear pp
  unfold rh at *
  have q1 := fun G => rd_frameG G t1 rfl rfl rfl
  have qf := fun G => rd_frameG G fl rfl rfl rfl
  have qg := fun G => rd_frameG G gv rfl rfl rfl
  clear t1 fl gv
  unfold rd
  obtain ⟨A, hAp⟩ : ∃ A : RS → Int, ∀ s, rpos bs s = A s := ⟨_, fun _ => rfl⟩
  obtain ⟨F, hFp⟩ : ∃ A : RS → Int, ∀ s : RS, s.2 = A s := ⟨_, fun _ => rfl⟩
  simp only [hAp, hFp] at *
  clear hAp hFp hB hl hs v1
  obtain ⟨FT, hFT⟩ : ∃ x, x = F T := ⟨_, rfl⟩
  have hFT2 : ∀ x, x = T → F x = FT := fun x h => by rw [h]; exact hFT.symm
  simp only [← hFT] at *
  refine wlk Tryz.f8 ?_
  unhygienic intros
  have hcv : cv .i64 2 = 2 := by rw [hk.cv_eq]; exact wrap64 (by omega) (by omega)
  by_cases h0 : FT = 0
  · subst h0
    have sm := sm rfl
    by_cases h1 : E = 0
    · subst h1
      obtain ⟨e1, e2, e3⟩ := hok rfl rfl
      rw [e1, e2, e3]
      clear hok herr hbad e1 e2 e3
      rw [ev rfl]
      (conv => cbv)
      repeat' (first | assumption | ((first | refine hk.callA (hc _) ?_ | refine hk.calldA hc ?_ | refine hk.callA (hd _) ?_ | refine hk.calldA hd ?_ | refine hk.callA (q1 _) ?_ | rw [hcv] | refine hk.callA (qp _) ?_ | refine hk.callA (qf _) ?_ | refine hk.callA (sm _) ?_ | refine hk.calldA sm ?_ | refine hk.callA (qg _) ?_ | refine stp ?_ | refine stpB (fun _ => ?_) (fun _ => ?_)) <;> (conv => cbv)) | exact stpF | fail)
      all_goals refine hk.finI (fin_lowN 1 (Nat.le_refl 1) ?_ rfl rfl ⟨rfl, rfl⟩)
      all_goals exact Wk.tup ⟨Wk.agg ⟨.refl _ _, .refl _ _, .refl _ _, .refl _ _, .refl _ _, .refl _ _, .refl _ _, .refl _ _, .refl _ _, trivial⟩, .refl _ _, trivial⟩
    · obtain ⟨e1, e2, e3⟩ := herr rfl h1
      rw [e1, e2, e3]
      clear hok herr hbad e1 e2 e3
      (conv => cbv)
      repeat' (first | assumption | ((first | refine hk.callA (hc _) ?_ | refine hk.calldA hc ?_ | refine hk.callA (hd _) ?_ | refine hk.calldA hd ?_ | refine hk.callA (q1 _) ?_ | rw [hcv] | refine hk.callA (qp _) ?_ | refine hk.callA (qf _) ?_ | refine hk.callA (sm _) ?_ | refine hk.calldA sm ?_ | refine hk.callA (qg _) ?_ | refine stp ?_ | refine stpB (fun _ => ?_) (fun _ => ?_)) <;> (conv => cbv)) | exact stpF | fail)
      all_goals refine hk.finI (fin_lowN 1 (Nat.le_refl 1) ?_ rfl rfl ⟨rfl, rfl⟩)
      all_goals exact Wk.tup ⟨Wk.agg ⟨.refl _ _, .refl _ _, .refl _ _, Wk.nilL _ _, .refl _ _, .refl _ _, .refl _ _, Wk.nilL _ _, Wk.nilL _ _, trivial⟩, Wk.nilL _ _, trivial⟩
  · obtain ⟨e1, e2, e3⟩ := hbad h0
    rw [e1, e2, e3, hFT2 T rfl]
    clear hok herr hbad e1 e2 e3 sm
    (conv => cbv)
    repeat' (first | assumption | ((first | refine hk.callA (hc _) ?_ | refine hk.calldA hc ?_ | refine hk.callA (hd _) ?_ | refine hk.calldA hd ?_ | refine hk.callA (q1 _) ?_ | rw [hcv] | refine hk.callA (qp _) ?_ | refine hk.callA (qf _) ?_ | refine hk.callA (qg _) ?_ | refine stp ?_ | refine stpB (fun _ => ?_) (fun _ => ?_)) <;> (conv => cbv)) | exact stpF | fail)
    all_goals refine hk.finI (fin_lowN 1 (Nat.le_refl 1) ?_ rfl rfl ⟨rfl, rfl⟩)
    all_goals exact Wk.tup ⟨Wk.agg ⟨.refl _ _, .refl _ _, .refl _ _, Wk.nilL _ _, .refl _ _, .refl _ _, .refl _ _, Wk.nilL _ _, Wk.nilL _ _, trivial⟩, Wk.nilL _ _, trivial⟩
theorem btake_rh (bs : List Int) (hB : Bytes8 bs) (hl : bs.length < 137438953472) (s : RS) (hs : RV bs s) (n d : Int) (hn1 : 1 ≤ n) (hn2 : n ≤ 64) (hd1 : 8 ≤ d) (hd2 : d ≤ 26) :
    Does PP 8 [.ptr 0 0, I n, I d] (rh bs s) (Is (.tup [(bkX n d s).v, LI (bkL n d s)]) (rh bs (bkS n d s))) := by
  have v0 := tkW_range 2 s
  have v1 := tkW_lt 2 s (by decide)
  have h4 : (2 : Int) ^ (Int.toNat 2) = 4 := by decide
  rw [h4] at v1
  by_cases k0 : tkW 2 s = 0
  · exact btake_0 bs hB hl s hs n d hn1 hn2 hd1 hd2 k0
  by_cases k1 : tkW 2 s = 1
  · exact btake_1 bs hB hl s hs n d hn1 hn2 hd1 hd2 k1
  by_cases k2 : tkW 2 s = 2
  · exact btake_2 bs hB hl s hs n d hn1 hn2 hd1 hd2 k2
  exact btake_3 bs hB hl s hs n d hn1 hn2 hd1 hd2 (by omega)
end Go.Proofs.YtfjdmgnhklpiiaaGreat
