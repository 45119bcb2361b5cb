/-
  Contracts of functions of the program, proved over the abstract machine of the Al texts.
-/
import Derived.Test.YtfjdmgnhklpiiaaGreatTryTab
import Derived.Test.YtfjdmgnhklpiiaaGreatAl4
import Derived.Test.YtfjdmgnhklpiiaaGreatBaseX
import Derived.Test.YtfjdmgnhklpiiaaGreatRkX
import Derived.Test.YtfjdmgnhklpiiaaGreatPpX
import Derived.Test.YtfjdmgnhklpiiaaGreatPpY
import Derived.Test.YtfjdmgnhklpiiaaGreatBsX1
import Derived.Test.YtfjdmgnhklpiiaaGreatTkX1
import Derived.Test.YtfjdmgnhklpiiaaGreatTkX2
import Derived.Test.YtfjdmgnhklpiiaaGreatTkX3
import Derived.Test.YtfjdmgnhklpiiaaGreatSlX
import Derived.Test.YtfjdmgnhklpiiaaGreatBsX3
import Derived.Test.YtfjdmgnhklpiiaaGreatBsX4
import Derived.Test.YtfjdmgnhklpiiaaGreatBsX5
import Derived.Test.YtfjdmgnhklpiiaaGreatBsX6
import Derived.Test.YtfjdmgnhklpiiaaGreatBsX8
import Derived.Test.YtfjdmgnhklpiiaaGreatTkX5
import Derived.Test.YtfjdmgnhklpiiaaGreatTkX6
import Derived.Test.YtfjdmgnhklpiiaaGreatTkX7
set_option maxHeartbeats 4000000
set_option maxRecDepth 20000
set_option linter.unusedSimpArgs false
set_option linter.unusedVariables false
open Go Go.AL
namespace Go.Proofs.YtfjdmgnhklpiiaaGreat
/-! ### Errors' numbers are small -/
def FB (s : RS) : Prop := 0 ≤ s.2 ∧ s.2 ≤ 100
theorem FB_tk {s : RS} (h : FB s) (n : Int) : FB (tkS n s) := by
  unfold FB tkS tkF at *
  simp only
  repeat' split
  all_goals first | exact h | decide
theorem FB_gv {s : RS} (h : FB s) {e : Int} (h0 : 0 ≤ e) (h1 : e ≤ 100) : FB (gvS e s) := by
  unfold FB gvS at *
  simp only
  split
  · exact ⟨h0, h1⟩
  · exact h
theorem FB_zrun (m : Int) : ∀ (l : List Bool) (n : Int), FB (zrun m n l).2
  | [], n => by unfold zrun FB; decide
  | true :: t, n => by unfold zrun FB; simp
  | false :: t, n => by
    rw [zrun]
    split
    · unfold FB; simp
    · exact FB_zrun m t _
theorem FB_zr {s : RS} (h : FB s) (m : Int) : FB (zrS m s) := by
  unfold zrS
  split
  · exact FB_zrun m _ _
  · exact h
theorem FB_rt {s : RS} (h : FB s) (k : Int) : FB (rtS k s) := by
  unfold rtS
  repeat' split
  · exact FB_gv h (by decide) (by decide)
  · exact FB_tk (FB_zr h _) _
  · exact FB_gv (FB_tk (FB_zr h _) _) (by decide) (by decide)
  · exact FB_tk (FB_zr h _) _
theorem FB_it {f : RS → RS} (hf : ∀ s, FB s → FB (f s)) (g : RS → Int) : ∀ (j : Nat) (s : RS) (l : List Int), FB s → FB (itS f g j s l).1
  | 0, s, l, h => h
  | j + 1, s, l, h => by
    rw [itS]
    split
    · exact h
    · exact FB_it hf g j _ _ (hf s h)
theorem FB_slI (m : Nat) : ∀ (i : Nat) (s : RS) (ks l : List Int), FB s → FB (slI m i s ks l).1
  | 0, s, ks, l, h => h
  | i + 1, s, ks, l, h => by
    rw [slI]
    split
    · exact h
    · exact FB_slI m i _ _ _ (FB_it (fun s h => FB_rt h _) _ _ _ _ (FB_tk h 5))
theorem FB_sl {s : RS} (h : FB s) (n : Int) : FB (slS n s) := by
  unfold slS
  split
  · exact FB_gv (FB_tk h _) (by decide) (by decide)
  · exact FB_slI _ _ _ _ _ (FB_tk h _)
theorem FB_tn {s : RS} (h : FB s) (b n : Int) : FB (tnR b n s).1 := FB_it (fun s h => FB_tk h b) _ _ _ _ h
theorem FB_rsA {s : RS} (h : FB s) : FB (rsA s) := by
  unfold rsA
  split
  · exact FB_gv (FB_tk (FB_tk h _) _) (by decide) (by decide)
  · exact FB_tk (FB_tk h _) _
theorem FB_rsC {s : RS} (h : FB s) : FB (rsC s) := by
  unfold rsC
  repeat' split
  · exact FB_gv (FB_tk (FB_tk (FB_tk h _) _) _) (by decide) (by decide)
  · exact FB_tk (FB_tk (FB_tk h _) _) _
  · exact FB_tk h _
theorem FB_bkT {s : RS} (h : FB s) (n d : Int) : FB (bkT n d s) := by
  unfold bkT
  repeat' split
  · exact FB_tk (FB_tk h _) _
  · exact FB_tn (FB_tk h _) _ _
  · exact FB_sl (FB_rsC (FB_tn (FB_rsA (FB_tk h _)) _ _)) _
  · exact FB_tk h _
theorem FB_bkS {s : RS} (h : FB s) (n d : Int) : FB (bkS n d s) := by
  unfold bkS
  split
  · exact FB_bkT h n d
  · have := bsE_range (bkB n d s).kd (bkB n d s).vl (bkB n d s).sh (bkB n d s).ix (bkB n d s).lg (bkB n d s).gn (bkB n d s).pt (bkB n d s).rc (bkB n d s).da n d
    exact FB_gv (FB_bkT h n d) this.1 this.2
/-- A block is the same as itself. -/
theorem rSame_spec (kd vl sh : Int) (ix : List Int) (lg gn pt : Int) (rc da : List Int) (h : Heap) (h1 : ix.length ≤ 9223372036854775807) (h2 : rc.length ≤ 9223372036854775807) (h3 : da.length ≤ 9223372036854775807) :
    Does PP 12 [.agg [I kd, I vl, I sh, LI ix, I lg, I gn, I pt, LI rc, LI da], .agg [I kd, I vl, I sh, LI ix, I lg, I gn, I pt, LI rc, LI da]] h (Is (.bool true) h) := by
  have s1 := fun h => same_spec ix ix h h1 h1
  have s2 := fun h => same_spec rc rc h h2 h2
  have s3 := fun h => same_spec da da h h3 h3
  rw [decide_eq_true rfl] at s1 s2 s3
  refine pure0 ?_ rfl rfl h
  refine doesF P_ok Tryz.f12 (by kernel_rfl) (by kernel_rfl) ?_
  intro i2 c2 u1 cv mx mn ad sbt bn bq ba lnI gtI apI sbI stI rpI lnG gtG apG sbG stG rpG fi fb fs fl fg fc sln sgt sap ssb sc b2s s2b nd call calld callv callvd loop rfun fin hk
  (conv => cbv)
  repeat' (first
    | assumption
    | ((first | refine hk.callA (s1 _) ?_ | refine hk.calldA s1 ?_ | refine hk.callA (s2 _) ?_ | refine hk.calldA s2 ?_ | refine hk.callA (s3 _) ?_ | refine hk.calldA s3 ?_ | refine stp ?_) <;> (conv => cbv))
    | (refine stpB (fun _ => ?_) (fun _ => ?_) <;> (conv => cbv))
    | exact stpF
    | fail)
  all_goals exact hk.fin0 rfl rfl (Wk.refl _ _)
/-- What may not be asked, by the document. -/
theorem rbtake_no (all : Int) (s : RS) (n d : Int) (h : Heap) (hn : n ≤ 64) (hr : ¬ (1 ≤ n ∧ n ≤ 1024 ∧ 8 ≤ d ∧ d ≤ 26)) :
    Does PP 9 [rr all s, I n, I d] h (Is (.tup [rr all (gvS 1 s), zBlk.v, LI []]) h) := by
  have hd := fun h => rdepth_spec d h
  have g1 := fun h => rgive_rr all s 1 h
  unfold rr at *
  obtain ⟨A, hA⟩ : ∃ P, P = strB s.1 := ⟨_, rfl⟩
  obtain ⟨A1, hA1⟩ : ∃ P, P = strB (gvS 1 s).1 := ⟨_, rfl⟩
  obtain ⟨F, hF⟩ : ∃ P : Int, P = s.2 := ⟨_, rfl⟩
  obtain ⟨F1, hF1⟩ : ∃ P : Int, P = (gvS 1 s).2 := ⟨_, rfl⟩
  simp only [← hA, ← hA1, ← hF, ← hF1] at *
  clear hA hA1 hF hF1
  obtain ⟨e, he0⟩ : ∃ c, c = (decide (8 ≤ d) && decide (d ≤ 26)) := ⟨_, rfl⟩
  have hce : n < 1 ∨ e = false := by
    cases he1 : e with
    | false => exact .inr rfl
    | true =>
      left
      rw [he1] at he0
      simp only [Bool.true_eq, Bool.and_eq_true, decide_eq_true_eq] at he0
      omega
  simp only [← he0] at hd
  clear he0 hr
  refine pure0 ?_ rfl rfl h
  refine doesFs (fun f => f == 9999 || f == 19006) P_ok Tryz.f9 (by kernel_rfl) (by kernel_rfl) ?_
  intro i2 c2 u1 cv mx mn ad sbt bn bq ba lnI gtI apI sbI stI rpI lnG gtG apG sbG stG rpG fi fb fs fl fg fc sln sgt sap ssb sc b2s s2b nd call calld callv callvd loop rfun fin hk
  by_cases hn1 : n < 1
  · (conv => cbv)
    repeat' (first
      | assumption
      | ((first | refine hk.callA (hd _) ?_ | refine hk.calldA hd ?_ | refine hk.callA (g1 _) ?_ | refine hk.calldA g1 ?_ | refine stp ?_) <;> (conv => cbv))
      | (refine stpB (fun _ => ?_) (fun _ => ?_) <;> (conv => cbv))
      | exact stpF
      | fail)
    all_goals exact hk.fin0 rfl rfl (Wk.tup ⟨.refl _ _, Wk.agg ⟨.refl _ _, .refl _ _, .refl _ _, Wk.nilL _ _, .refl _ _, .refl _ _, .refl _ _, Wk.nilL _ _, Wk.nilL _ _, trivial⟩, Wk.nilL _ _, trivial⟩)
  · have he : e = false := by rcases hce with h | h; exact absurd h hn1; exact h
    subst he
    (conv => cbv)
    repeat' (first
      | assumption
      | ((first | refine hk.callA (hd _) ?_ | refine hk.calldA hd ?_ | refine hk.callA (g1 _) ?_ | refine hk.calldA g1 ?_ | refine stp ?_) <;> (conv => cbv))
      | (refine stpB (fun _ => ?_) (fun _ => ?_) <;> (conv => cbv))
      | exact stpF
      | fail)
    all_goals exact hk.fin0 rfl rfl (Wk.tup ⟨.refl _ _, Wk.agg ⟨.refl _ _, .refl _ _, .refl _ _, Wk.nilL _ _, .refl _ _, .refl _ _, .refl _ _, Wk.nilL _ _, Wk.nilL _ _, trivial⟩, Wk.nilL _ _, trivial⟩)
end Go.Proofs.YtfjdmgnhklpiiaaGreat
set_option maxHeartbeats 4000000
set_option maxRecDepth 20000
set_option linter.unusedSimpArgs false
set_option linter.unusedVariables false
open Go Go.AL
namespace Go.Proofs.YtfjdmgnhklpiiaaGreat
theorem takes_out (bs : List Int) (n d : Int) (hl : bs.length ≤ 9223372036854775807) (ho : 200 < bs.length ∨ 64 < n) : Does PP 3 [L8 bs, I n, I d] [] (Is (.bool true) []) := by
  have haw := awake10
  obtain ⟨N, hN⟩ : ∃ N : Int, N = (bs.length : Nat) := ⟨_, rfl⟩
  refine doesF P_ok Tryz.f3 (by kernel_rfl) (by kernel_rfl) ?_
  intro i2 c2 u1 cv mx mn ad sbt bn bq ba lnI gtI apI sbI stI rpI lnG gtG apG sbG stG rpG fi fb fs fl fg fc sln sgt sap ssb sc b2s s2b nd call calld callv callvd loop rfun fin hk
  have hln : lnI bs = N := by rw [hk.lnI_eq]; omega
  by_cases h1 : N > 200
  · (conv => cbv)
    repeat' (first
      | assumption
      | ((first | rw [hln] | refine hk.callA (haw _) ?_ | refine hk.calldA haw ?_ | refine stp ?_) <;> (conv => cbv))
      | (refine stpB (fun _ => ?_) (fun _ => ?_) <;> (conv => cbv))
      | exact stpF
      | fail)
    all_goals exact hk.fin0 rfl rfl (Wk.refl _ _)
  · have h2 : 64 < n := by omega
    (conv => cbv)
    repeat' (first
      | assumption
      | ((first | rw [hln] | refine hk.callA (haw _) ?_ | refine hk.calldA haw ?_ | refine stp ?_) <;> (conv => cbv))
      | (refine stpB (fun _ => ?_) (fun _ => ?_) <;> (conv => cbv))
      | exact stpF
      | fail)
    all_goals exact hk.fin0 rfl rfl (Wk.refl _ _)
theorem takes_core (bs : List Int) (n d : Int) (hB : Bytes8 bs) (hl : bs.length ≤ 200) (hn : n ≤ 64) (S : RS) (kd vl sh : Int) (ix : List Int) (lg gn pt : Int) (rc da L : List Int) (B : List Bool)
    (hS : FB S) (hv : RV bs S) (ok1 : ix.length ≤ 9223372036854775807) (ok2 : rc.length ≤ 9223372036854775807) (ok3 : da.length ≤ 9223372036854775807) (ok4 : L.length ≤ 9223372036854775807)
    (ht : Does PP 8 [.ptr 0 0, I n, I d] (rh bs (unpack bs, 0)) (Is (.tup [.agg [I kd, I vl, I sh, LI ix, I lg, I gn, I pt, LI rc, LI da], LI L]) (rh bs S)))
    (hr : ∀ h, Does PP 9 [rr (8 * (bs.length : Nat)) (unpack bs, 0), I n, I d] h (Is (.tup [rr (8 * (bs.length : Nat)) S, .agg [I kd, I vl, I sh, LI ix, I lg, I gn, I pt, LI rc, LI da], LI L]) h))
    (hp : S.2 = 0 → (∀ h, Does PP 14 [.agg [I kd, I vl, I sh, LI ix, I lg, I gn, I pt, LI rc, LI da], I d] h (Is (.str (strB B)) h)) ∧ unpack bs = B ++ S.1) :
    Does PP 3 [L8 bs, I n, I d] [] (Is (.bool true) []) := by
  have haw := awake10
  have hop := open_spec bs
  have hro := fun h => refOpen_spec bs h hB (by omega)
  have hbits := fun h => refBits_spec bs h hB (by omega)
  have hsm := fun h => rSame_spec kd vl sh ix lg gn pt rc da h ok1 ok2 ok3
  have hsl := fun h => same_spec L L h ok4 ok4
  rw [decide_eq_true rfl] at hsl
  have hfl := fail_rh bs S
  have hlf := left_rh bs (by omega) S hv
  have e0 : rh bs (unpack bs, 0) = rd bs 0 0 := by
    unfold rh rpos
    rw [unpack_len]
    simp
  rw [e0] at ht
  unfold rh at *
  unfold rr at *
  obtain ⟨N, hN⟩ : ∃ N : Int, N = (bs.length : Nat) := ⟨_, rfl⟩
  obtain ⟨N8, hN8⟩ : ∃ N8 : Int, N8 = 8 * (bs.length : Nat) := ⟨_, rfl⟩
  obtain ⟨A, hA⟩ : ∃ A, A = rpos bs S := ⟨_, rfl⟩
  obtain ⟨F, hF⟩ : ∃ A, A = S.2 := ⟨_, rfl⟩
  obtain ⟨K, hK⟩ : ∃ K : Int, K = (S.1.length : Nat) := ⟨_, rfl⟩
  obtain ⟨SS, hSS⟩ : ∃ A, A = strB S.1 := ⟨_, rfl⟩
  obtain ⟨UU, hUU⟩ : ∃ A, A = strB (unpack bs) := ⟨_, rfl⟩
  obtain ⟨BB, hBB⟩ : ∃ A, A = strB B := ⟨_, rfl⟩
  have hSSl : (SS.length : Int) = K := by rw [hSS, strB_len, hK]
  have hUl : UU.length = 8 * bs.length := by rw [hUU, strB_len, unpack_len]
  have hN8n : N8.toNat = 8 * bs.length ∧ 0 ≤ N8 := by omega
  have hp2 : F = 0 → (∀ h, Does PP 14 [.agg [I kd, I vl, I sh, LI ix, I lg, I gn, I pt, LI rc, LI da], I d] h (Is (.str BB) h)) ∧ UU.take BB.length = BB ∧ (BB.length : Int) = N8 - K ∧ BB.length ≤ UU.length := fun h => by
    obtain ⟨a, b⟩ := hp (by rw [← hF]; exact h)
    refine ⟨by rw [hBB]; exact a, ?_, ?_, ?_⟩
    · rw [hUU, hBB, b, strB_append, List.take_left]
    · have : (unpack bs).length = B.length + S.1.length := by rw [b, List.length_append]
      rw [unpack_len] at this
      rw [hBB, strB_len, hN8, hK]; omega
    · have : (unpack bs).length = B.length + S.1.length := by rw [b, List.length_append]
      rw [hUU, hBB, strB_len, strB_len]; omega
  clear hp
  have hF2 : 0 ≤ F ∧ F ≤ 100 := by rw [hF]; exact hS
  simp only [← hA, ← hF, ← hK, ← hSS, ← hUU, ← hN8] at *
  clear hA hF hSS hUU hBB e0 hS hv hK
  have qt := fun G => rd_frameG G ht rfl rfl rfl
  have qf := fun G => rd_frameG G hfl rfl rfl rfl
  have ql := fun G => rd_frameG G hlf rfl rfl rfl
  unfold rd at hop
  clear ht hfl hlf
  refine doesF P_ok Tryz.f3 (by kernel_rfl) (by kernel_rfl) ?_
  intro i2 c2 u1 cv mx mn ad sbt bn bq ba lnI gtI apI sbI stI rpI lnG gtG apG sbG stG rpG fi fb fs fl fg fc sln sgt sap ssb sc b2s s2b nd call calld callv callvd loop rfun fin hk
  have hln : lnI bs = N := by rw [hk.lnI_eq]; omega
  have hcv : cv .i64 F = F := by rw [hk.cv_eq]; exact wrap64 (by omega) (by omega)
  have hm8 : i2 .mul .i64 8 N = N8 := by rw [hk.mul64 _ _ (by omega) (by omega)]; omega
  have hsl2 : sln SS = K := by rw [hk.sln_eq]; exact hSSl
  by_cases hF0 : F = 0
  · obtain ⟨hput, c1, c3, c4⟩ := hp2 hF0
    have t1 : sc .eql BB BB = true := by rw [hk.sc_eq]; simp [rSc]
    obtain ⟨M, hM⟩ : ∃ M : Int, M = (BB.length : Nat) := ⟨_, rfl⟩
    have t2 : sln BB = M := by rw [hk.sln_eq, hM]
    have t3 : ssb UU 0 M = BB := by
      rw [hk.ssb_eq, Int.toNat_zero, List.drop_zero, Int.sub_zero, hM, Int.toNat_natCast]
      exact c1
    have t4 : i2 .sub .i64 N8 K = M := by rw [hk.sub64 _ _ (by omega) (by omega)]; omega
    have t5 : 0 ≤ M ∧ M ≤ sln UU := by rw [hk.sln_eq]; omega
    subst hF0
    clear hp2 c1 c3 c4
    (conv => cbv)
    repeat' (first
      | assumption
      | ((first | rw [hln] | refine hk.callA (haw _) ?_ | refine hk.calldA haw ?_ | refine hk.callA hop ?_ | refine hk.callA (qt _) ?_ | refine hk.callA (hro _) ?_ | refine hk.calldA hro ?_ | refine hk.callA (hr _) ?_ | refine hk.calldA hr ?_ | refine hk.callA (qf _) ?_ | refine hk.calld1 (fun x => qf (_ ++ x)) ?_ | rw [hcv] | refine hk.callA (hsm _) ?_ | refine hk.calldA hsm ?_ | refine hk.callA (hsl _) ?_ | refine hk.calldA hsl ?_ | refine hk.callA (hput _) ?_ | refine hk.calldA hput ?_ | refine hk.callA (ql _) ?_ | refine hk.calld1 (fun x => ql (_ ++ x)) ?_ | rw [hsl2] | refine hk.callA (hbits _) ?_ | refine hk.calldA hbits ?_ | rw [t1] | rw [t2] | rw [t3] | rw [t4] | rw [hm8] | refine hk.needI (by first | (simp only [rNd, hk.ad_eq, hk.sb_eq]; omega) | (simp [rNd, hk.ad_eq, hk.sb_eq]; omega)) ?_ | refine stp ?_) <;> (conv => cbv))
      | (refine stpB (fun _ => ?_) (fun _ => ?_) <;> (conv => cbv))
      | exact stpF
      | fail)
    all_goals exact hk.fin0 rfl rfl (Wk.of_eq (congrArg _ (by rw [hk.c2_eql]; simp)))
  · clear hp2
    (conv => cbv)
    repeat' (first
      | assumption
      | ((first | rw [hln] | refine hk.callA (haw _) ?_ | refine hk.calldA haw ?_ | refine hk.callA hop ?_ | refine hk.callA (qt _) ?_ | refine hk.callA (hro _) ?_ | refine hk.calldA hro ?_ | refine hk.callA (hr _) ?_ | refine hk.calldA hr ?_ | refine hk.callA (qf _) ?_ | refine hk.calld1 (fun x => qf (_ ++ x)) ?_ | rw [hcv] | refine hk.callA (hsm _) ?_ | refine hk.calldA hsm ?_ | refine hk.callA (hsl _) ?_ | refine hk.calldA hsl ?_ | refine stp ?_) <;> (conv => cbv))
      | (refine stpB (fun _ => ?_) (fun _ => ?_) <;> (conv => cbv))
      | exact stpF
      | fail)
    all_goals exact hk.fin0 rfl rfl (Wk.refl _ _)
theorem bsL_len (kd vl sh : Int) (ix : List Int) (lg gn pt : Int) (rc da : List Int) (n d : Int) : (bsL kd vl sh ix lg gn pt rc da n d).length ≤ 1024 := by
  unfold bsL
  by_cases hE : bsE kd vl sh ix lg gn pt rc da n d = 0
  · rw [if_pos hE]
    obtain ⟨⟨n1, n2, d1, d2⟩, hf, hlk⟩ := bsE_ok hE
    unfold outL
    by_cases k2 : kd = 2
    · subst k2
      rw [if_pos rfl]
      obtain ⟨f1, f2, f3, f4, f5, f6, f7⟩ := form_two hf d2 n2
      obtain ⟨ho1, ho2⟩ := onL_small lg gn da
      have := smL_len ix (pw d - 1) (onL lg gn da)
      rw [nmL]; split <;> first | (simp; done) | (split <;> simp <;> omega) | (simp; omega)
    · rw [if_neg k2]
      by_cases k3 : kd = 3
      · rw [if_pos k3]
        have := (form_plain hf k2).2 k3
        omega
      · rw [if_neg k3, List.length_replicate]
        omega
  · rw [if_neg hE]; simp
theorem rput_any (x : BlkIn) (n d : Int) (hx : x.e n d = 0) (h2 : x.rc.length ≤ 9223372036854775807) (h : Heap) : Does PP 14 [x.v, I d] h (Is (.str (strB (blkBits x d))) h) := by
  obtain ⟨kd, vl, sh, ix, lg, gn, pt, rc, da⟩ := x
  have hx1 : bsE kd vl sh ix lg gn pt rc da n d = 0 := hx
  obtain ⟨⟨n1, n2, d1, d2⟩, hf, hlk⟩ := bsE_ok hx1
  by_cases k2 : kd = 2
  · subst k2
    have e : blkBits ⟨2, vl, sh, ix, lg, gn, pt, rc, da⟩ d = nbits sh ix lg gn pt rc da := rfl
    rw [e]
    exact rputT_spec vl sh ix lg gn pt rc da n d h hf d2 n1 n2 h2
  · have e : blkBits ⟨kd, vl, sh, ix, lg, gn, pt, rc, da⟩ d = pbits kd vl da d := if_neg k2
    rw [e]
    obtain ⟨hkd, hdn⟩ := form_plain hf k2
    rw [List.any_eq_false] at hlk
    refine rput_plain kd vl sh ix lg gn pt rc da d h hkd d1 d2 (fun h1 => ?_) (fun h3 i hi => ?_) ?_
    · subst h1
      exact lacks_no (d := d) (n := vl) (by
        have := hlk vl (by
          show vl ∈ List.replicate n.toNat vl
          exact List.mem_replicate.2 ⟨by omega, rfl⟩)
        simpa using this)
    · subst h3
      exact lacks_no (by
        have := hlk (da.getD i 0) (mem_getD.2 ⟨i, hi, rfl⟩)
        simpa using this)
    · rcases hkd with h | h | h
      · subst h
        unfold formE at hf
        rw [if_pos rfl] at hf
        split at hf
        · rename_i hh; omega
        · exact absurd hf (by decide)
      · subst h
        unfold formE at hf
        rw [if_neg (by decide), if_pos rfl] at hf
        split at hf
        · rename_i hh; omega
        · exact absurd hf (by decide)
      · have := hdn h; omega
theorem blockTakes_law (bs : List Int) (hl : bs.length ≤ 9223372036854775807) (hB : Bytes8 bs) (n d : Int) : Does PP 3 [L8 bs, .int .i64 n, .int .i64 d] [] (Is (.bool true) []) := by
  by_cases ho : 200 < bs.length ∨ 64 < n
  · exact takes_out bs n d hl ho
  have hl2 : bs.length ≤ 200 := by omega
  have hn2 : n ≤ 64 := by omega
  have hFB0 : FB ((unpack bs, 0) : RS) := ⟨Int.le_refl 0, show (0 : Int) ≤ 100 by decide⟩
  by_cases hr : 1 ≤ n ∧ n ≤ 1024 ∧ 8 ≤ d ∧ d ≤ 26
  · obtain ⟨n1, n2, d1, d2⟩ := hr
    have ht := btake_rh bs hB (by omega) (unpack bs, 0) (RV_open bs) n d n1 hn2 d1 d2
    have hrt := fun h => rbtake_rr (8 * (bs.length : Nat)) (unpack bs, 0) h (by simp only [unpack_len]; omega) n d n1 hn2 d1 d2
    have hFB := FB_bkS hFB0 n d
    have hRV := RV_bkS (RV_open bs) n d
    have hget := bk_get n d (unpack bs, 0) n1 (by omega) d1 d2
    have hX : (bkX n d (unpack bs, 0)).ix.length ≤ 9223372036854775807 ∧ (bkX n d (unpack bs, 0)).rc.length ≤ 9223372036854775807 ∧ (bkX n d (unpack bs, 0)).da.length ≤ 9223372036854775807 := by
      unfold bkX
      split
      · exact bkB_ok n d _ (by omega) (by omega)
      · exact ⟨by decide, by decide, by decide⟩
    have hL : (bkL n d (unpack bs, 0)).length ≤ 9223372036854775807 := by
      unfold bkL
      split
      · exact Nat.le_trans (bsL_len _ _ _ _ _ _ _ _ _ _ _) (by decide)
      · decide
    have hput : (bkS n d (unpack bs, 0)).2 = 0 → (∀ h, Does PP 14 [(bkX n d (unpack bs, 0)).v, I d] h (Is (.str (strB (blkBits (bkX n d (unpack bs, 0)) d))) h)) ∧ unpack bs = blkBits (bkX n d (unpack bs, 0)) d ++ (bkS n d (unpack bs, 0)).1 := fun h => by
      obtain ⟨_, a, b, _⟩ := hget h
      exact ⟨fun h => rput_any _ n d b hX.2.1 h, a⟩
    obtain ⟨S, hS⟩ : ∃ S, S = bkS n d (unpack bs, 0) := ⟨_, rfl⟩
    obtain ⟨X, hXd⟩ : ∃ S, S = bkX n d (unpack bs, 0) := ⟨_, rfl⟩
    obtain ⟨L, hLd⟩ : ∃ S, S = bkL n d (unpack bs, 0) := ⟨_, rfl⟩
    simp only [← hS, ← hXd, ← hLd] at ht hrt hFB hRV hX hL hput
    obtain ⟨kd, vl, sh, ix, lg, gn, pt, rc, da⟩ := X
    exact takes_core bs n d hB hl2 hn2 S kd vl sh ix lg gn pt rc da L _ hFB hRV hX.1 hX.2.1 hX.2.2 hL ht hrt hput
  · have ht := btake_no bs (unpack bs, 0) n d hr
    have hrt := fun h => rbtake_no (8 * (bs.length : Nat)) (unpack bs, 0) n d h hn2 hr
    exact takes_core bs n d hB hl2 hn2 (gvS 1 (unpack bs, 0)) 0 0 0 [] 0 0 0 [] [] [] [] (FB_gv hFB0 (by decide) (by decide)) (RV_gv (RV_open bs) 1) (by decide) (by decide) (by decide) (by decide) ht hrt (fun h => by
      rw [gvS_snd rfl] at h
      exact absurd h (by decide))
end Go.Proofs.YtfjdmgnhklpiiaaGreat
