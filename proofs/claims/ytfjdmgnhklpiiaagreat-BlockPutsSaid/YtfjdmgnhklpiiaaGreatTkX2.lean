/-
  Contracts of functions of the program, proved over the abstract machine of the Al texts.
-/
import Derived.Test.YtfjdmgnhklpiiaaGreatTryTab
import Derived.Test.YtfjdmgnhklpiiaaGreatAl4
import Derived.Test.YtfjdmgnhklpiiaaGreatBaseX
import Derived.Test.YtfjdmgnhklpiiaaGreatPpX
import Derived.Test.YtfjdmgnhklpiiaaGreatTkX1
import Derived.Test.YtfjdmgnhklpiiaaGreatRkX
import Derived.Test.YtfjdmgnhklpiiaaGreatSlX
import Derived.Test.YtfjdmgnhklpiiaaGreatBsX1
import Derived.Test.YtfjdmgnhklpiiaaGreatBsX3
import Derived.Test.YtfjdmgnhklpiiaaGreatBsX4
set_option maxHeartbeats 4000000
set_option maxRecDepth 20000
set_option linter.unusedSimpArgs false
set_option linter.unusedVariables false
open Go Go.AL
namespace Go.Proofs.YtfjdmgnhklpiiaaGreat
theorem rtS_fail (k : Int) (s : RS) (h : s.2 ≠ 0) : rtS k s = s := by
  have hz : zrS 24 s = s := if_neg h
  have hz2 : zrW 24 s = 0 := if_neg h
  unfold rtS
  split
  · unfold gvS; rw [if_neg h]
  · rw [hz, hz2, if_pos (by decide), tkS_fail k s h]
def slI (m : Nat) : Nat → RS → List Int → List Int → RS × List Int × List Int
  | 0, s, ks, l => (s, ks, l)
  | i + 1, s, ks, l => if s.2 ≠ 0 then (s, ks, l) else
    slI m i (itS (rtS (tkW 5 s)) (rtW (tkW 5 s)) m (tkS 5 s) l).1 (ks ++ [tkW 5 s]) (itS (rtS (tkW 5 s)) (rtW (tkW 5 s)) m (tkS 5 s) l).2
theorem slI_fail (m : Nat) (i : Nat) (s : RS) (ks l : List Int) (h : s.2 ≠ 0) : slI m i s ks l = (s, ks, l) := by
  cases i with
  | zero => rfl
  | succ i => rw [slI, if_pos h]
theorem slI_RV {bs : List Int} (m : Nat) : ∀ (i : Nat) (s : RS) (ks l : List Int), RV bs s → RV bs (slI m i s ks l).1
  | 0, s, ks, l, h => h
  | i + 1, s, ks, l, h => by
    rw [slI]
    split
    · exact h
    · exact slI_RV m i _ _ _ (itS_RV (fun s h => RV_rt h _) _ _ _ _ (RV_tk h 5))
theorem sl_plan (bs : List Int) (hB : Bytes8 bs) (hl : bs.length < 137438953472) (m cnt : Int) (hm : 1 ≤ m) (hc : 0 ≤ cnt) (s0 : RS) (hs0 : RV bs s0) :
    ∃ Inv : Int → Int → Int → List Int → List Int → Prop, Inv 0 (rpos bs s0) s0.2 [] [] ∧ ∀ i a f ks l, Inv i a f ks l → 0 ≤ i ∧ i ≤ cnt ∧ ks.length = i.toNat ∧ l.length = i.toNat * m.toNat ∧
      (i < cnt → ∃ k a1 f1 : Int, 0 ≤ k ∧ k < 32 ∧ Does PP 32 [.ptr 0 0, I 5] (rd bs a f) (Is (.int .u64 k) (rd bs a1 f1)) ∧
        ∃ Inv1 : Int → Int → Int → List Int → Prop, Inv1 0 a1 f1 l ∧ ∀ j a f l', Inv1 j a f l' → 0 ≤ j ∧ j ≤ m ∧ l'.length = l.length + j.toNat ∧
          (j < m → ∃ v a2 f2 : Int, Does PP 111 [.ptr 0 0, I k] (rd bs a f) (Is (I v) (rd bs a2 f2)) ∧
            ((f2 ≠ 0 ∧ a2 = rpos bs (slI m.toNat cnt.toNat s0 [] []).1 ∧ f2 = (slI m.toNat cnt.toNat s0 [] []).1.2) ∨ (f2 = 0 ∧ Inv1 (j + 1) a2 f2 (l' ++ [v])))) ∧
          (j = m → f = 0 ∧ Inv (i + 1) a f (ks ++ [k]) l')) ∧
      (i = cnt → (f = 0 ∨ i = 0) ∧ a = rpos bs (slI m.toNat cnt.toNat s0 [] []).1 ∧ f = (slI m.toNat cnt.toNat s0 [] []).1.2 ∧ ks = (slI m.toNat cnt.toNat s0 [] []).2.1 ∧ l = (slI m.toNat cnt.toNat s0 [] []).2.2) := by
  obtain ⟨R, hR⟩ : ∃ R, R = slI m.toNat cnt.toNat s0 [] [] := ⟨_, rfl⟩
  rw [← hR]
  refine ⟨fun i a f ks l => ∃ s, RV bs s ∧ a = rpos bs s ∧ f = s.2 ∧ 0 ≤ i ∧ i ≤ cnt ∧ ks.length = i.toNat ∧ l.length = i.toNat * m.toNat ∧ (s.2 = 0 ∨ i = 0) ∧ slI m.toNat (cnt - i).toNat s ks l = R,
    ⟨s0, hs0, rfl, rfl, Int.le_refl _, hc, rfl, by simp, .inr rfl, by rw [Int.sub_zero, hR]⟩, ?_⟩
  intro i a f ks l ⟨s, hv, ha, hf, i0, i1, hkl, hll, hfl, hsl⟩
  refine ⟨i0, i1, hkl, hll, fun hin => ?_, fun hin => ?_⟩
  · rw [show (cnt - i).toNat = (cnt - (i + 1)).toNat + 1 by omega, slI] at hsl
    have hk0 := tkW_range 5 s
    have hk1 := tkW_lt 5 s (by decide)
    have ht := take_rh bs hB hl s hv 5
    obtain ⟨k, hk⟩ : ∃ k, k = tkW 5 s := ⟨_, rfl⟩
    rw [← hk] at hsl hk0 hk1 ht
    have h32 : (2 : Int) ^ (Int.toNat 5) = 32 := by decide
    have hv1 := RV_tk hv 5
    have hin1 := RV_tk hv 5
    obtain ⟨Inv1, g0, g1⟩ := it_plan bs (rtS k) (rtW k) (fun s h => RV_rt h k) (fun s h => rtS_fail k s h) m (by omega) (tkS 5 s) hv1 l
    have hvR := itS_RV (bs := bs) (f := rtS k) (fun s h => RV_rt h k) (rtW k) m.toNat (tkS 5 s) l hv1
    have hif := itS_fail (rtS k) (rtW k) m.toNat (tkS 5 s) l
    obtain ⟨Ri, hRi⟩ : ∃ R, R = itS (rtS k) (rtW k) m.toNat (tkS 5 s) l := ⟨_, rfl⟩
    rw [← hRi] at hsl g1 hvR hif
    refine ⟨k, rpos bs (tkS 5 s), (tkS 5 s).2, hk0.1, by omega, by rw [ha, hf]; exact ht, Inv1, g0, fun j a f l' h => ?_⟩
    obtain ⟨j0, j1, jl, jf, c1, c2⟩ := g1 j a f l' h
    refine ⟨j0, j1, jl, fun hjm => ?_, fun hjm => ?_⟩
    · obtain ⟨t, tv, ta, tf, tc⟩ := c1 hjm
      refine ⟨rtW k t, rpos bs (rtS k t), (rtS k t).2, by rw [ta, tf]; exact ricetake_rh bs hB hl t tv k, ?_⟩
      rcases tc with ⟨t1, t2⟩ | ⟨t1, t2⟩
      · left
        have hR1 : Ri.1 = R.1 := by
          by_cases h2 : s.2 ≠ 0
          · rw [if_pos h2] at hsl
            have e := tkS_fail 5 s h2
            rw [e] at hif
            rw [hif h2, ← hsl]
          · rw [if_neg h2, slI_fail _ _ _ _ _ (by rw [← t2]; exact t1)] at hsl
            rw [← hsl]
        exact ⟨t1, by rw [t2, hR1], by rw [t2, hR1]⟩
      · exact .inr ⟨t1, t2⟩
    · obtain ⟨d1, d2, d3⟩ := c2 hjm
      clear c1 c2 g1 h
      have hf0 : f = 0 := by
        rcases jf with h | h
        · exact h
        · rw [h] at jl; omega
      refine ⟨hf0, Ri.1, hvR, d1, d2, by omega, by omega, ?_, ?_, .inl (by rw [← d2]; exact hf0), ?_⟩
      · rw [List.length_append, hkl]; simp only [List.length_cons, List.length_nil]; omega
      · rw [jl, hll, show (i + 1).toNat = i.toNat + 1 by omega, Nat.succ_mul, hjm]
      · have h2 : ¬ s.2 ≠ 0 := fun h2 => by
          have e := tkS_fail 5 s h2
          rw [e] at hif
          rw [hif h2] at d2
          exact h2 (by rw [← d2]; exact hf0)
        rw [if_neg h2] at hsl
        rw [d3]
        exact hsl
  · rw [show (cnt - i).toNat = 0 by omega, slI] at hsl
    rw [← hsl]
    exact ⟨by rw [hf]; exact hfl, ha, hf, rfl, rfl⟩
def slS (n : Int) (s : RS) : RS := if n % 2 ^ (tkW 2 s).toNat ≠ 0 then gvS 2 (tkS 2 s) else (slI (n / 2 ^ (tkW 2 s).toNat).toNat (2 ^ (tkW 2 s).toNat) (tkS 2 s) [] []).1
def slK (n : Int) (s : RS) : List Int := (slI (n / 2 ^ (tkW 2 s).toNat).toNat (2 ^ (tkW 2 s).toNat) (tkS 2 s) [] []).2.1
def slL (n : Int) (s : RS) : List Int := (slI (n / 2 ^ (tkW 2 s).toNat).toNat (2 ^ (tkW 2 s).toNat) (tkS 2 s) [] []).2.2
theorem RV_sl {bs : List Int} {s : RS} (h : RV bs s) (n : Int) : RV bs (slS n s) := by
  unfold slS
  split
  · exact RV_gv (RV_tk h _) _
  · exact slI_RV _ _ _ _ _ (RV_tk h _)
end Go.Proofs.YtfjdmgnhklpiiaaGreat
set_option maxHeartbeats 4000000
set_option maxRecDepth 20000
set_option linter.unusedSimpArgs false
set_option linter.unusedVariables false
open Go Go.AL
namespace Go.Proofs.YtfjdmgnhklpiiaaGreat
theorem slidetake_rh (bs : List Int) (hB : Bytes8 bs) (hl : bs.length < 137438953472) (s : RS) (hs : RV bs s) (n : Int) (hn1 : 1 ≤ n) (hn2 : n ≤ 1024) :
    Does PP 80 [.ptr 0 0, I n] (rh bs s) (Is (.tup [LI (if (slS n s).2 = 0 then slL n s else []), .agg [I (if (slS n s).2 = 0 then tkW 2 s else 0), LI (if (slS n s).2 = 0 then slK n s else [])]]) (rh bs (slS n s))) := by
  have hw0 := fun h => whole_spec n 0 h
  rw [show whole n 0 = true from whole_iff.2 ⟨hn1, hn2, by decide, by decide, by simp⟩] at hw0
  have hwV := fun h => whole_spec n (tkW 2 s) h
  have ht := take_rh bs hB hl s hs 2
  have hv1 := RV_tk hs 2
  obtain ⟨v0, _⟩ := tkW_range 2 s
  have v1 := tkW_lt 2 s (by decide)
  have h4 : (2 : Int) ^ (Int.toNat 2) = 4 := by decide
  rw [h4] at v1
  have hgv := give_rh bs (tkS 2 s) 2
  by_cases hdv : n % 2 ^ (tkW 2 s).toNat ≠ 0
  · have hS : slS n s = gvS 2 (tkS 2 s) := if_pos hdv
    rw [show whole n (tkW 2 s) = false by
      rw [Bool.eq_false_iff]
      intro h
      have := (whole_iff.1 h).2.2.2.2
      rw [Int.tmod_eq_emod_of_nonneg (by omega)] at this
      exact hdv this] at hwV
    have hne : (slS n s).2 ≠ 0 := by
      rw [hS]; unfold gvS; simp only; split <;> omega
    rw [if_neg hne, if_neg hne, if_neg hne, hS]
    unfold rh rd at *
    obtain ⟨V, hV⟩ : ∃ V, V = tkW 2 s := ⟨_, rfl⟩
    obtain ⟨a0, ha0⟩ : ∃ V, V = rpos bs s := ⟨_, rfl⟩
    obtain ⟨f0, hf0⟩ : ∃ V, V = s.2 := ⟨_, rfl⟩
    obtain ⟨a1, ha1⟩ : ∃ V, V = rpos bs (tkS 2 s) := ⟨_, rfl⟩
    obtain ⟨f1, hf1⟩ : ∃ V, V = (tkS 2 s).2 := ⟨_, rfl⟩
    obtain ⟨a2, ha2⟩ : ∃ V, V = rpos bs (gvS 2 (tkS 2 s)) := ⟨_, rfl⟩
    obtain ⟨f2, hf2⟩ : ∃ V, V = (gvS 2 (tkS 2 s)).2 := ⟨_, rfl⟩
    simp only [← hV, ← ha0, ← hf0, ← ha1, ← hf1, ← ha2, ← hf2] at ht hgv hwV v0 v1 ⊢
    clear hV ha0 hf0 ha1 hf1 ha2 hf2 hdv hS hne hv1 hs hB
    have ht' : ∀ o, Does PP 32 [.ptr 0 0, I 2] [.box [.ls (.il .u8 bs) .any, .int .i64 a0, .int .i64 f0], o] (Is (.int .u64 V) [.box [.ls (.il .u8 bs) .any, .int .i64 a1, .int .i64 f1], o]) := fun o =>
      ht.renI [0] rfl (by decide) rfl ⟨rfl, trivial⟩ rfl rfl rfl rfl rfl rfl
    have hgv' : ∀ o o2, Does PP 31 [.ptr 0 0, I 2] [.box [.ls (.il .u8 bs) .any, .int .i64 a1, .int .i64 f1], o, o2] (Is (.tup []) [.box [.ls (.il .u8 bs) .any, .int .i64 a2, .int .i64 f2], o, o2]) := fun o o2 =>
      hgv.renI [0] rfl (by decide) rfl ⟨rfl, trivial⟩ rfl rfl rfl rfl rfl rfl
    refine wlk Tryz.f80 ?_
    unhygienic intros
    have hcv : cv .i64 V = V := by rw [hk.cv_eq]; exact wrap64 (by omega) (by omega)
    (conv => cbv)
    repeat' (first | assumption | ((first | refine hk.callA (hw0 _) ?_ | refine hk.callA (ht' _) ?_ | rw [hcv] | refine hk.callA (hwV _) ?_ | refine hk.callA (hgv' _ _) ?_ | refine stp ?_ | refine stpB (fun _ => ?_) (fun _ => ?_)) <;> (conv => cbv)) | exact stpF | fail)
    all_goals refine hk.finI (fin_lowN 1 (Nat.le_refl 1) ?_ rfl rfl ⟨rfl, rfl⟩)
    all_goals exact Wk.tup ⟨Wk.nilL _ _, Wk.agg ⟨Wk.refl _ _, Wk.nilL _ _, trivial⟩, trivial⟩
  · have hdv0 : n % 2 ^ (tkW 2 s).toNat = 0 := Decidable.not_not.1 hdv
    rw [show whole n (tkW 2 s) = true from whole_iff.2 ⟨hn1, hn2, v0, by omega, by rw [Int.tmod_eq_emod_of_nonneg (by omega)]; exact hdv0⟩] at hwV
    have hp8 : ∀ k : Nat, k ≤ 3 → (1 : Int) ≤ 2 ^ k ∧ (2 : Int) ^ k ≤ 8 := by decide
    obtain ⟨w1, w8⟩ := hp8 (tkW 2 s).toNat (by omega)
    have hm1 : 1 ≤ n / 2 ^ (tkW 2 s).toNat := by
      have := Int.emod_add_mul_ediv n (2 ^ (tkW 2 s).toNat)
      rw [hdv0] at this
      by_cases h : 1 ≤ n / 2 ^ (tkW 2 s).toNat
      · exact h
      · have hh : n / 2 ^ (tkW 2 s).toNat ≤ 0 := by omega
        have := Int.mul_nonpos_of_nonneg_of_nonpos (show (0 : Int) ≤ 2 ^ (tkW 2 s).toNat by omega) hh
        omega
    have hmn : n / 2 ^ (tkW 2 s).toNat ≤ n := Int.ediv_le_self _ (by omega)
    have hpn : ((2 ^ (tkW 2 s).toNat : Nat) : Int) = 2 ^ (tkW 2 s).toNat := by simp
    have eS : slS n s = (slI (n / 2 ^ (tkW 2 s).toNat).toNat (2 ^ (tkW 2 s).toNat) (tkS 2 s) [] []).1 := if_neg hdv
    have eK : slK n s = (slI (n / 2 ^ (tkW 2 s).toNat).toNat (2 ^ (tkW 2 s).toNat) (tkS 2 s) [] []).2.1 := rfl
    have eL : slL n s = (slI (n / 2 ^ (tkW 2 s).toNat).toNat (2 ^ (tkW 2 s).toNat) (tkS 2 s) [] []).2.2 := rfl
    obtain ⟨Inv, hI0, hI⟩ := sl_plan bs hB hl (n / 2 ^ (tkW 2 s).toNat) (2 ^ (tkW 2 s).toNat) hm1 (by omega) (tkS 2 s) hv1
    rw [show ((2 : Int) ^ (tkW 2 s).toNat).toNat = 2 ^ (tkW 2 s).toNat by omega, ← eS, ← eK, ← eL] at hI
    have hsh1 := shl_pow (tkW 2 s) v0 (by omega)
    have hsh2 := shr_pow n (tkW 2 s).toNat (by omega) (by omega)
    rw [show (((tkW 2 s).toNat : Nat) : Int) = tkW 2 s by omega] at hsh2
    have hfl := fun a f => fail_spec bs a f
    unfold rh rd at *
    obtain ⟨V, hV⟩ : ∃ V, V = tkW 2 s := ⟨_, rfl⟩
    obtain ⟨W, hW⟩ : ∃ W : Int, W = 2 ^ (tkW 2 s).toNat := ⟨_, rfl⟩
    obtain ⟨m, hm⟩ : ∃ W : Int, W = n / 2 ^ (tkW 2 s).toNat := ⟨_, rfl⟩
    obtain ⟨a0, ha0⟩ : ∃ V, V = rpos bs s := ⟨_, rfl⟩
    obtain ⟨f0, hf0⟩ : ∃ V, V = s.2 := ⟨_, rfl⟩
    obtain ⟨a1, ha1⟩ : ∃ V, V = rpos bs (tkS 2 s) := ⟨_, rfl⟩
    obtain ⟨f1, hf1⟩ : ∃ V, V = (tkS 2 s).2 := ⟨_, rfl⟩
    obtain ⟨A, hA⟩ : ∃ V, V = rpos bs (slS n s) := ⟨_, rfl⟩
    obtain ⟨F, hF⟩ : ∃ V, V = (slS n s).2 := ⟨_, rfl⟩
    obtain ⟨K, hK⟩ : ∃ V, V = slK n s := ⟨_, rfl⟩
    obtain ⟨L, hL⟩ : ∃ V, V = slL n s := ⟨_, rfl⟩
    rw [← hm] at hm1 hmn hsh2
    rw [← hW] at w1 w8 hsh1 
    simp only [← hm] at hI
    simp only [← hW] at hI
    rw [← hV] at v0 v1 hsh1 hsh2
    simp only [← hV, ← ha0, ← hf0, ← ha1, ← hf1, ← hA, ← hF, ← hK, ← hL] at ht hwV hI hI0 ⊢
    clear hV ha0 hf0 ha1 hf1 hA hF hK hL hm hW hdv hdv0 eS eK eL hpn hp8 hv1 hs hB hgv h4
    have ht' : ∀ o, Does PP 32 [.ptr 0 0, I 2] [.box [.ls (.il .u8 bs) .any, .int .i64 a0, .int .i64 f0], o] (Is (.int .u64 V) [.box [.ls (.il .u8 bs) .any, .int .i64 a1, .int .i64 f1], o]) := fun o =>
      ht.renI [0] rfl (by decide) rfl ⟨rfl, trivial⟩ rfl rfl rfl rfl rfl rfl
    have hfl : ∀ a f o1 o2 o3 o4 o5, Does PP 11 [.ptr 0 0] [.box [.ls (.il .u8 bs) .any, .int .i64 a, .int .i64 f], o1, o2, o3, o4, o5] (Is (I f) [.box [.ls (.il .u8 bs) .any, .int .i64 a, .int .i64 f], o1, o2, o3, o4, o5]) := fun a f o1 o2 o3 o4 o5 =>
      (hfl a f).renI [0] rfl (by decide) rfl ⟨rfl, trivial⟩ rfl rfl rfl rfl rfl rfl
    refine wlk Tryz.f80 ?_
    unhygienic intros
    have hcv : cv .i64 V = V := by rw [hk.cv_eq]; exact wrap64 (by omega) (by omega)
    have hsh1 : i2 .shl .i64 1 V = W := by rw [hk.i2_eq]; exact hsh1
    have hsh2 : i2 .shr .i64 n V = m := by rw [hk.i2_eq]; exact hsh2
    have hl1 : ∀ x, lnI [x] = 1 := fun x => hk.lnI_eq _
    (conv => cbv)
    repeat' (first | assumption | ((first | refine hk.callA (hw0 _) ?_ | refine hk.callA (ht' _) ?_ | rw [hcv] | refine hk.callA (hwV _) ?_ | rw [hsh1] | refine stp ?_ | refine stpB (fun _ => ?_) (fun _ => ?_)) <;> (conv => cbv)) | exact stpF | fail)
    refine hk.loopI (loop_rule (α := Nat × Int × Int × List Int × List Int × Int) (fun x => [(0, .ptr 0 0), (1, .int .i64 n), (5, .ptr 1 0), (6, .ptr 2 0), (7, .ls (.il .i64 x.2.2.2.2.1) (.tok 4 0)), (29, .int .i64 W), (30, .int .i64 x.2.2.2.2.2)])
      (fun x => [.box [.ls (.il .u8 bs) .any, .int .i64 x.2.1, .int .i64 x.2.2.1], .box [.int .i64 0, .ls .nl .nil], .box [.int .i64 V, .sl 3 x.1 0 x.2.2.2.2.2], .rw x.1 (.il .i64 x.2.2.2.1), .tok 0])
      (fun x => x.2.2.2.2.2 = x.1 ∧ Inv x.2.2.2.2.2 x.2.1 x.2.2.1 x.2.2.2.1 x.2.2.2.2.1) (fun x => (W - x.2.2.2.2.2).toNat) (0, a1, f1, [], [], 0) ⟨rfl, hI0⟩ ?_ ?_)
    · refine Gh.trans (Gh.ghost (GE.thawRow 2 1 [.int .i64 V, .ls .nl .nil] (.il .i64 []) rfl rfl rfl) (Nat.le_of_ble_eq_true rfl)) (Gh.trans (Gh.thaw 7 (.il .i64 []) rfl trivial rfl) (Gh.tm ?_))
      repeat' (first | exact Holds.nil _ _ | refine Holds.cons (Wk.refl _ _) ?_)
    intro ⟨G, a, f, ks, l, i⟩ ⟨hiG, hJ⟩ Q' hb hx hr
    simp only at hiG hJ
    obtain ⟨i0, i1, hkl, hll, c1, c2⟩ := hI i a f ks l hJ
    dsimp only
    have hbq : Nat.beq G G = true := Nat.beq_refl G
    conv at hbq => cbv
    by_cases hiW : i < W
    · obtain ⟨k, a2, f2, k0, k1, htk, Inv1, hJ1, hI1⟩ := c1 hiW
      have htk' : ∀ o1 o2 o3 o4, Does PP 32 [.ptr 0 0, I 5] [.box [.ls (.il .u8 bs) .any, .int .i64 a, .int .i64 f], o1, o2, o3, o4] (Is (.int .u64 k) [.box [.ls (.il .u8 bs) .any, .int .i64 a2, .int .i64 f2], o1, o2, o3, o4]) := fun o1 o2 o3 o4 =>
        htk.renI [0] rfl (by decide) rfl ⟨rfl, trivial⟩ rfl rfl rfl rfl rfl rfl
      have hck : cv .i64 k = k := by rw [hk.cv_eq]; exact wrap64 (by omega) (by omega)
      clear c1 c2
      obtain ⟨ks2, hks2⟩ : ∃ x, x = ks ++ [k] := ⟨_, rfl⟩
      have hap : apI ks [k] = ks2 := by rw [hks2]; exact hk.apI_eq _ _
      have hlk : lnI ks = i := by rw [hk.lnI_eq]; omega
      obtain ⟨i2, hi2⟩ : ∃ x, x = i + 1 := ⟨_, rfl⟩
      have hlk2 : lnI ks2 = i2 := by rw [hk.lnI_eq, hks2, List.length_append]; simp only [List.length_cons, List.length_nil]; omega
      have hll2 : l.length ≤ 8192 := by
        rw [hll]
        have : i.toNat * m.toNat ≤ 8 * 1024 := Nat.mul_le_mul (by omega) (by omega)
        omega
      (conv => cbv)
      repeat' (first | assumption | ((first | refine hk.callA (htk' _ _ _ _) ?_ | rw [hck] | rw [hbq] | rw [hap] | rw [hlk] | rw [hl1] | rw [hsh2] | refine stp ?_ | refine stpB (fun _ => ?_) (fun _ => ?_)) <;> (conv => cbv)) | exact stpF | fail)
      rw [hlk2]
      generalize hG1 : G.succ = G1
      refine hk.loopI (loop_rule (α := Int × Int × List Int × Int) (fun x => [(0, .ptr 0 0), (1, .int .i64 n), (5, .ptr 1 0), (6, .ptr 2 0), (7, .ls (.il .i64 x.2.2.1) (.tok 4 0)), (8, .int .i64 k), (29, .int .i64 W), (30, .int .i64 i), (44, .int .i64 m), (45, .int .i64 x.2.2.2)])
        (fun x => [.box [.ls (.il .u8 bs) .any, .int .i64 x.1, .int .i64 x.2.1], .box [.int .i64 0, .ls .nl .nil], .box [.int .i64 V, .sl 3 G1 0 i2], .rw G1 (.il .i64 ks2), .tok 0])
        (fun x => Inv1 x.2.2.2 x.1 x.2.1 x.2.2.1) (fun x => (m - x.2.2.2).toNat) (a2, f2, l, 0) hJ1 ?_ ?_)
      · refine Gh.low 5 (Nat.le_of_ble_eq_true rfl) ?_ rfl rfl rfl
        repeat' (first | exact Holds.nil _ _ | refine Holds.cons (Wk.refl _ _) ?_)
      intro ⟨a3, f3, l3, j⟩ hJ2 Q2 hb2 hx2 hr2
      simp only at hJ2
      obtain ⟨j0, j1, hl3, d1, d2⟩ := hI1 j a3 f3 l3 hJ2
      dsimp only
      by_cases hjm : j < m
      · obtain ⟨v, a4, f4, hrt, hc⟩ := d1 hjm
        clear d1 d2
        have hrt' : ∀ o1 o2 o3 o4, Does PP 111 [.ptr 0 0, I k] [.box [.ls (.il .u8 bs) .any, .int .i64 a3, .int .i64 f3], o1, o2, o3, o4] (Is (I v) [.box [.ls (.il .u8 bs) .any, .int .i64 a4, .int .i64 f4], o1, o2, o3, o4]) := fun o1 o2 o3 o4 =>
          hrt.renI [0] rfl (by decide) rfl ⟨rfl, trivial⟩ rfl rfl rfl rfl rfl rfl
        obtain ⟨l4, hl4⟩ : ∃ x, x = l3 ++ [v] := ⟨_, rfl⟩
        rw [← hl4] at hc
        have hap2 : apI l3 [v] = l4 := by rw [hl4]; exact hk.apI_eq _ _
        have hln3 : lnI l3 ≤ 10000 := by rw [hk.lnI_eq]; omega
        have hln3' := hk.lnI_nn l3
        rcases hc with ⟨e1, e2, e3⟩ | ⟨e1, e2⟩
        · subst e2 e3
          (conv => cbv)
          repeat' (first | assumption | ((first | refine hk.callA (hrt' _ _ _ _) ?_ | refine hk.callA (hfl _ _ _ _ _ _ _) ?_ | rw [hl1] | rw [hap2] | refine hk.needI (by first | (simp only [rNd, hk.ad_eq, hk.sb_eq]; omega) | (simp [rNd, hk.ad_eq, hk.sb_eq]; omega)) ?_ | refine hr2 _ ?_ | refine hr _ ?_ | refine stp ?_ | refine stpB (fun _ => ?_) (fun _ => ?_)) <;> (conv => cbv)) | exact stpF | fail)
          all_goals rw [if_neg e1, if_neg e1, if_neg e1]
          all_goals refine hk.finI (fin_lowN 1 (Nat.le_refl 1) ?_ rfl rfl ⟨rfl, rfl⟩)
          all_goals exact Wk.tup ⟨Wk.nilL _ _, Wk.agg ⟨Wk.refl _ _, Wk.nilL _ _, trivial⟩, trivial⟩
        · subst e1
          (conv => cbv)
          repeat' (first | assumption | ((first | refine hk.callA (hrt' _ _ _ _) ?_ | refine hk.callA (hfl _ _ _ _ _ _ _) ?_ | rw [hl1] | rw [hap2] | refine hk.needI (by first | (simp only [rNd, hk.ad_eq, hk.sb_eq]; omega) | (simp [rNd, hk.ad_eq, hk.sb_eq]; omega)) ?_ | refine stp ?_ | refine stpB (fun _ => ?_) (fun _ => ?_)) <;> (conv => cbv)) | exact stpF | fail)
          refine hb2 (a4, 0, l4, j + 1) _ e2 (by simp only; omega) ?_
          refine Gh.retok 4 1 rfl (Nat.le_of_ble_eq_true rfl) ?_ rfl rfl
          repeat' (first | exact HoldsT.nil _ _ _ _ | refine HoldsT.tok rfl ?_ | refine HoldsT.cons (Wk.refl _ _) rfl ?_ | refine HoldsT.cons (Wk.of_eq ?_) rfl ?_)
          all_goals first
            | (rw [← hk.add64 j 1 (by omega) (by omega)]; rfl)
            | rfl
            | skip
      · have hjm : j = m := by omega
        obtain ⟨e1, e2⟩ := d2 hjm
        subst hjm e1
        clear d1 d2
        (conv => cbv)
        repeat' (first | assumption | ((first | refine hx2 _ _ ?_ | refine stp ?_ | refine stpB (fun _ => ?_) (fun _ => ?_)) <;> (conv => cbv)) | exact stpF | fail)
        rw [← hks2] at e2
        refine hb (G1, a3, 0, ks2, l3, i2) _ ⟨by simp only; omega, by rw [hi2]; exact e2⟩ (by simp only; omega) ?_
        rw [hi2]
        refine Gh.tm ?_
        repeat' (first | exact Holds.nil _ _ | refine Holds.cons (Wk.refl _ _) ?_ | refine Holds.cons (Wk.of_eq ?_) ?_)
        all_goals first
          | (rw [← hk.add64 i 1 (by omega) (by omega)]; rfl)
          | rfl
          | skip
    · have hiW : i = W := by omega
      obtain ⟨e1, e2, e3, e4, e5⟩ := c2 hiW
      subst e2 e3 e4 e5
      clear c1 c2
      (conv => cbv)
      repeat' (first | assumption | ((first | refine hx _ _ ?_ | refine stp ?_ | refine stpB (fun _ => ?_) (fun _ => ?_)) <;> (conv => cbv)) | exact stpF | fail)
      have hf0 : f = 0 := by omega
      rw [if_pos hf0, if_pos hf0, if_pos hf0]
      refine hk.finI (fin_rz 3 G (.il .i64 ks) rfl rfl ?_)
      have e : rz 3 G (.il .i64 ks) (.tup [.ls (.il .i64 l) (.tok 4 0), .agg [.int .i64 V, .sl 3 G 0 i]]) = .tup [.ls (.il .i64 l) (.tok 4 0), .agg [.int .i64 V, LI ks]] := by
        have e2 : rz 3 G (.il .i64 ks) (.sl 3 G 0 i) = LI ks := by
          rw [rz_sl]
          show AVal.ls (.il .i64 (rSub ks 0 i)) .any = _
          rw [show rSub ks 0 i = ks by
            show (ks.drop (Int.toNat 0)).take (i - 0).toNat = ks
            rw [Int.toNat_zero, List.drop_zero, List.take_of_length_le (by omega)]]
        show AVal.tup [.ls (.il .i64 l) (.tok 4 0), .agg [.int .i64 V, rz 3 G (.il .i64 ks) (.sl 3 G 0 i)]] = _
        rw [e2]
      show rFin _ _ (rz 3 G (.il .i64 ks) (.tup [.ls (.il .i64 l) (.tok 4 0), .agg [.int .i64 V, .sl 3 G 0 i]])) _
      rw [e]
      refine fin_lowN 1 (Nat.le_refl 1) ?_ rfl rfl ⟨rfl, rfl⟩
      exact Wk.tup ⟨Wk.any _ _ _, Wk.refl _ _, trivial⟩
end Go.Proofs.YtfjdmgnhklpiiaaGreat
set_option maxHeartbeats 4000000
set_option maxRecDepth 20000
set_option linter.unusedSimpArgs false
set_option linter.unusedVariables false
open Go Go.AL
namespace Go.Proofs.YtfjdmgnhklpiiaaGreat
theorem tnR_RV {bs : List Int} {s : RS} (h : RV bs s) (b n : Int) : RV bs (tnR b n s).1 := itS_RV (fun s h => RV_tk h b) _ _ _ _ h
def rsA (s : RS) : RS := if tkW 5 (tkS 5 s) > 16 then gvS 2 (tkS 5 (tkS 5 s)) else tkS 5 (tkS 5 s)
def rsB (s : RS) : RS × List Int := tnR 7 (tkW 5 (tkS 5 s)) (rsA s)
def lgW (s : RS) : Int := if tkW 1 s = 1 then tkW 8 (tkS 1 s) else 0
def gnW (s : RS) : Int := if tkW 1 s = 1 then tkW 4 (tkS 8 (tkS 1 s)) else 0
def rsC (s : RS) : RS := if tkW 1 s = 1 then (if lgW s = 0 ∨ gnW s = 0 then gvS 2 (tkS 4 (tkS 8 (tkS 1 s))) else tkS 4 (tkS 8 (tkS 1 s))) else tkS 1 s
def rsT (s : RS) : RS := rsC (rsB s).1
def rsS (n : Int) (s : RS) : RS := slS n (rsT s)
theorem RV_rsA {bs : List Int} {s : RS} (h : RV bs s) : RV bs (rsA s) := by
  unfold rsA
  split
  · exact RV_gv (RV_tk (RV_tk h _) _) _
  · exact RV_tk (RV_tk h _) _
theorem RV_rsB {bs : List Int} {s : RS} (h : RV bs s) : RV bs (rsB s).1 := tnR_RV (RV_rsA h) _ _
theorem RV_rsC {bs : List Int} {s : RS} (h : RV bs s) : RV bs (rsC s) := by
  unfold rsC
  split
  · split
    · exact RV_gv (RV_tk (RV_tk (RV_tk h _) _) _) _
    · exact RV_tk (RV_tk (RV_tk h _) _) _
  · exact RV_tk h _
theorem RV_rsT {bs : List Int} {s : RS} (h : RV bs s) : RV bs (rsT s) := RV_rsC (RV_rsB h)
theorem rsC_plan (bs : List Int) (s : RS) :
    (tkW 1 s = 1 ∧ lgW s = tkW 8 (tkS 1 s) ∧ gnW s = tkW 4 (tkS 8 (tkS 1 s)) ∧ (((lgW s = 0 ∨ gnW s = 0) ∧ rsC s = gvS 2 (tkS 4 (tkS 8 (tkS 1 s)))) ∨ (¬ (lgW s = 0 ∨ gnW s = 0) ∧ rsC s = tkS 4 (tkS 8 (tkS 1 s))))) ∨
    (¬ tkW 1 s = 1 ∧ lgW s = 0 ∧ gnW s = 0 ∧ rsC s = tkS 1 s) := by
  by_cases h : tkW 1 s = 1
  · left
    refine ⟨h, if_pos h, if_pos h, ?_⟩
    by_cases h2 : lgW s = 0 ∨ gnW s = 0
    · exact .inl ⟨h2, by unfold rsC; rw [if_pos h, if_pos h2]⟩
    · exact .inr ⟨h2, by unfold rsC; rw [if_pos h, if_neg h2]⟩
  · right
    exact ⟨h, if_neg h, if_neg h, if_neg h⟩
theorem term_specN (kd vl sh : Int) (ix : List Int) (lg gn pt : Int) (h : Heap) : Does PP 79 [.agg [I kd, I vl, I sh, LI ix, I lg, I gn, I pt, .ls .nl .nil, .ls .nl .nil]] h (Is (.agg [I lg, I gn]) h) :=
  (term_spec kd vl sh ix lg gn pt [] [] h).wk (WkL.cons (Wk.agg ⟨.refl _ _, .refl _ _, .refl _ _, .refl _ _, .refl _ _, .refl _ _, .refl _ _, Wk.nilL _ _, Wk.nilL _ _, trivial⟩) WkL.nil)
end Go.Proofs.YtfjdmgnhklpiiaaGreat
set_option maxHeartbeats 4000000
set_option maxRecDepth 20000
set_option linter.unusedSimpArgs false
set_option linter.unusedVariables false
open Go Go.AL
namespace Go.Proofs.YtfjdmgnhklpiiaaGreat
theorem rest_rh (bs : List Int) (hB : Bytes8 bs) (hl : bs.length < 137438953472) (s : RS) (hs : RV bs s) (n : Int) (hn1 : 1 ≤ n) (hn2 : n ≤ 1024) :
    Does PP 35 [.ptr 0 0, I n] (rh bs s) (Is (.agg [I 2, I 0, I (tkW 5 s), LI (if (rsB s).1.2 = 0 then (rsB s).2 else []), I (lgW (rsB s).1), I (gnW (rsB s).1),
      I (if (rsS n s).2 = 0 then tkW 2 (rsT s) else 0), LI (if (rsS n s).2 = 0 then slK n (rsT s) else []), LI (if (rsS n s).2 = 0 then slL n (rsT s) else [])]) (rh bs (rsS n s))) := by
  have t1 := take_rh bs hB hl s hs 5
  have v1 := RV_tk hs 5
  have t2 := take_rh bs hB hl (tkS 5 s) v1 5
  have v2 := RV_tk v1 5
  have g2 := give_rh bs (tkS 5 (tkS 5 s)) 2
  have r1 := tkW_range 5 s
  have r2 := tkW_range 5 (tkS 5 s)
  have r2' := tkW_lt 5 (tkS 5 s) (by decide)
  have h32 : (2 : Int) ^ (Int.toNat 5) = 32 := by decide
  rw [h32] at r2'
  have hA : (tkW 5 (tkS 5 s) > 16 ∧ rsA s = gvS 2 (tkS 5 (tkS 5 s))) ∨ (¬ tkW 5 (tkS 5 s) > 16 ∧ rsA s = tkS 5 (tkS 5 s)) := by
    by_cases h : tkW 5 (tkS 5 s) > 16
    · exact .inl ⟨h, if_pos h⟩
    · exact .inr ⟨h, if_neg h⟩
  have vA := RV_rsA hs
  have tn := taken_rh bs hB hl (rsA s) vA (tkW 5 (tkS 5 s)) 7 r2.1 (by omega) (by decide) (by decide)
  have eB : tnR 7 (tkW 5 (tkS 5 s)) (rsA s) = rsB s := rfl
  rw [eB] at tn
  have vB := RV_rsB hs
  have hC := rsC_plan bs (rsB s).1
  have eT : rsC (rsB s).1 = rsT s := rfl
  rw [eT] at hC
  have vT := RV_rsT hs
  have sl := slidetake_rh bs hB hl (rsT s) vT n hn1 hn2
  have eS : slS n (rsT s) = rsS n s := rfl
  rw [eS] at sl
  obtain ⟨ix, hix⟩ : ∃ x, x = (if (rsB s).1.2 = 0 then (rsB s).2 else []) := ⟨_, rfl⟩
  obtain ⟨PT, hPT⟩ : ∃ x, x = (if (rsS n s).2 = 0 then tkW 2 (rsT s) else 0) := ⟨_, rfl⟩
  obtain ⟨RC, hRC⟩ : ∃ x, x = (if (rsS n s).2 = 0 then slK n (rsT s) else []) := ⟨_, rfl⟩
  obtain ⟨DA, hDA⟩ : ∃ x, x = (if (rsS n s).2 = 0 then slL n (rsT s) else []) := ⟨_, rfl⟩
  rw [← hix] at tn
  rw [← hPT, ← hRC, ← hDA] at sl
  rw [← hix, ← hPT, ← hRC, ← hDA]
  obtain ⟨b, hb⟩ : ∃ x, x = (rsB s).1 := ⟨_, rfl⟩
  rw [← hb] at tn hC vB ⊢
  have t3 := take_rh bs hB hl b vB 1
  have v3 := RV_tk vB 1
  have t4 := take_rh bs hB hl _ v3 8
  have v4 := RV_tk v3 8
  have t5 := take_rh bs hB hl _ v4 4
  have g5 := give_rh bs (tkS 4 (tkS 8 (tkS 1 b))) 2
  have r3 := tkW_range 1 b
  have r4 := tkW_range 8 (tkS 1 b)
  have r5 := tkW_range 4 (tkS 8 (tkS 1 b))
  have r4' := tkW_lt 8 (tkS 1 b) (by decide)
  have r5' := tkW_lt 4 (tkS 8 (tkS 1 b)) (by decide)
  have h256 : (2 : Int) ^ (Int.toNat 8) = 256 := by decide
  have h16 : (2 : Int) ^ (Int.toNat 4) = 16 := by decide
  rw [h256] at r4'
  rw [h16] at r5'
  clear vB vT v1 v2 v3 v4 vA hs hix hPT hRC hDA hb eT eS eB h256 h16 h32
  obtain ⟨s1, hs1⟩ : ∃ x, x = tkS 5 s := ⟨_, rfl⟩
  obtain ⟨s2, hs2⟩ : ∃ x, x = tkS 5 s1 := ⟨_, rfl⟩
  obtain ⟨s3, hs3⟩ : ∃ x, x = gvS 2 s2 := ⟨_, rfl⟩
  obtain ⟨s4, hs4⟩ : ∃ x, x = rsA s := ⟨_, rfl⟩
  obtain ⟨s5, hs5⟩ : ∃ x, x = tkS 1 b := ⟨_, rfl⟩
  obtain ⟨s6, hs6⟩ : ∃ x, x = tkS 8 s5 := ⟨_, rfl⟩
  obtain ⟨s7, hs7⟩ : ∃ x, x = tkS 4 s6 := ⟨_, rfl⟩
  obtain ⟨s8, hs8⟩ : ∃ x, x = gvS 2 s7 := ⟨_, rfl⟩
  obtain ⟨s9, hs9⟩ : ∃ x, x = rsT s := ⟨_, rfl⟩
  obtain ⟨sE, hsE⟩ : ∃ x, x = rsS n s := ⟨_, rfl⟩
  simp only [← hs1, ← hs4, ← hs5, ← hs9, ← hsE] at *
  simp only [← hs2, ← hs6] at *
  simp only [← hs3, ← hs7] at *
  simp only [← hs8] at *
  obtain ⟨V1, hV1⟩ : ∃ x, x = tkW 5 s := ⟨_, rfl⟩
  obtain ⟨V2, hV2⟩ : ∃ x, x = tkW 5 s1 := ⟨_, rfl⟩
  obtain ⟨V3, hV3⟩ : ∃ x, x = tkW 1 b := ⟨_, rfl⟩
  obtain ⟨V4, hV4⟩ : ∃ x, x = tkW 8 s5 := ⟨_, rfl⟩
  obtain ⟨V5, hV5⟩ : ∃ x, x = tkW 4 s6 := ⟨_, rfl⟩
  obtain ⟨LG, hLG⟩ : ∃ x, x = lgW b := ⟨_, rfl⟩
  obtain ⟨GN, hGN⟩ : ∃ x, x = gnW b := ⟨_, rfl⟩
  simp only [← hV1, ← hV2, ← hV3, ← hV4, ← hV5, ← hLG, ← hGN] at *
  clear hs1 hs2 hs3 hs4 hs5 hs6 hs7 hs8 hs9 hsE hV1 hV2 hV3 hV4 hV5 hLG hGN
  have htm : ∀ kd vl sh ix pt h, Does PP 79 [.agg [I kd, I vl, I sh, LI ix, I V4, I V5, I pt, .ls .nl .nil, .ls .nl .nil]] h (Is (.agg [I V4, I V5]) h) := fun kd vl sh ix pt h => term_specN kd vl sh ix V4 V5 pt h
  have htg := fun h => lterm_spec V4 V5 h
  have htB : ¬ (V4 = 0 ∧ V5 = 0) → termB V4 V5 = !decide (V4 = 0 ∨ V5 = 0) := fun h => by
    unfold termB
    rw [Bool.eq_iff_iff]
    simp only [decide_eq_true_eq, Bool.not_eq_true', decide_eq_false_iff_not]
    omega
  obtain ⟨tB, htb⟩ : ∃ x, x = termB V4 V5 := ⟨_, rfl⟩
  simp only [← htb] at htB htg
  clear htb
  -- states into numbers
  unfold rh at *
  have q1 := fun G => rd_frameG G t1 rfl rfl rfl
  have q2 := fun G => rd_frameG G t2 rfl rfl rfl
  have q3 := fun G => rd_frameG G t3 rfl rfl rfl
  have q4 := fun G => rd_frameG G t4 rfl rfl rfl
  have q5 := fun G => rd_frameG G t5 rfl rfl rfl
  have k2 := fun G => rd_frameG G g2 rfl rfl rfl
  have k5 := fun G => rd_frameG G g5 rfl rfl rfl
  have qn := fun G => rd_frameG G tn rfl rfl rfl
  have qs := fun G => rd_frameG G sl rfl rfl rfl
  clear t1 t2 t3 t4 t5 g2 g5 tn sl
  unfold rd
  obtain ⟨A, hAp⟩ : ∃ A : RS → Int, ∀ s, rpos bs s = A s := ⟨_, fun _ => rfl⟩
  obtain ⟨F, hFp⟩ : ∃ A : RS → Int, ∀ s : RS, s.2 = A s := ⟨_, fun _ => rfl⟩
  simp only [hAp, hFp] at *
  clear hAp hFp hB hl
  refine wlkS (fun f => Nat.beq f 32 || Nat.beq f 80 || f == 9999 || f == 18005) Tryz.f35 ?_
  unhygienic intros
  have c1 : cv .i64 V1 = V1 := by rw [hk.cv_eq]; exact wrap64 (by omega) (by omega)
  have c2' : cv .i64 V2 = V2 := by rw [hk.cv_eq]; exact wrap64 (by omega) (by omega)
  have c4 : cv .i64 V4 = V4 := by rw [hk.cv_eq]; exact wrap64 (by omega) (by omega)
  have c5 : cv .i64 V5 = V5 := by rw [hk.cv_eq]; exact wrap64 (by omega) (by omega)
  have r3' : 0 ≤ V3 := r3.1
  have hba : ba (c2 .eql V4 0) (ba (c2 .eql V5 0) true) = decide (V4 = 0 ∧ V5 = 0) := by
    rw [hk.ba_eq, hk.ba_eq, hk.c2_eql, hk.c2_eql]
    by_cases a : V4 = 0 <;> by_cases b : V5 = 0 <;> simp [a, b]
  rcases hA with ⟨x1, x2⟩ | ⟨x1, x2⟩
  · subst x2
    rcases hC with ⟨y1, y2, y3, y4⟩ | ⟨y1, y2, y3, y4⟩
    · subst y2 y3
      rcases y4 with ⟨z1, z2⟩ | ⟨z1, z2⟩
      · subst z2
        by_cases hzz : LG = 0 ∧ GN = 0
        · obtain ⟨w1, w2⟩ := hzz
          subst w1 w2
          rw [decide_eq_true ⟨rfl, rfl⟩] at hba
          (conv => cbv)
          repeat' (first | assumption | ((first | refine hk.callA (q1 _) ?_ | refine hk.callS (q1 _) ?_ | refine hk.callA (q2 _) ?_ | refine hk.callA (q3 _) ?_ | refine hk.callA (q4 _) ?_ | refine hk.callA (q5 _) ?_ | refine hk.callA (k2 _) ?_ | refine hk.callA (k5 _) ?_ | refine hk.callA (qn _) ?_ | refine hk.callA (qs _) ?_ | refine hk.callS (qs _) ?_ | rw [hba] | rw [c1] | rw [c2'] | rw [c4] | rw [c5] | refine hk.callA (htm _ _ _ _ _ _) ?_ | refine hk.calldA (htm _ _ _ _ _) ?_ | refine hk.callA (htg _) ?_ | refine hk.calldA htg ?_ | refine hk.callS (q2 _) ?_ | refine hk.callS (q3 _) ?_ | refine hk.callS (q4 _) ?_ | refine hk.callS (q5 _) ?_ | refine hk.callS (qn _) ?_ | refine stp ?_ | refine stpB (fun _ => ?_) (fun _ => ?_)) <;> (conv => cbv)) | exact stpF | fail)
          all_goals first
            | exact hk.finI (fin_lowN 1 (Nat.le_refl 1) (Wk.refl _ _) rfl rfl ⟨rfl, rfl⟩)
            | skip
        · have htB := htB hzz
          rw [decide_eq_false hzz] at hba
          rw [decide_eq_true z1] at htB
          subst htB
          (conv => cbv)
          repeat' (first | assumption | ((first | refine hk.callA (q1 _) ?_ | refine hk.callS (q1 _) ?_ | refine hk.callA (q2 _) ?_ | refine hk.callA (q3 _) ?_ | refine hk.callA (q4 _) ?_ | refine hk.callA (q5 _) ?_ | refine hk.callA (k2 _) ?_ | refine hk.callA (k5 _) ?_ | refine hk.callA (qn _) ?_ | refine hk.callA (qs _) ?_ | refine hk.callS (qs _) ?_ | rw [hba] | rw [c1] | rw [c2'] | rw [c4] | rw [c5] | refine hk.callA (htm _ _ _ _ _ _) ?_ | refine hk.calldA (htm _ _ _ _ _) ?_ | refine hk.callA (htg _) ?_ | refine hk.calldA htg ?_ | refine hk.callS (q2 _) ?_ | refine hk.callS (q3 _) ?_ | refine hk.callS (q4 _) ?_ | refine hk.callS (q5 _) ?_ | refine hk.callS (qn _) ?_ | refine stp ?_ | refine stpB (fun _ => ?_) (fun _ => ?_)) <;> (conv => cbv)) | exact stpF | fail)
          all_goals first
            | exact hk.finI (fin_lowN 1 (Nat.le_refl 1) (Wk.refl _ _) rfl rfl ⟨rfl, rfl⟩)
            | skip
      · subst z2
        have htB := htB (fun h => z1 (.inl h.1))
        rw [decide_eq_false (fun h => z1 (.inl h.1))] at hba
        rw [decide_eq_false z1] at htB
        subst htB
        (conv => cbv)
        repeat' (first | assumption | ((first | refine hk.callA (q1 _) ?_ | refine hk.callS (q1 _) ?_ | refine hk.callA (q2 _) ?_ | refine hk.callA (q3 _) ?_ | refine hk.callA (q4 _) ?_ | refine hk.callA (q5 _) ?_ | refine hk.callA (k2 _) ?_ | refine hk.callA (k5 _) ?_ | refine hk.callA (qn _) ?_ | refine hk.callA (qs _) ?_ | refine hk.callS (qs _) ?_ | rw [hba] | rw [c1] | rw [c2'] | rw [c4] | rw [c5] | refine hk.callA (htm _ _ _ _ _ _) ?_ | refine hk.calldA (htm _ _ _ _ _) ?_ | refine hk.callA (htg _) ?_ | refine hk.calldA htg ?_ | refine hk.callS (q2 _) ?_ | refine hk.callS (q3 _) ?_ | refine hk.callS (q4 _) ?_ | refine hk.callS (q5 _) ?_ | refine hk.callS (qn _) ?_ | refine stp ?_ | refine stpB (fun _ => ?_) (fun _ => ?_)) <;> (conv => cbv)) | exact stpF | fail)
        all_goals first
          | exact hk.finI (fin_lowN 1 (Nat.le_refl 1) (Wk.refl _ _) rfl rfl ⟨rfl, rfl⟩)
          | skip
    · subst y2 y3 y4
      (conv => cbv)
      repeat' (first | assumption | ((first | refine hk.callA (q1 _) ?_ | refine hk.callS (q1 _) ?_ | refine hk.callA (q2 _) ?_ | refine hk.callA (q3 _) ?_ | refine hk.callA (q4 _) ?_ | refine hk.callA (q5 _) ?_ | refine hk.callA (k2 _) ?_ | refine hk.callA (k5 _) ?_ | refine hk.callA (qn _) ?_ | refine hk.callA (qs _) ?_ | refine hk.callS (qs _) ?_ | rw [hba] | rw [c1] | rw [c2'] | rw [c4] | rw [c5] | refine hk.callA (htm _ _ _ _ _ _) ?_ | refine hk.calldA (htm _ _ _ _ _) ?_ | refine hk.callA (htg _) ?_ | refine hk.calldA htg ?_ | refine hk.callS (q2 _) ?_ | refine hk.callS (q3 _) ?_ | refine hk.callS (q4 _) ?_ | refine hk.callS (q5 _) ?_ | refine hk.callS (qn _) ?_ | refine stp ?_ | refine stpB (fun _ => ?_) (fun _ => ?_)) <;> (conv => cbv)) | exact stpF | fail)
      all_goals first
        | exact hk.finI (fin_lowN 1 (Nat.le_refl 1) (Wk.refl _ _) rfl rfl ⟨rfl, rfl⟩)
        | skip
  · subst x2
    rcases hC with ⟨y1, y2, y3, y4⟩ | ⟨y1, y2, y3, y4⟩
    · subst y2 y3
      rcases y4 with ⟨z1, z2⟩ | ⟨z1, z2⟩
      · subst z2
        by_cases hzz : LG = 0 ∧ GN = 0
        · obtain ⟨w1, w2⟩ := hzz
          subst w1 w2
          rw [decide_eq_true ⟨rfl, rfl⟩] at hba
          (conv => cbv)
          repeat' (first | assumption | ((first | refine hk.callA (q1 _) ?_ | refine hk.callS (q1 _) ?_ | refine hk.callA (q2 _) ?_ | refine hk.callA (q3 _) ?_ | refine hk.callA (q4 _) ?_ | refine hk.callA (q5 _) ?_ | refine hk.callA (k2 _) ?_ | refine hk.callA (k5 _) ?_ | refine hk.callA (qn _) ?_ | refine hk.callA (qs _) ?_ | refine hk.callS (qs _) ?_ | rw [hba] | rw [c1] | rw [c2'] | rw [c4] | rw [c5] | refine hk.callA (htm _ _ _ _ _ _) ?_ | refine hk.calldA (htm _ _ _ _ _) ?_ | refine hk.callA (htg _) ?_ | refine hk.calldA htg ?_ | refine hk.callS (q2 _) ?_ | refine hk.callS (q3 _) ?_ | refine hk.callS (q4 _) ?_ | refine hk.callS (q5 _) ?_ | refine hk.callS (qn _) ?_ | refine stp ?_ | refine stpB (fun _ => ?_) (fun _ => ?_)) <;> (conv => cbv)) | exact stpF | fail)
          all_goals first
            | exact hk.finI (fin_lowN 1 (Nat.le_refl 1) (Wk.refl _ _) rfl rfl ⟨rfl, rfl⟩)
            | skip
        · have htB := htB hzz
          rw [decide_eq_false hzz] at hba
          rw [decide_eq_true z1] at htB
          subst htB
          (conv => cbv)
          repeat' (first | assumption | ((first | refine hk.callA (q1 _) ?_ | refine hk.callS (q1 _) ?_ | refine hk.callA (q2 _) ?_ | refine hk.callA (q3 _) ?_ | refine hk.callA (q4 _) ?_ | refine hk.callA (q5 _) ?_ | refine hk.callA (k2 _) ?_ | refine hk.callA (k5 _) ?_ | refine hk.callA (qn _) ?_ | refine hk.callA (qs _) ?_ | refine hk.callS (qs _) ?_ | rw [hba] | rw [c1] | rw [c2'] | rw [c4] | rw [c5] | refine hk.callA (htm _ _ _ _ _ _) ?_ | refine hk.calldA (htm _ _ _ _ _) ?_ | refine hk.callA (htg _) ?_ | refine hk.calldA htg ?_ | refine hk.callS (q2 _) ?_ | refine hk.callS (q3 _) ?_ | refine hk.callS (q4 _) ?_ | refine hk.callS (q5 _) ?_ | refine hk.callS (qn _) ?_ | refine stp ?_ | refine stpB (fun _ => ?_) (fun _ => ?_)) <;> (conv => cbv)) | exact stpF | fail)
          all_goals first
            | exact hk.finI (fin_lowN 1 (Nat.le_refl 1) (Wk.refl _ _) rfl rfl ⟨rfl, rfl⟩)
            | skip
      · subst z2
        have htB := htB (fun h => z1 (.inl h.1))
        rw [decide_eq_false (fun h => z1 (.inl h.1))] at hba
        rw [decide_eq_false z1] at htB
        subst htB
        (conv => cbv)
        repeat' (first | assumption | ((first | refine hk.callA (q1 _) ?_ | refine hk.callS (q1 _) ?_ | refine hk.callA (q2 _) ?_ | refine hk.callA (q3 _) ?_ | refine hk.callA (q4 _) ?_ | refine hk.callA (q5 _) ?_ | refine hk.callA (k2 _) ?_ | refine hk.callA (k5 _) ?_ | refine hk.callA (qn _) ?_ | refine hk.callA (qs _) ?_ | refine hk.callS (qs _) ?_ | rw [hba] | rw [c1] | rw [c2'] | rw [c4] | rw [c5] | refine hk.callA (htm _ _ _ _ _ _) ?_ | refine hk.calldA (htm _ _ _ _ _) ?_ | refine hk.callA (htg _) ?_ | refine hk.calldA htg ?_ | refine hk.callS (q2 _) ?_ | refine hk.callS (q3 _) ?_ | refine hk.callS (q4 _) ?_ | refine hk.callS (q5 _) ?_ | refine hk.callS (qn _) ?_ | refine stp ?_ | refine stpB (fun _ => ?_) (fun _ => ?_)) <;> (conv => cbv)) | exact stpF | fail)
        all_goals first
          | exact hk.finI (fin_lowN 1 (Nat.le_refl 1) (Wk.refl _ _) rfl rfl ⟨rfl, rfl⟩)
          | skip
    · subst y2 y3 y4
      (conv => cbv)
      repeat' (first | assumption | ((first | refine hk.callA (q1 _) ?_ | refine hk.callS (q1 _) ?_ | refine hk.callA (q2 _) ?_ | refine hk.callA (q3 _) ?_ | refine hk.callA (q4 _) ?_ | refine hk.callA (q5 _) ?_ | refine hk.callA (k2 _) ?_ | refine hk.callA (k5 _) ?_ | refine hk.callA (qn _) ?_ | refine hk.callA (qs _) ?_ | refine hk.callS (qs _) ?_ | rw [hba] | rw [c1] | rw [c2'] | rw [c4] | rw [c5] | refine hk.callA (htm _ _ _ _ _ _) ?_ | refine hk.calldA (htm _ _ _ _ _) ?_ | refine hk.callA (htg _) ?_ | refine hk.calldA htg ?_ | refine hk.callS (q2 _) ?_ | refine hk.callS (q3 _) ?_ | refine hk.callS (q4 _) ?_ | refine hk.callS (q5 _) ?_ | refine hk.callS (qn _) ?_ | refine stp ?_ | refine stpB (fun _ => ?_) (fun _ => ?_)) <;> (conv => cbv)) | exact stpF | fail)
      all_goals first
        | exact hk.finI (fin_lowN 1 (Nat.le_refl 1) (Wk.refl _ _) rfl rfl ⟨rfl, rfl⟩)
        | skip
end Go.Proofs.YtfjdmgnhklpiiaaGreat
