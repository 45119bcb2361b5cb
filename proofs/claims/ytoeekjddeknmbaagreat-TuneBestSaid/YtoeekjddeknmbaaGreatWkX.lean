/-
  Contracts of functions of the program, proved over the abstract machine of the Al texts.
-/
import Derived.Test.YtoeekjddeknmbaaGreatAl4
import Derived.Test.YtoeekjddeknmbaaGreatTkX3
import Derived.Test.YtoeekjddeknmbaaGreatTryTab
import Derived.Test.YtoeekjddeknmbaaGreatBaseX
import Derived.Test.YtoeekjddeknmbaaGreatRkX
import Derived.Test.YtoeekjddeknmbaaGreatSlX
import Derived.Test.YtoeekjddeknmbaaGreatBsX1
import Derived.Test.YtoeekjddeknmbaaGreatBsX3
import Derived.Test.YtoeekjddeknmbaaGreatTkX7
import Derived.Test.YtoeekjddeknmbaaGreatSbX
import Derived.Test.YtoeekjddeknmbaaGreatNmX
set_option maxHeartbeats 4000000
set_option maxRecDepth 20000
set_option linter.unusedSimpArgs false
set_option linter.unusedVariables false
open Go Go.AL
namespace Go.Proofs.YtoeekjddeknmbaaGreat
theorem GE_wkBox {h : Heap} (i : Nat) (vs vs' : List AVal) (hi : h[i]? = some (.box vs)) (hl : vs'.length = vs.length) (hw : ∀ m, Wk h (vs.getD m .junk) (vs'.getD m .junk)) : GE h (h.set i (.box vs')) := fun e hg he => by
 subst he
 have hil : i < e.h.length := (List.getElem?_eq_some_iff.1 hi).1
 let e2 : Env := { e with h := e.h.set i (.box vs') }
 have look : ∀ k o, e2.h[k]? = some o → (k = i ∧ o = .box vs') ∨ (k ≠ i ∧ e.h[k]? = some o) := fun k o hk => by
  have hk : (e.h.set i (.box vs'))[k]? = some o := hk
  by_cases hki : k = i
  ·subst hki
   rw [List.getElem?_set, if_pos rfl, if_pos hil] at hk
   exact .inl ⟨rfl, (Option.some.inj hk).symm⟩
  ·rw [List.getElem?_set_ne (Ne.symm hki)] at hk
   exact .inr ⟨hki, hk⟩
 have x2 : ∀ n, Ext n e e2 := fun n => by
  refine ⟨fun k o hk ho => ?_, fun _ => Nat.le_refl _, fun _ _ _ => rfl, fun _ => Nat.le_refl _⟩
  by_cases hki : k = i
  ·subst hki
   rw [hi] at ho
   cases ho
   exact ⟨.box vs', (by show (e.h.set k _)[k]? = _; rw [List.getElem?_set, if_pos rfl, if_pos hil]), (by exact ⟨rfl, hl⟩)⟩
  ·exact ⟨o, by show (e.h.set i _)[k]? = _; rw [List.getElem?_set_ne (Ne.symm hki)]; exact ho, OMono.kept rfl rfl k o⟩
 have vr : ∀ v c, VR e v c → VR e2 v c := fun v c h => h.mono (Nat.le_refl _) (x2 _)
 have live : ∀ (k : Nat) (o : AObj), e2.h[k]? = some o → o.live = true → ∃ o', e.h[k]? = some o' ∧ o'.live = true := fun k o hk hl => by
  rcases look k o hk with ⟨rfl, rfl⟩ | ⟨_, h2⟩
  ·exact ⟨_, hi, rfl⟩
  ·exact ⟨o, h2, hl⟩
 have u2 : Upd e e2 := ⟨rfl, rfl, rfl, Nat.le_refl _, fun _ _ _ => ⟨rfl, rfl⟩, fun b ⟨k, o, h1, h2, h3⟩ => by
  obtain ⟨o', h4, h5⟩ := live k o h1 h2
  exact .inl ⟨k, o', h4, h5, h3⟩⟩
 refine ⟨e2, rfl, ⟨fun k o hk => ?_, fun k m ok om b h1 h2 h3 h4 h5 h6 => ?_, hg.ps⟩, rfl, u2, x2 _⟩
 ·rcases look k o hk with ⟨rfl, rfl⟩ | ⟨hne, ho⟩
  ·obtain ⟨b, cs, el, h1, h2, h3, h4, h5⟩ := hg.obj _ _ hi
   refine ⟨b, cs, el, h1, h2, by rw [hl]; exact h3, h4, fun m hm => ?_⟩
   rw [hl] at hm
   exact vr _ _ (hw m e _ hg rfl (h5 m hm))
  ·exact ObjOK.kept (e := e) rfl rfl rfl vr (hg.obj k o ho)
 ·obtain ⟨o1, a1, a2⟩ := live k ok h1 h2
  obtain ⟨o2, a3, a4⟩ := live m om h3 h4
  exact hg.inj k m o1 o2 b a1 a2 a3 a4 h5 h6
theorem rslBest_spec (l : List Int) (h : Heap) (hl1 : 1 ≤ l.length) (hl : l.length ≤ 1024) (hf : l.any farP = false) :
 Does PP 61 [LI l] h (Is (.agg [I (bstP l 3 : Nat), LI (ksL l (bstP l 3))]) h) := by
 obtain ⟨N, hN⟩ : ∃ N : Int, N = (l.length : Nat) := ⟨_, rfl⟩
 have hfar : ∀ x ∈ l, -8589934592 ≤ x ∧ x < 8589934592 := fun x hx => by
  rw [List.any_eq_false] at hf
  have := hf x hx
  rw [farP, Bool.or_eq_true, decide_eq_true_eq, decide_eq_true_eq] at this
  omega
 -- P: 2 to the power
 obtain ⟨Pw, hPw⟩ : ∃ F : Int → Int, ∀ i, F i = 2 ^ i.toNat := ⟨_, fun _ => rfl⟩
 have hpw : ∀ (i : Int) h, i ≤ 3 → Does PP 25 [I i] h (Is (I (Pw i)) h) := fun i h a => by
  rw [hPw]; exact power_spec i h (by omega)
 have hPr : ∀ i : Int, 0 ≤ i → i ≤ 3 → 1 ≤ Pw i ∧ Pw i ≤ 8 ∧ ((2 ^ i.toNat : Nat) : Int) = Pw i := fun i a b => by
  have : ∀ k : Nat, k ≤ 3 → (1 : Int) ≤ 2 ^ k ∧ (2 : Int) ^ k ≤ 8 ∧ ((2 ^ k : Nat) : Int) = 2 ^ k := by decide
  rw [hPw]; exact this i.toNat (by omega)
 -- the best so far: of those below i (i ≥ 1)
 obtain ⟨F, hF⟩ : ∃ F : Int → Nat, ∀ i, F i = bstP l (i - 1).toNat := ⟨_, fun _ => rfl⟩
 obtain ⟨Pq, hP⟩ : ∃ F' : Int → Int, ∀ i, F' i = (F i : Nat) := ⟨_, fun _ => rfl⟩
 obtain ⟨Kq, hK⟩ : ∃ F' : Int → List Int, ∀ i, F' i = ksL l (F i) := ⟨_, fun _ => rfl⟩
 obtain ⟨Bq, hB⟩ : ∃ F' : Int → Int, ∀ i, F' i = bitsP l (F i) := ⟨_, fun _ => rfl⟩
 obtain ⟨Kn, hKn⟩ : ∃ F' : Int → List Int, ∀ i, F' i = ksL l i.toNat := ⟨_, fun _ => rfl⟩
 obtain ⟨Bn, hBn⟩ : ∃ F' : Int → Int, ∀ i, F' i = bitsP l i.toNat := ⟨_, fun _ => rfl⟩
 have hbits : ∀ (i : Int) h, 0 ≤ i → i ≤ 3 → N % Pw i = 0 → Does PP 48 [LI l, .agg [I i, LI (Kn i)]] h (Is (I (Bn i)) h) := fun i h a b c => by
  obtain ⟨q1, q2, q3⟩ := hPr i a b
  have hdv : l.length % 2 ^ i.toNat = 0 := by
   rw [hN, ← q3, ← Int.natCast_emod] at c; omega
  have hpb : partsB (l.length : Nat) i (ksL l i.toNat) = true := by
   unfold partsB
   rw [show i = ((i.toNat : Nat) : Int) by omega, whole_nat _ _ hl1 hl, Bool.and_eq_true, Bool.and_eq_true, decide_eq_true_eq, decide_eq_true_eq, allP_iff]
   rw [Int.toNat_natCast]
   refine ⟨⟨⟨by omega, hdv⟩, by rw [ksL_len]; simp⟩, fun j hj => ?_⟩
   have := ksL_range l _ j hj
   rw [kP, Bool.or_eq_false_iff, decide_eq_false_iff_not, decide_eq_false_iff_not]
   omega
  have := rslBits_spec l i (ksL l i.toNat) h hl1 hl hpb hf
  rw [hKn, hBn, ← sumP_bits]
  exact this
 have hFb : ∀ i : Int, 1 ≤ i → i ≤ 4 → 0 ≤ Pq i ∧ Pq i ≤ 3 ∧ N % Pw (Pq i) = 0 ∧ Kq i = Kn (Pq i) ∧ Bq i = Bn (Pq i) := fun i a b => by
  have h1 := bstP_le l (i - 1).toNat
  have h2 := bstP_div l (i - 1).toNat
  rw [← hF] at h1 h2
  have e : (Pq i).toNat = F i := by rw [hP]; omega
  refine ⟨by rw [hP]; omega, by rw [hP]; omega, ?_, by rw [hK, hKn, e], by rw [hB, hBn, e]⟩
  rw [hPw, e, hN]
  have : ((l.length % 2 ^ F i : Nat) : Int) = (l.length : Int) % 2 ^ F i := by rw [Int.natCast_emod]; simp
  rw [← this, h2]; rfl
 have hst : ∀ i : Int, 1 ≤ i → i ≤ 3 → (N % Pw i = 0 → Bn i < Bq i → Pq (i + 1) = i ∧ Kq (i + 1) = Kn i) ∧ (¬ (N % Pw i = 0 ∧ Bn i < Bq i) → Pq (i + 1) = Pq i ∧ Kq (i + 1) = Kq i) := fun i a b => by
  obtain ⟨q1, q2, q3⟩ := hPr i (by omega) b
  have hi1 : (i - 1).toNat + 1 = i.toNat := by omega
  have hFs : F (i + 1) = if l.length % 2 ^ i.toNat = 0 ∧ bitsP l i.toNat < bitsP l (F i) then i.toNat else F i := by
   rw [hF, hF, show (i + 1 - 1).toNat = (i - 1).toNat + 1 by omega, bstP, hi1]
  have hdv : N % Pw i = 0 ↔ l.length % 2 ^ i.toNat = 0 := by
   rw [hN, ← q3, ← Int.natCast_emod]; omega
  rw [hBn, hB, hdv]
  refine ⟨fun c1 c2 => ?_, fun c => ?_⟩
  ·have e2 : F (i + 1) = i.toNat := by rw [hFs, if_pos ⟨c1, c2⟩]
   rw [hP, hK, hKn, e2]
   exact ⟨by omega, rfl⟩
  ·have e2 : F (i + 1) = F i := by rw [hFs, if_neg c]
   rw [hP, hK, hP, hK, e2]
   exact ⟨rfl, rfl⟩
 have hz : Pq 1 = 0 ∧ Kq 1 = Kn 0 ∧ N % Pw 0 = 0 := by
  refine ⟨by rw [hP, hF]; rfl, by rw [hK, hF, hKn]; rfl, by rw [hPw]; exact Int.emod_one _⟩
 have hPz : Pq 0 = 0 := by rw [hP, hF]; rfl
 have r1 : ((bstP l 3 : Nat) : Int) = Pq 4 := by rw [hP, hF]; rfl
 have r2 : ksL l (bstP l 3) = Kq 4 := by rw [hK, hF]; rfl
 -- the inner loop
 have hin : ∀ i j : Int, 0 ≤ i → i ≤ 3 → N % Pw i = 0 → 0 ≤ j → j < Pw i → ∃ (S a b bk : Int) (x : List Int), S = N / Pw i ∧ a = j * S ∧ b = (j + 1) * S ∧ 0 ≤ S ∧ S ≤ 1024 ∧ 0 ≤ a ∧ a ≤ b ∧ b ≤ N ∧ (l.drop a.toNat).take (b - a).toNat = x ∧ (∀ h, Does PP 97 [LI x] h (Is (I bk) h)) ∧ (Kn i).take (j + 1).toNat = (Kn i).take j.toNat ++ [bk] := fun i j a b c d e => by
  obtain ⟨q1, q2, q3⟩ := hPr i a b
  have hdv : l.length % 2 ^ i.toNat = 0 := by
   rw [hN, ← q3, ← Int.natCast_emod] at c; omega
  have hdiv : l.length / 2 ^ i.toNat * 2 ^ i.toNat = l.length := Nat.div_mul_cancel (Nat.dvd_of_mod_eq_zero hdv)
  obtain ⟨s, hs⟩ : ∃ s, s = l.length / 2 ^ i.toNat := ⟨_, rfl⟩
  rw [← hs] at hdiv
  have hS : N / Pw i = (s : Nat) := by rw [hN, ← q3, hs, ← Int.natCast_ediv]
  have hjn : ((j.toNat : Nat) : Int) = j := by omega
  have e1 : j * (s : Nat) = ((j.toNat * s : Nat) : Int) := by rw [Int.natCast_mul, hjn]
  have e2 : (j + 1) * (s : Nat) = (((j.toNat + 1) * s : Nat) : Int) := by rw [Int.natCast_mul, Int.natCast_add, hjn]; rfl
  have hb : (j.toNat + 1) * s ≤ l.length := by
   rw [← hdiv, Nat.mul_comm s]
   exact Nat.mul_le_mul_right _ (by omega)
  have hsm : (j.toNat + 1) * s = j.toNat * s + s := Nat.succ_mul _ _
  have hs2 : s ≤ 1024 := by rw [hs]; exact Nat.le_trans (Nat.div_le_self _ _) hl
  have hxl : (partL l s j.toNat).length ≤ 1024 := by rw [partL, List.length_take, List.length_drop]; omega
  have hxf : Far33 (partL l s j.toNat) := fun k hk => hfar _ (by
   have : (partL l s j.toNat).getD k 0 ∈ partL l s j.toNat := mem_getD.2 ⟨k, hk, rfl⟩
   generalize (partL l s j.toNat).getD k 0 = y at *
   rw [partL] at this
   exact List.mem_of_mem_drop (List.mem_of_mem_take this))
  refine ⟨(s : Nat), j * (s : Nat), (j + 1) * (s : Nat), (bestk (partL l s j.toNat) : Nat), partL l s j.toNat, hS.symm, rfl, rfl, by omega, by omega, by rw [e1]; omega, by rw [e1, e2]; omega, by rw [e2, hN]; omega, ?_, fun h => rleast_spec _ h hxl hxf, ?_⟩
  ·rw [e1, e2, partL, Int.toNat_natCast, show ((((j.toNat + 1) * s : Nat) : Int) - ((j.toNat * s : Nat) : Int)).toNat = s by omega]
  ·rw [hKn, show (j + 1).toNat = j.toNat + 1 by omega, takeI_snoc _ _ (by rw [ksL_len]; omega), ksL_get _ _ _ (by omega), ← hs]
 have hKl : ∀ i : Int, 0 ≤ i → i ≤ 3 → ((Kn i).length : Int) = Pw i := fun i a b => by
  obtain ⟨q1, q2, q3⟩ := hPr i a b
  rw [hKn, ksL_len]; exact q3
 rw [r1, r2]
 clear hF hP hK hB hKn hBn hPw r1 r2 hf hfar
 refine pure0 ?_ rfl rfl h
 refine wlk Tryz.f61 ?_
 unhygienic intros
 have hln : lnI l = N := by rw [hk.lnI_eq]; omega
 (conv => cbv)
 repeat' (first | assumption | ((first | rw [hln] | refine stp ?_ | refine stpB (fun _ => ?_) (fun _ => ?_)) <;> (conv => cbv)) | exact stpF | fail)
 obtain ⟨Ko, hKo0, hKo⟩ : ∃ Ko : Int → List Int, Ko 0 = [] ∧ ∀ i, 1 ≤ i → Ko i = Kq i := ⟨fun i => if i = 0 then [] else Kq i, if_pos rfl, fun i hi => if_neg (by omega)⟩
 have wk2 : ∀ (h : Heap) (x : Int) (v v' : AVal), Wk h v v' → ∀ m : Nat, Wk h (([.int .i64 x, v] : List AVal).getD m .junk) (([.int .i64 x, v'] : List AVal).getD m .junk) := fun h x v v' hv m => by
  rcases m with _ | _ | m
  ·exact Wk.refl _ _
  ·exact hv
  ·exact Wk.refl _ _
 refine hk.loopI (loop_rule (α := Int) (fun i => [(0, .ls (.il .i64 l) .any), (2, .ptr 0 0), (3, .ptr 1 0), (4, .int .i64 i)]) (fun i => [.box [.int .i64 0, .ls .nl .nil], .box [.int .i64 (Pq i), .ls (.il .i64 (Ko i)) .any]])
  (fun i => 0 ≤ i ∧ i ≤ 4) (fun i => (4 - i).toNat) 0 ⟨by omega, by omega⟩ ?_ ?_)
 ·rw [hKo0, hPz]
  refine Gh.trans (Gh.ghost (GE_wkBox 1 [.int .i64 0, .ls .nl .nil] [.int .i64 0, .ls (.il .i64 []) .any] rfl rfl (wk2 _ _ _ _ (Wk.nilL _ _))) (Nat.le_of_ble_eq_true rfl)) (Gh.tm ?_)
  repeat' (first | exact Holds.nil _ _ | refine Holds.cons (Wk.refl _ _) ?_)
 intro i ⟨hi, hi2⟩ Q' hb hx hr
 by_cases h4 : i = 4
 ·subst h4
  rw [hKo 4 (by decide)]
  (conv => cbv)
  repeat' (first | assumption | ((first | rw [hln] | refine hx _ _ ?_ | refine stp ?_ | refine stpB (fun _ => ?_) (fun _ => ?_)) <;> (conv => cbv)) | exact stpF | fail)
  all_goals exact hk.fin0 rfl rfl (Wk.refl _ _)
 have hi3 : i ≤ 3 := by omega
 have hpi := fun h => hpw i h hi3
 obtain ⟨q1, q2, _⟩ := hPr i hi hi3
 have hin := fun j => hin i j hi hi3
 have hKl := hKl i hi hi3
 obtain ⟨W, hW⟩ : ∃ W, W = Pw i := ⟨_, rfl⟩
 simp only [← hW] at hpi hin hKl
 rw [← hW] at q1 q2
 have hmod : i2 .rem .i64 N W = N % W := by rw [hk.i2_rem, Int.tmod_eq_emod_of_nonneg (by omega)]
 have hW0 : W ≠ 0 := by omega
 obtain ⟨X, hX⟩ : ∃ X, X = N % W := ⟨_, rfl⟩
 rw [← hX] at hmod
 by_cases hdv : X = 0
 case neg =>
  have hs2 : 1 ≤ i → Pq (i + 1) = Pq i ∧ Kq (i + 1) = Kq i := fun h1 => (hst i h1 hi3).2 (fun c => hdv (by rw [hX, hW]; exact c.1))
  have h1 : 1 ≤ i := by
   by_cases e : i = 0
   ·subst e
    exact absurd (by rw [hX, hW]; exact hz.2.2) hdv
   ·omega
  obtain ⟨a1, a2⟩ := hs2 h1
  rw [hKo i h1]
  obtain ⟨P0, hP0⟩ : ∃ x, x = Pq i := ⟨_, rfl⟩
  obtain ⟨K0, hK0⟩ : ∃ x, x = Kq i := ⟨_, rfl⟩
  rw [← hP0, ← hK0]
  rw [← hP0] at a1
  rw [← hK0] at a2
  (conv => cbv)
  repeat' (first | assumption | ((first | rw [hln] | rw [hmod] | refine stp ?_ | refine stpB (fun _ => ?_) (fun _ => ?_)) <;> (conv => cbv)) | exact stpF | fail)
  refine hb (i + 1) _ ⟨by omega, by omega⟩ (by omega) ?_
  rw [hKo (i + 1) (by omega), a1, a2]
  refine Gh.tm ?_
  repeat' (first | exact Holds.nil _ _ | refine Holds.cons (Wk.refl _ _) ?_ | refine Holds.cons (Wk.of_eq ?_) ?_)
  all_goals first
   | (rw [← hk.add64 i 1 (by omega) (by omega)]; rfl)
   | rfl
   | skip
 have hin := fun j => hin j (by rw [← hX]; exact hdv)
 have hdv2 : i2 .quo .i64 N W = N / W := by rw [hk.i2_quo, Int.tdiv_eq_ediv_of_nonneg (by omega), wrap64 (by have := Int.ediv_nonneg (show 0 ≤ N by omega) (show 0 ≤ W by omega); omega) (by have := Int.ediv_le_self W (show 0 ≤ N by omega); omega)]
 obtain ⟨S, hS⟩ : ∃ S, S = N / W := ⟨_, rfl⟩
 rw [← hS] at hdv2
 simp only [← hS] at hin
 obtain ⟨P0, hP0⟩ : ∃ x, x = Pq i := ⟨_, rfl⟩
 obtain ⟨K0, hK0⟩ : ∃ x, x = Ko i := ⟨_, rfl⟩
 rw [← hP0, ← hK0]
 (conv => cbv)
 repeat' (first | assumption | ((first | rw [hln] | rw [hmod] | rw [hdv2] | refine stp ?_ | refine stpB (fun _ => ?_) (fun _ => ?_)) <;> (conv => cbv)) | exact stpF | fail)
 have hS0 : 0 ≤ S ∧ S ≤ 1024 := by
  obtain ⟨S', a, b, bk, x, c1, c2', c3, c4, c5, _⟩ := hin 0 (by omega) (by omega)
  omega
 obtain ⟨Kt, hKt⟩ : ∃ Kt : Int → List Int, ∀ j, Kt j = (Kn i).take j.toNat := ⟨_, fun _ => rfl⟩
 simp only [← hKt] at hin
 have hKt0 : Kt 0 = [] := by rw [hKt]; rfl
 have hKtl : ∀ j : Int, 0 ≤ j → j ≤ W → ((Kt j).length : Int) = j := fun j a b => by rw [hKt, List.length_take]; omega
 have hKtW : Kt W = Kn i := by rw [hKt, List.take_of_length_le (by omega)]
 refine hk.loopI (loop_rule (α := Int) (fun j => [(0, .ls (.il .i64 l) .any), (2, .ptr 0 0), (3, .ptr 1 0), (4, .int .i64 i), (5, .int .i64 W), (6, .ptr 2 0), (7, .int .i64 S), (8, .int .i64 j)]) (fun j => [.box [.int .i64 0, .ls .nl .nil], .box [.int .i64 P0, .ls (.il .i64 K0) .any], .box [.int .i64 i, .ls (.il .i64 (Kt j)) (.tok 3 j.toNat)], .tok j.toNat])
  (fun j => 0 ≤ j ∧ j ≤ W) (fun j => (W - j).toNat) 0 ⟨by omega, by omega⟩ ?_ ?_)
 ·rw [hKt0]
  refine Gh.trans (Gh.ghost (GE.thaw 2 1 [.int .i64 i, .ls .nl .nil] (.il .i64 []) rfl rfl rfl trivial) (Nat.le_of_ble_eq_true rfl)) (Gh.tm ?_)
  repeat' (first | exact Holds.nil _ _ | refine Holds.cons (Wk.refl _ _) ?_)
 intro j ⟨hj, hj2⟩ Q2 hb2 hx2 hr2
 by_cases hjW : j < W
 ·obtain ⟨S', a, b, bk, x, c1, c2', c3, c4, c5, a0, ab, bN, hx0, hlst, hKs⟩ := hin j hj hjW
  have c1 := c1.symm
  subst c1
  obtain ⟨j1, hj1⟩ : ∃ x, x = j + 1 := ⟨_, rfl⟩
  rw [← hj1] at c3 hKs
  have t1 : i2 .mul .i64 j S = a := by rw [c2']; exact hk.mul64 _ _ (by rw [← c2']; omega) (by rw [← c2']; omega)
  have t2 : i2 .add .i64 j 1 = j1 := by rw [hj1]; exact hk.add64 _ _ (by omega) (by omega)
  have t3 : i2 .mul .i64 j1 S = b := by rw [c3]; exact hk.mul64 _ _ (by rw [← c3]; omega) (by rw [← c3]; omega)
  have t4 : sbI l a b = x := by rw [hk.sbI_eq]; exact hx0
  obtain ⟨Y0, hY0⟩ : ∃ y, y = Kt j := ⟨_, rfl⟩
  obtain ⟨Y1, hY1⟩ : ∃ y, y = Kt j1 := ⟨_, rfl⟩
  obtain ⟨g, hg⟩ : ∃ g, g = j.toNat := ⟨_, rfl⟩
  have hap : apI Y0 [bk] = Y1 := by rw [hk.apI_eq, hY0, hY1, hKs]
  have hl0 : lnI Y0 = j := by rw [hk.lnI_eq, hY0, hKtl j hj hj2]
  have hl1 : lnI [bk] = 1 := hk.lnI_eq _
  have hl2 : lnI Y1 = j1 := by rw [hk.lnI_eq, hY1, hKtl j1 (by omega) (by omega)]
  have hbq : Nat.beq g g = true := Nat.beq_refl g
  conv at hbq => cbv
  rw [← hY0, ← hg]
  clear c2' c3 hx0 hKs hin hst hFb hbits hKl hpi hpw hz
  (conv => cbv)
  repeat' (first | assumption | ((first | rw [hln] | rw [t1] | rw [t2] | rw [t3] | rw [t4] | rw [hap] | rw [hl0] | rw [hl1] | rw [hl2] | rw [hbq] | refine stp ?_ | refine stpB (fun _ => ?_) (fun _ => ?_)) <;> (conv => cbv)) | exact stpF | fail)
  subst hj1
  refine hb2 (j + 1) _ ⟨by omega, by omega⟩ (by omega) ?_
  rw [← hY1, show (j + 1).toNat = g + 1 by omega]
  refine Gh.low 4 (Nat.le_of_ble_eq_true rfl) ?_ rfl rfl rfl
  repeat' (first | exact Holds.nil _ _ | refine Holds.cons (Wk.refl _ _) ?_ | refine Holds.cons (Wk.of_eq ?_) ?_)
  all_goals first
   | (rw [← hk.add64 j 1 (by omega) (by omega)]; rfl)
   | rfl
   | skip
 ·have hjW2 : j = W := by omega
  subst hjW2
  clear hb2 hr2 hin hKt0 hKtl
  rw [hKtW]
  clear hKtW hKt
  obtain ⟨KN, hKN⟩ : ∃ x, x = Kn i := ⟨_, rfl⟩
  rw [← hKN]
  obtain ⟨g, hg⟩ : ∃ g, g = j.toNat := ⟨_, rfl⟩
  rw [← hg]
  by_cases hi0 : i = 0
  ·subst hi0
   (conv => cbv)
   repeat' (first | assumption | ((first | refine hx2 _ _ ?_ | refine stp ?_ | refine stpB (fun _ => ?_) (fun _ => ?_)) <;> (conv => cbv)) | exact stpF | fail)
   refine hb (0 + 1) _ ⟨by omega, by omega⟩ (by omega) ?_
   rw [hKo (0 + 1) (by omega), show Pq (0 + 1) = 0 from hz.1, show Kq (0 + 1) = Kn 0 from hz.2.1, ← hKN]
   refine Gh.trans (Gh.ghost (GE_wkBox 1 [.int .i64 0, .ls (.il .i64 KN) (.tok 3 g)] [.int .i64 0, .ls (.il .i64 KN) .any] rfl rfl (wk2 _ _ _ _ (Wk.any _ _ _))) (Nat.le_of_ble_eq_true rfl)) ?_
   refine Gh.low 2 (Nat.le_of_ble_eq_true rfl) ?_ rfl rfl rfl
   repeat' (first | exact Holds.nil _ _ | refine Holds.cons (Wk.refl _ _) ?_ | refine Holds.cons (Wk.of_eq ?_) ?_)
   all_goals first
    | (rw [← hk.add64 0 1 (by omega) (by omega)]; rfl)
    | rfl
    | skip
  ·have h1 : 1 ≤ i := by omega
   obtain ⟨f0, f1, f2, f3, f4⟩ := hFb i h1 (by omega)
   have hKo1 : K0 = Kq i := by rw [hK0, hKo i h1]
   have hb1 : ∀ h, Does PP 48 [LI l, .agg [.int .i64 i, .ls (.il .i64 KN) (.tok 3 g)]] h (Is (I (Bn i)) h) := fun h => by
    rw [hKN]
    exact (hbits i h hi hi3 (by rw [← hW, ← hX]; exact hdv)).wk (WkL.cons (.refl _ _) (WkL.cons (Wk.agg ⟨.refl _ _, Wk.any _ _ _, trivial⟩) WkL.nil))
   have hb0 : ∀ h, Does PP 48 [LI l, .agg [.int .i64 P0, .ls (.il .i64 K0) .any]] h (Is (I (Bq i)) h) := fun h => by
    rw [hKo1, f3, f4, hP0]
    exact hbits (Pq i) h f0 f1 f2
   obtain ⟨s1, s2⟩ := hst i h1 hi3
   have s1 := s1 (by rw [← hW, ← hX]; exact hdv)
   obtain ⟨B0, hB0⟩ : ∃ x, x = Bq i := ⟨_, rfl⟩
   obtain ⟨B1, hB1⟩ : ∃ x, x = Bn i := ⟨_, rfl⟩
   rw [← hP0, ← hKo1] at s2
   simp only [← hB0] at hb0
   simp only [← hB1] at hb1
   rw [← hB0, ← hB1] at s1 s2
   rw [← hKN] at s1
   clear f0 f1 f2 f3 f4 hst hFb hbits hKl hpi hpw hz hKo1 hPz hin hKo0
   by_cases hlt : B1 < B0
   ·obtain ⟨a1, a2⟩ := s1 hlt
    (conv => cbv)
    repeat' (first | assumption | ((first | refine hx2 _ _ ?_ | refine stp ?_ | refine stpB (fun _ => ?_) (fun _ => ?_)) <;> (conv => cbv)) | exact stpF | fail)
    refine hb (i + 1) _ ⟨by omega, by omega⟩ (by omega) ?_
    rw [hKo (i + 1) (by omega), a1, a2]
    refine Gh.trans (Gh.ghost (GE_wkBox 1 [.int .i64 i, .ls (.il .i64 KN) (.tok 3 g)] [.int .i64 i, .ls (.il .i64 KN) .any] rfl rfl (wk2 _ _ _ _ (Wk.any _ _ _))) (Nat.le_of_ble_eq_true rfl)) ?_
    refine Gh.low 2 (Nat.le_of_ble_eq_true rfl) ?_ rfl rfl rfl
    repeat' (first | exact Holds.nil _ _ | refine Holds.cons (Wk.refl _ _) ?_ | refine Holds.cons (Wk.of_eq ?_) ?_)
    all_goals first
     | (rw [← hk.add64 i 1 (by omega) (by omega)]; rfl)
     | rfl
     | skip
   ·obtain ⟨a1, a2⟩ := s2 (fun c => hlt c.2)
    (conv => cbv)
    repeat' (first | assumption | ((first | refine hx2 _ _ ?_ | refine stp ?_ | refine stpB (fun _ => ?_) (fun _ => ?_)) <;> (conv => cbv)) | exact stpF | fail)
    refine hb (i + 1) _ ⟨by omega, by omega⟩ (by omega) ?_
    rw [hKo (i + 1) (by omega), a1, a2]
    refine Gh.low 2 (Nat.le_of_ble_eq_true rfl) ?_ rfl rfl rfl
    repeat' (first | exact Holds.nil _ _ | refine Holds.cons (Wk.refl _ _) ?_ | refine Holds.cons (Wk.of_eq ?_) ?_)
    all_goals first
     | (rw [← hk.add64 i 1 (by omega) (by omega)]; rfl)
     | rfl
     | skip
end Go.Proofs.YtoeekjddeknmbaaGreat
