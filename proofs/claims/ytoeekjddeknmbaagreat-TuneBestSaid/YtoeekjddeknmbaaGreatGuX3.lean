/-
  Contracts of functions of the program, proved over the abstract machine of the Al texts.
-/
import Derived.Test.YtoeekjddeknmbaaGreatTryTab
import Derived.Test.YtoeekjddeknmbaaGreatAl4
import Derived.Test.YtoeekjddeknmbaaGreatBaseX
import Derived.Test.YtoeekjddeknmbaaGreatRkX
import Derived.Test.YtoeekjddeknmbaaGreatBsX1
import Derived.Test.YtoeekjddeknmbaaGreatBsX2
import Derived.Test.YtoeekjddeknmbaaGreatBsX3
import Derived.Test.YtoeekjddeknmbaaGreatTkX3
import Derived.Test.YtoeekjddeknmbaaGreatNmX
import Derived.Test.YtoeekjddeknmbaaGreatTuX1
import Derived.Test.YtoeekjddeknmbaaGreatGuX1
import Derived.Test.YtoeekjddeknmbaaGreatGuX2
import Derived.Test.YtoeekjddeknmbaaGreatPpZ
set_option maxHeartbeats 4000000
set_option maxRecDepth 20000
set_option linter.unusedSimpArgs false
set_option linter.unusedVariables false
open Go Go.AL
namespace Go.Proofs.YtoeekjddeknmbaaGreat
theorem torder_spec (n : Int) (h : Heap) : Does PP 17 [I n] h (Is (.bool (decide (0 ≤ n) && decide (n ≤ 16))) h) := by
 obtain ⟨r, hr0⟩ : ∃ r, r = (decide (0 ≤ n) && decide (n ≤ 16)) := ⟨_, rfl⟩
 rw [← hr0]
 refine wlk Tryz.f17 ?_
 unhygienic intros
 (conv => cbv)
 refine hk.brGeq (fun h => ?_) (fun h => ?_)
 ·(conv => cbv)
  exact hk.finB (by rw [hr0, hk.c2_leq, decide_eq_true (show 0 ≤ n from h), Bool.true_and])
 ·(conv => cbv)
  exact hk.finB (by rw [hr0, decide_eq_false (show ¬ 0 ≤ n from h), Bool.false_and])
theorem tloud_spec (n : Int) (h : Heap) : Does PP 78 [I n] h (Is (.bool (decide (n < -67108864) || decide (n > 67108864))) h) := by
 obtain ⟨r, hr0⟩ : ∃ r, r = (decide (n < -67108864) || decide (n > 67108864)) := ⟨_, rfl⟩
 rw [← hr0]
 refine wlk Tryz.f78 ?_
 unhygienic intros
 (conv => cbv)
 refine hk.brLss (fun h => ?_) (fun h => ?_)
 ·(conv => cbv)
  exact hk.finB (by rw [hr0]; simp [h])
 ·(conv => cbv)
  exact hk.finB (by rw [hr0, hk.c2_gtr]; simp [h])
theorem small_quiet {l : List Int} (hs : Small26 l) : l.any (fun n => decide (n < -67108864) || decide (n > 67108864)) = false := by
 rw [List.any_eq_false]
 intro x hx
 obtain ⟨j, hj, rfl⟩ := mem_getD.1 hx
 have := hs j hj
 rw [Bool.or_eq_true, decide_eq_true_eq, decide_eq_true_eq]; omega
theorem rfL_last (l : List Int) (m : Nat) (h : l.length = m + 1) : (rfL l l.length).getD m 0 = refl_ (m : Nat) (l.getD m 0) := by
 rw [h, rfL, List.getD_eq_getElem?_getD, List.getElem?_append_right (by rw [rfL_len]; exact Nat.le_refl _), rfL_len, Nat.sub_self]
 rfl
theorem tguess_spec (l : List Int) (o : Int) (h : Heap) (h1 : 1 ≤ l.length) (h2 : l.length ≤ 1024) (hs : Small26 l) (o0 : 0 ≤ o) (o1 : o ≤ 16) : Does PP 44 [LI l, I o] h (Is (.tup [LI (guess l o.toNat), I 0]) h) := by
 have hor := fun h => torder_spec o h
 rw [decide_eq_true o0, decide_eq_true o1, Bool.true_and] at hor
 have hld := fun h => contains_spec l 78 [] (fun n => decide (n < -67108864) || decide (n > 67108864)) h (by omega) (fun n => tloud_spec n h)
 rw [small_quiet hs] at hld
 obtain ⟨n, hn⟩ : ∃ n : Int, n = (l.length : Nat) := ⟨_, rfl⟩
 have hsc := tscaled_spec l n hn (by omega) (by omega) hs
 have hsc2 : ∀ x : List Int, Does PP 79 [LI l] [.rw 1 (.il .i64 x)] (Is (.sl 1 1 0 n) [.rw 1 (.il .i64 x), .rw 1 (.il .i64 (scl l))]) := fun x =>
  hsc.renI [] rfl (by decide) rfl trivial rfl rfl rfl rfl rfl rfl
 obtain ⟨F, hF⟩ : ∃ F : Int → List Int, ∀ i, F i = (guG l i.toNat).1 := ⟨_, fun _ => rfl⟩
 obtain ⟨B, hB⟩ : ∃ F : Int → List Int, ∀ i, F i = (guG l i.toNat).2.1 := ⟨_, fun _ => rfl⟩
 obtain ⟨Q, hQ⟩ : ∃ F : Int → List Int, ∀ i, F i = guess l i.toNat := ⟨_, fun _ => rfl⟩
 have hQ0 : Q 0 = [] := by rw [hQ]; rfl
 have hQl : ∀ i : Int, 0 ≤ i → ((Q i).length : Int) = i := fun i a => by rw [hQ, guess_len]; omega
 have hF0 : F 0 = scl l := by rw [hF]; rfl
 have hB0 : B 0 = scl l := by rw [hB]; rfl
 have hst : ∀ i : Int, 0 ≤ i → i < o → ∃ (w x k : Int) (Z : List Int), Q (i + 1) = Q i ++ [x] ∧ (Z.length : Int) = i + 1 ∧ Z.getD i.toNat 0 = k ∧
  Does PP 81 [lad n, I i] [.rw 1 (.il .i64 (F i)), .rw 1 (.il .i64 (B i)), .box [.sl 0 1 0 n, .sl 1 1 0 n], .tok 0] (Is (I w) [.rw 1 (.il .i64 (F i)), .rw 1 (.il .i64 (B i)), .box [.sl 0 1 0 n, .sl 1 1 0 n], .tok 0]) ∧
  (∀ h, Does PP 80 [I i, I w] h (Is (I x) h)) ∧
  (∀ h, Does PP 83 [LI (Q (i + 1))] h (Is (LI Z) h)) ∧
  Does PP 82 [lad n, I i, I k] [.rw 1 (.il .i64 (F i)), .rw 1 (.il .i64 (B i)), .box [.sl 0 1 0 n, .sl 1 1 0 n], .tok 1, .tok 0] (Is (.tup []) [.rw 1 (.il .i64 (F (i + 1))), .rw 1 (.il .i64 (B (i + 1))), .box [.sl 0 1 0 n, .sl 1 1 0 n], .tok 1, .tok 0]) := fun i a c => by
  obtain ⟨l1, l2, l3⟩ := guG_len l i.toNat
  obtain ⟨b1, b2⟩ := guG_bd hs i.toNat
  have e1 : (i + 1).toNat = i.toNat + 1 := by omega
  have ei : ((i.toNat : Nat) : Int) = i := by omega
  have hwr := wishK_rg b1 b2 i.toNat (by omega)
  have hwi := wish_spec (guG l i.toNat).1 (guG l i.toNat).2.1 n i (by omega) (by omega) (by omega) b1 b2 a (by omega)
  have hcli := fun k hkr => climb_spec (guG l i.toNat).1 (guG l i.toNat).2.1 n i k (by omega) (by omega) (by omega) (by omega) b1 b2 a (by omega) hkr
  have hFs : F (i + 1) = cliF (guG l i.toNat).1 (guG l i.toNat).2.1 i.toNat (refl_ i (nearI i (wishK (guG l i.toNat).1 (guG l i.toNat).2.1 i.toNat))) := by
   rw [hF, e1, guG, ei]
  have hBs : B (i + 1) = cliB (guG l i.toNat).1 (guG l i.toNat).2.1 i.toNat (refl_ i (nearI i (wishK (guG l i.toNat).1 (guG l i.toNat).2.1 i.toNat))) := by
   rw [hB, e1, guG, ei]
  have hQs : Q (i + 1) = Q i ++ [nearI i (wishK (guG l i.toNat).1 (guG l i.toNat).2.1 i.toNat)] := by rw [hQ, hQ, e1, guess_succ, ei]
  have hQ1l : (Q (i + 1)).length = i.toNat + 1 := by rw [hQ, guess_len, e1]
  have hix : IxOK (Q (i + 1)) := by rw [hQ]; exact guess_ok l _ (by omega)
  have hQil := hQl i a
  rw [hF, hB]
  generalize (guG l i.toNat).1 = f at *
  generalize (guG l i.toNat).2.1 = b at *
  generalize wishK f b i.toNat = w at *
  have hnr := nearI_rg i w
  have hne := fun h => lnear_spec i w h (by omega) (by omega)
  generalize nearI i w = x at *
  have hkr := refl_rg i x hnr.1 hnr.2
  have hcli := hcli _ hkr
  rw [← hFs, ← hBs] at hcli
  have hkk : refl_ i ((Q (i + 1)).getD i.toNat 0) = refl_ i x := by
   congr 1
   rw [hQs, List.getD_eq_getElem?_getD, List.getElem?_append_right (by omega), show i.toNat - (Q i).length = 0 by omega]
   rfl
  generalize refl_ i x = k at *
  refine ⟨w, x, k, rfL (Q (i + 1)) (Q (i + 1)).length, hQs, ?_, ?_, ?_, hne, ?_, ?_⟩
  ·rw [rfL_len]; omega
  ·rw [rfL_last _ _ hQ1l, ei]; exact hkk
  ·exact hwi.renI [0, 1] rfl (by decide) rfl ⟨rfl, rfl, trivial⟩ rfl rfl rfl rfl rfl rfl
  ·exact fun h => lreflect_spec _ h hix
  ·generalize F (i + 1) = f1 at *
   generalize B (i + 1) = b1 at *
   exact hcli.renI [0, 1] rfl (by decide) rfl ⟨rfl, rfl, trivial⟩ rfl rfl rfl rfl rfl rfl
 have hR : guess l o.toNat = Q o := (hQ o).symm
 rw [hR]
 obtain ⟨S, hS⟩ : ∃ S, S = scl l := ⟨_, rfl⟩
 simp only [← hS] at hsc hsc2 hF0 hB0
 have hsc2 := hsc2 S
 clear hR hF hB hQ hS hs
 refine pure0 ?_ rfl rfl h
 refine wlkS (fun f => Nat.beq f 79 || Nat.beq f 82) Tryz.f44 ?_
 unhygienic intros
 have hln := hk.lnI_eq
 have hgt := hk.gtI_eq
 have hap0 := hk.apI_eq
 have hl1 : ∀ x, lnI [x] = 1 := fun x => hk.lnI_eq _
 (conv => cbv)
 repeat' (first | assumption | ((first | refine hk.callA hsc ?_ | refine hk.callS hsc ?_ | refine hk.callA hsc2 ?_ | refine hk.callS hsc2 ?_ | refine stp ?_ | refine stpB (fun _ => ?_) (fun _ => ?_)) <;> (conv => cbv)) | exact stpF | fail)
 refine hk.loopI (loop_rule (α := Int) (fun i => [(4, .ls .nl .nil), (5, .int .i64 0), (6, .ptr 2 0), (7, .ls (.il .i64 (Q i)) (.tok 3 0)), (21, .int .i64 o), (22, .int .i64 i)])
  (fun i => [.rw 1 (.il .i64 (F i)), .rw 1 (.il .i64 (B i)), .box [.sl 0 1 0 n, .sl 1 1 0 n], .tok 0]) (fun i => 0 ≤ i ∧ i ≤ o) (fun i => (o - i).toNat) 0 ⟨by omega, by omega⟩ ?_ ?_)
 ·rw [hQ0, hF0, hB0]
  refine Gh.trans (Gh.thaw 7 (.il .i64 []) rfl trivial rfl) (Gh.tm ?_)
  repeat' (first | exact Holds.nil _ _ | refine Holds.cons (Wk.refl _ _) ?_)
 intro i ⟨hi, hi2⟩ Q' hb hx hr
 by_cases h2 : i < o
 ·obtain ⟨w, x, k, Z, hQs, hZl, hZg, hwi, hne, hrf, hcl⟩ := hst i hi h2
  have hrf2 : ∀ h, Does PP 83 [.ls (.il .i64 (Q (i + 1))) (.tok 3 1)] h (Is (LI Z) h) := fun h => (hrf h).wk (by repeat' (first | exact WkL.nil | refine WkL.cons (Wk.refl _ _) ?_ | refine WkL.cons (Wk.any _ _ _) ?_ | refine WkL.cons (Wk.nilL _ _) ?_))
  have lQ := hln (Q i)
  rw [hQl i hi] at lQ
  have aQ := hap0 (Q i) [x]
  rw [← hQs] at aQ
  have lZ := hln Z
  rw [hZl] at lZ
  have gZ := hgt Z i
  rw [hZg] at gZ
  obtain ⟨F0, hF00⟩ : ∃ x, x = F i := ⟨_, rfl⟩
  obtain ⟨B0, hB00⟩ : ∃ x, x = B i := ⟨_, rfl⟩
  obtain ⟨F1, hF10⟩ : ∃ x, x = F (i + 1) := ⟨_, rfl⟩
  obtain ⟨B1, hB10⟩ : ∃ x, x = B (i + 1) := ⟨_, rfl⟩
  obtain ⟨Q0, hQ00⟩ : ∃ x, x = Q i := ⟨_, rfl⟩
  obtain ⟨Q1, hQ10⟩ : ∃ x, x = Q (i + 1) := ⟨_, rfl⟩
  simp only [← hF00, ← hB00, ← hF10, ← hB10, ← hQ00, ← hQ10] at hwi hcl hrf2 lQ aQ ⊢
  obtain ⟨i1, hi1⟩ : ∃ x, x = i + 1 := ⟨_, rfl⟩
  rw [← hi1] at lZ
  have e1 : i < i1 := by omega
  clear hrf hQs hZg
  (conv => cbv)
  repeat' (first | assumption | ((first | rw [lQ] | rw [hl1] | rw [aQ] | rw [lZ] | rw [gZ] | refine hk.idxI hi e1 ?_ | refine hk.callA hwi ?_ | refine hk.callA hcl ?_ | refine hk.callS hcl ?_ | refine stp ?_ | refine stpB (fun _ => ?_) (fun _ => ?_)) <;> (conv => cbv)) | exact stpF | fail)
  refine hb (i + 1) _ ⟨by omega, by omega⟩ (by omega) ?_
  rw [← hF10, ← hB10, ← hQ10]
  refine Gh.retok 3 1 rfl (Nat.le_of_ble_eq_true rfl) ?_ rfl rfl
  repeat' (first | exact HoldsT.nil _ _ _ _ | refine HoldsT.tok rfl ?_ | refine HoldsT.cons (Wk.refl _ _) rfl ?_ | refine HoldsT.cons (Wk.of_eq ?_) rfl ?_)
  all_goals first
   | (rw [← hk.add64 i 1 (by omega) (by omega)]; rfl)
   | rfl
   | skip
 ·have : i = o := by omega
  subst this
  (conv => cbv)
  repeat' (first | assumption | ((first | refine hx _ _ ?_ | refine stp ?_ | refine stpB (fun _ => ?_) (fun _ => ?_)) <;> (conv => cbv)) | exact stpF | fail)
  all_goals exact hk.fin0 rfl rfl (Wk.tup ⟨Wk.any _ _ _, .refl _ _, trivial⟩)
structure GuS (f b : List Int) (n m w k : Int) (N D : Int → Int) (X Y : Int → List Int) (J : Int) : Prop where
 j1 : m + 1 ≤ J
 j2 : n ≤ J
 j3 : J = n ∨ J = m + 1
 n0 : N (m + 1) = 0
 d0 : D (m + 1) = 0
 nr : ∀ i, m + 1 ≤ i → i ≤ J → -20000000000000 ≤ N i ∧ N i ≤ 20000000000000
 dr : ∀ i, m + 1 ≤ i → i ≤ J → 0 ≤ D i ∧ D i ≤ 40000000000000
 st : ∀ i : Int, m + 1 ≤ i → i < n → ∃ x y P Q1 Q2 : Int, x = f.getD i.toNat 0 ∧ y = b.getD (i - 1).toNat 0 ∧ P = x * y ∧ Q1 = x * x ∧ Q2 = y * y ∧ N (i + 1) = N i + P ∧ D (i + 1) = D i + (Q1 + Q2) ∧
  (-17179869184 ≤ P ∧ P ≤ 17179869184) ∧ (0 ≤ Q1 ∧ Q1 ≤ 17179869184) ∧ (0 ≤ Q2 ∧ Q2 ≤ 17179869184)
 w0 : D J = 0 → w = 0
 w1 : ¬ D J = 0 → w = (-32768 * N J).tdiv (D J)
 wr : -600000000000000000 ≤ w ∧ w ≤ 600000000000000000
 kr : -16384 ≤ k ∧ k ≤ 16384
 xl : ∀ i, ((X i).length : Int) = n
 yl : ∀ i, ((Y i).length : Int) = n
 x0 : X (m + 1) = f
 y0 : Y (m + 1) = b
 cl : ∀ i : Int, m + 1 ≤ i → i < n → ∃ x y P Q : Int, x = f.getD i.toNat 0 ∧ y = b.getD (i - 1).toNat 0 ∧ P = k * y ∧ Q = k * x ∧
  (X i).set i.toNat (clipZ (x + rnd P)) = X (i + 1) ∧ (Y i).set i.toNat (clipZ (y + rnd Q)) = Y (i + 1) ∧
  (-131072 ≤ x ∧ x ≤ 131072) ∧ (-131072 ≤ y ∧ y ≤ 131072) ∧ (-2147483648 ≤ P ∧ P ≤ 2147483648) ∧ (-2147483648 ≤ Q ∧ Q ≤ 2147483648)
theorem guS {f b : List Int} {n m : Int} (hn : n = (f.length : Nat)) (hnb : n = (b.length : Nat)) (hn2 : n ≤ 1024) (hf : Bd17 f) (hb : Bd17 b) (h0 : 0 ≤ m) (h1 : m ≤ 100) :
 ∃ N D X Y J, GuS f b n m (wishK f b m.toNat) (refl_ m (nearI m (wishK f b m.toNat))) N D X Y J ∧ X J = cliF f b m.toNat (refl_ m (nearI m (wishK f b m.toNat))) ∧ Y J = cliB f b m.toNat (refl_ m (nearI m (wishK f b m.toNat))) := by
 have hwr := wishK_rg hf hb m.toNat (by omega)
 have hnr := nearI_rg m (wishK f b m.toNat)
 have hkr := refl_rg m _ hnr.1 hnr.2
 obtain ⟨J, hJ⟩ : ∃ x : Int, x = if n < m + 1 then m + 1 else n := ⟨_, rfl⟩
 have hJ2 : m + 1 ≤ J ∧ n ≤ J ∧ (J = n ∨ J = m + 1) ∧ (J - (m + 1)).toNat = f.length - (m.toNat + 1) := by split at hJ <;> omega
 generalize refl_ m (nearI m (wishK f b m.toNat)) = k at *
 refine ⟨fun i => wN f b (m.toNat + 1) (i - (m + 1)).toNat, fun i => wD f b (m.toNat + 1) (i - (m + 1)).toNat,
  fun i => mixL f.length (fun i => if m.toNat < i then clipZ (f.getD i 0 + rnd (k * b.getD (i - 1) 0)) else f.getD i 0) (fun j => f.getD j 0) i.toNat,
  fun i => mixL b.length (fun i => if m.toNat < i then clipZ (b.getD (i - 1) 0 + rnd (k * f.getD i 0)) else b.getD i 0) (fun j => b.getD j 0) i.toNat, J,
  ⟨hJ2.1, hJ2.2.1, hJ2.2.2.1, ?_, ?_, ?_, ?_, ?_, ?_, ?_, hwr, hkr, ?_, ?_, ?_, ?_, ?_⟩, ?_, ?_⟩
 ·(try simp only); rw [show (m + 1 - (m + 1)).toNat = 0 by omega]; rfl
 ·(try simp only); rw [show (m + 1 - (m + 1)).toNat = 0 by omega]; rfl
 ·intro i a c
  have := wN_rg hf hb (m.toNat + 1) (i - (m + 1)).toNat
  (try simp only); omega
 ·intro i a c
  have := wD_rg hf hb (m.toNat + 1) (i - (m + 1)).toNat
  (try simp only); omega
 ·intro i a c
  refine ⟨_, _, _, _, _, rfl, rfl, rfl, rfl, rfl, ?_, ?_, mul17 (bd17_get hf _) (bd17_get hb _), sq17 (bd17_get hf _), sq17 (bd17_get hb _)⟩
  ·(try simp only); rw [show (i + 1 - (m + 1)).toNat = (i - (m + 1)).toNat + 1 by omega, wN, show m.toNat + 1 + (i - (m + 1)).toNat = i.toNat by omega, show i.toNat - 1 = (i - 1).toNat by omega]
  ·(try simp only); rw [show (i + 1 - (m + 1)).toNat = (i - (m + 1)).toNat + 1 by omega, wD, show m.toNat + 1 + (i - (m + 1)).toNat = i.toNat by omega, show i.toNat - 1 = (i - 1).toNat by omega]
 ·intro h
  simp only [hJ2.2.2.2] at h
  rw [wishK, if_pos h]
 ·intro h
  simp only [hJ2.2.2.2] at h ⊢
  rw [wishK, if_neg h]
 ·intro i; simp only [mixL_len]; omega
 ·intro i; simp only [mixL_len]; omega
 ·simp only [mixL]
  refine Eq.trans (List.map_congr_left fun j hj => ?_) (self_map f)
  split
  ·rw [if_neg (by omega)]
  ·rfl
 ·simp only [mixL]
  refine Eq.trans (List.map_congr_left fun j hj => ?_) (self_map b)
  split
  ·rw [if_neg (by omega)]
  ·rfl
 ·intro i a c
  have e1 := mixL_set f.length (fun i => if m.toNat < i then clipZ (f.getD i 0 + rnd (k * b.getD (i - 1) 0)) else f.getD i 0) (fun j => f.getD j 0) i.toNat (by omega)
  have e2 := mixL_set b.length (fun i => if m.toNat < i then clipZ (b.getD (i - 1) 0 + rnd (k * f.getD i 0)) else b.getD i 0) (fun j => b.getD j 0) i.toNat (by omega)
  try simp only at e1 e2
  rw [if_pos (by omega), show i.toNat - 1 = (i - 1).toNat by omega] at e1 e2
  refine ⟨_, _, _, _, rfl, rfl, rfl, rfl, ?_, ?_, bd17_get hf _, bd17_get hb _, mulk hkr (bd17_get hb _), mulk hkr (bd17_get hf _)⟩
  ·(try simp only); rw [e1, show (i + 1).toNat = i.toNat + 1 by omega]
  ·(try simp only); rw [e2, show (i + 1).toNat = i.toNat + 1 by omega]
 ·simp only [mixL, cliF]
  refine List.map_congr_left fun j hj => ?_
  rw [List.mem_range] at hj
  rw [if_pos (by omega)]
 ·simp only [mixL, cliB]
  refine List.map_congr_left fun j hj => ?_
  rw [List.mem_range] at hj
  rw [if_pos (by omega)]
end Go.Proofs.YtoeekjddeknmbaaGreat
