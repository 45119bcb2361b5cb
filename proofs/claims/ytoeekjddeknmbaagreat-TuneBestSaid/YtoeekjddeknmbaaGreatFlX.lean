/-
  Contracts of functions of the program, proved over the abstract machine of the Al texts.
-/
import Derived.Test.YtoeekjddeknmbaaGreatTryTab
import Derived.Test.YtoeekjddeknmbaaGreatAl4
import Derived.Test.YtoeekjddeknmbaaGreatBaseX
import Derived.Test.YtoeekjddeknmbaaGreatBsX1
import Derived.Test.YtoeekjddeknmbaaGreatBsX2
import Derived.Test.YtoeekjddeknmbaaGreatNmX
import Derived.Test.YtoeekjddeknmbaaGreatRkX
import Derived.Test.YtoeekjddeknmbaaGreatBsX5
import Derived.Test.YtoeekjddeknmbaaGreatTkX3
set_option maxHeartbeats 4000000
set_option maxRecDepth 20000
set_option linter.unusedSimpArgs false
set_option linter.unusedVariables false
open Go Go.AL
namespace Go.Proofs.YtoeekjddeknmbaaGreat
abbrev bankV (ix : List Int) : AVal := .agg [.ls (.gl (.li .i64) (bankL ix)) .any]
theorem residual_spec (ix xs : List Int) (i : Int) (h : Heap) (hx : IxOK ix) (hl : xs.length ≤ 1024) (h0 : 0 ≤ i) (h1 : i < (xs.length : Nat)) :
 Does PP 90 [bankV ix, LI xs, I i] h (Is (I (W (xs.getD i.toNat 0 - fsv ix (xs.take i.toNat)))) h) := by
 have hf := fun h => bforesee_spec ix (xs.take i.toNat) h hx (by rw [List.length_take]; omega)
 obtain ⟨n, hn⟩ : ∃ n : Int, n = (xs.length : Nat) := ⟨_, rfl⟩
 obtain ⟨f, hf0⟩ : ∃ f, f = fsv ix (xs.take i.toNat) := ⟨_, rfl⟩
 obtain ⟨ps, hps⟩ : ∃ p, p = xs.take i.toNat := ⟨_, rfl⟩
 obtain ⟨bk, hbk⟩ : ∃ b, b = bankL ix := ⟨_, rfl⟩
 simp only [← hf0] at hf ⊢
 unfold bankV
 simp only [← hps, ← hbk] at hf
 obtain ⟨r, hr⟩ : ∃ r, r = W (xs.getD i.toNat 0 - f) := ⟨_, rfl⟩
 rw [← hr, ← hbk]
 refine pure0 ?_ rfl rfl h
 refine wlk Tryz.f90 ?_
 unhygienic intros
 have hln : lnI xs = n := by rw [hk.lnI_eq]; omega
 have hsb : sbI xs 0 i = ps := by rw [hk.sbI_eq, hps]; simp
 have hsu : i2 .sub .i64 (gtI xs i) f = r := by rw [hk.i2_sub, hk.gtI_eq, hr]
 rw [← hn] at h1
 clear hf0 hps hbk hr hn
 (conv => cbv)
 repeat' (first | assumption | ((first | rw [hln] | refine hk.idxI h0 h1 ?_ | rw [hsb] | rw [hsu] | refine stp ?_ | refine stpB (fun _ => ?_) (fun _ => ?_)) <;> (conv => cbv)) | exact stpF | fail)
 all_goals exact hk.fin0 rfl rfl (Wk.refl _ _)
theorem fall_spec (ix xs : List Int) (h : Heap) (hx : IxOK ix) (hl : xs.length ≤ 1024) : Does PP 88 [LI xs, .clo (.func 90) [bankV ix] []] h (Is (LI (resL ix xs)) h) := by
 obtain ⟨Q, hQ⟩ : ∃ Q : Int → List Int, ∀ i, Q i = (resL ix xs).take i.toNat := ⟨_, fun _ => rfl⟩
 obtain ⟨n, hn⟩ : ∃ n : Int, n = (xs.length : Nat) := ⟨_, rfl⟩
 have hQn : resL ix xs = Q n := by rw [hQ, List.take_of_length_le (by rw [resL_len]; omega)]
 have hQ0 : Q 0 = [] := by rw [hQ]; rfl
 have hQl : ∀ i : Int, 0 ≤ i → i ≤ n → ((Q i).length : Int) = i := fun i a b => by rw [hQ, List.length_take, resL_len]; omega
 have hQs : ∀ i : Int, 0 ≤ i → i < n → Q (i + 1) = Q i ++ [W (xs.getD i.toNat 0 - fsv ix (xs.take i.toNat))] := fun i c d => by
  rw [hQ, hQ, show (i + 1).toNat = i.toNat + 1 by omega, takeI_snoc _ _ (by rw [resL_len]; omega), resL_get _ _ _ (by omega)]
 have hn0 : 0 ≤ n ∧ n ≤ 1024 := by omega
 rw [hQn]
 clear hQn
 have hst : ∀ i : Int, 0 ≤ i → i < n → ∃ m : Int, (∀ h, Does PP 90 [bankV ix, LI xs, I i] h (Is (I m) h)) ∧ Q (i + 1) = Q i ++ [m] := fun i c d =>
  ⟨_, fun h => residual_spec ix xs i h hx hl c (by omega), hQs i c d⟩
 obtain ⟨bk, hbk⟩ : ∃ b, b = bankL ix := ⟨_, rfl⟩
 unfold bankV at hst ⊢
 simp only [← hbk] at hst ⊢
 clear hQs hbk hQ hx
 refine pure0 ?_ rfl rfl h
 refine wlk Tryz.f88 ?_
 unhygienic intros
 have hln : lnI xs = n := by rw [hk.lnI_eq]; omega
 have hl1 : ∀ x, lnI [x] = 1 := fun x => hk.lnI_eq _
 have hlo : ∀ i, 0 ≤ i → i ≤ n → lnI (Q i) = i := fun i c d => by rw [hk.lnI_eq, hQl i c d]
 clear hn
 (conv => cbv)
 repeat' (first | assumption | ((first | rw [hln] | refine stp ?_ | refine stpB (fun _ => ?_) (fun _ => ?_)) <;> (conv => cbv)) | exact stpF | fail)
 refine hk.loopI (loop_rule (α := Int) (fun i => [(0, .ls (.il .i64 xs) .any), (1, .clo (.func 90) [.agg [.ls (.gl (.li .i64) bk) .any]] []), (4, .ls .nl .nil), (5, .ls (.il .i64 (Q i)) (.tok 0 0)), (8, .int .i64 n), (9, .int .i64 i)]) (fun _ => [.tok 0])
  (fun i => 0 ≤ i ∧ i ≤ n) (fun i => (n - i).toNat) 0 ⟨by omega, by omega⟩ ?_ ?_)
 ·rw [hQ0]
  refine Gh.trans (Gh.thaw 5 (.il .i64 []) rfl trivial rfl) (Gh.tm ?_)
  repeat' (first | exact Holds.nil _ _ | refine Holds.cons (Wk.refl _ _) ?_)
 intro i ⟨hi, hi2⟩ Q' hb hx hr
 have hlo := hlo i hi hi2
 by_cases h2 : i < n
 ·obtain ⟨m, hpt2, hq⟩ := hst i hi h2
  have hap : apI (Q i) [m] = Q (i + 1) := by rw [hk.apI_eq]; exact hq.symm
  obtain ⟨Q0, hQ0⟩ : ∃ y, y = Q i := ⟨_, rfl⟩
  obtain ⟨Q1, hQ1⟩ : ∃ y, y = Q (i + 1) := ⟨_, rfl⟩
  rw [← hQ0] at hap hlo ⊢
  rw [← hQ1] at hap
  clear hq
  (conv => cbv)
  repeat' (first | assumption | ((first | rw [hln] | refine hk.idxI hi h2 ?_ | rw [hlo, hl1, hap] | refine stp ?_ | refine stpB (fun _ => ?_) (fun _ => ?_)) <;> (conv => cbv)) | exact stpF | fail)
  refine hb (i + 1) _ ⟨by omega, by omega⟩ (by omega) ?_
  rw [← hQ1]
  refine Gh.retok 0 1 rfl (Nat.le_of_ble_eq_true rfl) ?_ rfl rfl
  repeat' (first | exact HoldsT.nil _ _ _ _ | refine HoldsT.tok rfl ?_ | refine HoldsT.cons (Wk.refl _ _) rfl ?_ | refine HoldsT.cons (Wk.of_eq ?_) rfl ?_)
  all_goals first
   | (rw [← hk.add64 i 1 (by omega) (by omega)]; rfl)
   | rfl
   | skip
 ·have : i = n := by omega
  subst this
  (conv => cbv)
  repeat' (first | assumption | ((first | refine hx _ _ ?_ | refine stp ?_ | refine stpB (fun _ => ?_) (fun _ => ?_)) <;> (conv => cbv)) | exact stpF | fail)
  all_goals exact hk.fin0 rfl rfl (Wk.any _ _ _)
theorem loud_spec (n : Int) (h : Heap) : Does PP 87 [I n] h (Is (.bool (decide (n < -67108864) || decide (n > 67108864))) h) := by
 obtain ⟨r, hr0⟩ : ∃ r, r = (decide (n < -67108864) || decide (n > 67108864)) := ⟨_, rfl⟩
 rw [← hr0]
 refine wlk Tryz.f87 ?_
 unhygienic intros
 (conv => cbv)
 refine hk.brLss (fun h => ?_) (fun h => ?_)
 ·(conv => cbv)
  exact hk.finB (by rw [hr0]; simp [h])
 ·(conv => cbv)
  exact hk.finB (by rw [hr0, hk.c2_gtr]; simp [h])
theorem residuals_spec (ix xs : List Int) (h : Heap) (hx : IxOK ix) (hs : Small26 xs) (hl : xs.length ≤ 1024) : Does PP 46 [LI ix, LI xs] h (Is (.tup [LI (resL ix xs), I 0]) h) := by
 have hg := fun h => lgood_spec ix h (by have := hx.1; omega)
 rw [(goodIx_iff ix).2 hx] at hg
 have hcf := fun h => contains_spec xs 87 [] (fun n => decide (n < -67108864) || decide (n > 67108864)) h (by omega) (fun n => loud_spec n h)
 rw [show xs.any (fun n => decide (n < -67108864) || decide (n > 67108864)) = false by
  rw [List.any_eq_false]
  intro x hx
  obtain ⟨j, hj, rfl⟩ := mem_getD.1 hx
  have := hs j hj
  rw [Bool.or_eq_true, decide_eq_true_eq, decide_eq_true_eq]; omega] at hcf
 have hop := fun h => fopen_spec ix h hx
 have hal := fun h => fall_spec ix xs h hx hl
 obtain ⟨R, hR⟩ : ∃ R, R = resL ix xs := ⟨_, rfl⟩
 obtain ⟨bk, hbk⟩ : ∃ b, b = bankL ix := ⟨_, rfl⟩
 unfold bankV at hal
 simp only [← hR, ← hbk] at hop hal ⊢
 clear hR hbk hs hx
 refine pure0 ?_ rfl rfl h
 refine wlk Tryz.f46 ?_
 unhygienic intros
 (conv => cbv)
 repeat' (first | assumption | ((first | refine hk.callA (hg _) ?_ | refine hk.callA (hcf _) ?_ | refine stp ?_ | refine stpB (fun _ => ?_) (fun _ => ?_)) <;> (conv => cbv)) | exact stpF | fail)
 all_goals skip
theorem rresiduals_spec (ix xs : List Int) (h : Heap) (hx : IxOK ix) (hs : Small26 xs) (hl : xs.length ≤ 1024) : Does PP 28 [LI ix, LI xs] h (Is (.tup [LI (resL ix xs), I 0]) h) := by
 have hg := fun h => rgood_spec ix h (by have := hx.1; omega)
 rw [(goodIx_iff ix).2 hx] at hg
 obtain ⟨Q, hQ⟩ : ∃ Q : Int → List Int, ∀ i, Q i = (resL ix xs).take i.toNat := ⟨_, fun _ => rfl⟩
 obtain ⟨n, hn⟩ : ∃ n : Int, n = (xs.length : Nat) := ⟨_, rfl⟩
 have hQn : resL ix xs = Q n := by rw [hQ, List.take_of_length_le (by rw [resL_len]; omega)]
 have hQ0 : Q 0 = [] := by rw [hQ]; rfl
 have hQl : ∀ i : Int, 0 ≤ i → i ≤ n → ((Q i).length : Int) = i := fun i a b => by rw [hQ, List.length_take, resL_len]; omega
 have hQs : ∀ i : Int, 0 ≤ i → i < n → Q (i + 1) = Q i ++ [W (xs.getD i.toNat 0 - fsv ix (xs.take i.toNat))] := fun i c d => by
  rw [hQ, hQ, show (i + 1).toNat = i.toNat + 1 by omega, takeI_snoc _ _ (by rw [resL_len]; omega), resL_get _ _ _ (by omega)]
 have hn0 : 0 ≤ n ∧ n ≤ 1024 := by omega
 rw [hQn]
 clear hQn
 have hst : ∀ i : Int, 0 ≤ i → i < n → ∃ (f m : Int) (ps : List Int), (∀ h, Does PP 62 [LI ix, LI ps] h (Is (I f) h)) ∧ ps = xs.take i.toNat ∧ m = W (xs.getD i.toNat 0 - f) ∧ Q (i + 1) = Q i ++ [m] := fun i c d =>
  ⟨_, _, _, fun h => rforesee_spec ix (xs.take i.toNat) h hx (by rw [List.length_take]; omega), rfl, rfl, hQs i c d⟩
 have hrr : ∀ i : Int, 0 ≤ i → i < n → -67108864 ≤ xs.getD i.toNat 0 ∧ xs.getD i.toNat 0 ≤ 67108864 := fun i h0 h1 => hs _ (by omega)
 clear hQs hQ hx hs
 refine pure0 ?_ rfl rfl h
 refine wlk Tryz.f28 ?_
 unhygienic intros
 have hln : lnI xs = n := by rw [hk.lnI_eq]; omega
 have hgl := hk.gtI_eq xs
 have hl1 : ∀ x, lnI [x] = 1 := fun x => hk.lnI_eq _
 have hlo : ∀ i, 0 ≤ i → i ≤ n → lnI (Q i) = i := fun i c d => by rw [hk.lnI_eq, hQl i c d]
 clear hn
 (conv => cbv)
 repeat' (first | assumption | ((first | rw [hln] | refine stp ?_ | refine stpB (fun _ => ?_) (fun _ => ?_)) <;> (conv => cbv)) | exact stpF | fail)
 refine hk.loopI (loop_rule (α := Int) (fun i => [(0, .ls (.il .i64 ix) .any), (1, .ls (.il .i64 xs) .any), (13, .int .i64 n), (14, .int .i64 i)]) (fun _ => [])
  (fun i => 0 ≤ i ∧ i ≤ n) (fun i => (n - i).toNat) 0 ⟨by omega, by omega⟩ ?_ ?_)
 ·exact ghT
 intro i ⟨hi, hi2⟩ Q' hb hx hr
 by_cases h2 : i < n
 ·have hrr := hrr i hi h2
  obtain ⟨x, hx0⟩ : ∃ x, x = gtI xs i := ⟨_, rfl⟩
  rw [← hgl, ← hx0] at hrr
  (conv => cbv)
  repeat' (first | assumption | ((first | rw [hln] | refine hk.idxI hi h2 ?_ | rw [← hx0] | refine stp ?_ | refine stpB (fun _ => ?_) (fun _ => ?_)) <;> (conv => cbv)) | exact stpF | fail)
  refine hb (i + 1) _ ⟨by omega, by omega⟩ (by omega) ?_
  refine Gh.tm ?_
  repeat' (first | exact Holds.nil _ _ | refine Holds.cons (Wk.refl _ _) ?_ | refine Holds.cons (Wk.of_eq ?_) ?_)
  all_goals first
   | (rw [← hk.add64 i 1 (by omega) (by omega)]; rfl)
   | rfl
   | skip
 have hin : i = n := by omega
 subst hin
 clear hb hr hrr
 (conv => cbv)
 repeat' (first | assumption | ((first | rw [hln] | refine hx _ _ ?_ | refine stp ?_ | refine stpB (fun _ => ?_) (fun _ => ?_)) <;> (conv => cbv)) | exact stpF | fail)
 clear hi hi2 h2 hx
 refine hk.loopI (loop_rule (α := Int) (fun j => [(0, .ls (.il .i64 ix) .any), (1, .ls (.il .i64 xs) .any), (7, .ls (.il .i64 (Q j)) (.tok 0 0)), (31, .int .i64 i), (32, .int .i64 j)]) (fun _ => [.tok 0])
  (fun j => 0 ≤ j ∧ j ≤ i) (fun j => (i - j).toNat) 0 ⟨by omega, by omega⟩ ?_ ?_)
 ·rw [hQ0]
  refine Gh.trans (Gh.thaw 7 (.il .i64 []) rfl trivial rfl) (Gh.tm ?_)
  repeat' (first | exact Holds.nil _ _ | refine Holds.cons (Wk.refl _ _) ?_)
 intro j ⟨hi, hi2⟩ Q' hb hx hr
 have hlo := hlo j hi hi2
 by_cases h2 : j < i
 ·obtain ⟨f, m, ps, hf, hps, hm, hq⟩ := hst j hi h2
  obtain ⟨x, hx0⟩ : ∃ x, x = gtI xs j := ⟨_, rfl⟩
  rw [← hgl, ← hx0] at hm
  have hsb : sbI xs 0 j = ps := by rw [hk.sbI_eq, hps]; simp
  have hsu : i2 .sub .i64 x f = m := by rw [hk.i2_sub, hm]
  have hap : apI (Q j) [m] = Q (j + 1) := by rw [hk.apI_eq]; exact hq.symm
  obtain ⟨Q0, hQ0⟩ : ∃ y, y = Q j := ⟨_, rfl⟩
  obtain ⟨Q1, hQ1⟩ : ∃ y, y = Q (j + 1) := ⟨_, rfl⟩
  rw [← hQ0] at hap hlo ⊢
  rw [← hQ1] at hap
  clear hm hq hps
  (conv => cbv)
  repeat' (first | assumption | ((first | rw [hln] | refine hk.idxI hi h2 ?_ | rw [← hx0] | rw [hsb] | rw [hsu] | rw [hlo, hl1, hap] | refine stp ?_ | refine stpB (fun _ => ?_) (fun _ => ?_)) <;> (conv => cbv)) | exact stpF | fail)
  refine hb (j + 1) _ ⟨by omega, by omega⟩ (by omega) ?_
  rw [← hQ1]
  refine Gh.retok 0 1 rfl (Nat.le_of_ble_eq_true rfl) ?_ rfl rfl
  repeat' (first | exact HoldsT.nil _ _ _ _ | refine HoldsT.tok rfl ?_ | refine HoldsT.cons (Wk.refl _ _) rfl ?_ | refine HoldsT.cons (Wk.of_eq ?_) rfl ?_)
  all_goals first
   | (rw [← hk.add64 j 1 (by omega) (by omega)]; rfl)
   | rfl
   | skip
 ·have : j = i := by omega
  subst this
  (conv => cbv)
  repeat' (first | assumption | ((first | refine hx _ _ ?_ | refine stp ?_ | refine stpB (fun _ => ?_) (fun _ => ?_)) <;> (conv => cbv)) | exact stpF | fail)
  all_goals exact hk.fin0 rfl rfl (Wk.tup ⟨Wk.any _ _ _, .refl _ _, trivial⟩)
theorem calls_of {P : Program} {T : Tab} {M : MTab} (hT : TabOK P T) {p : Pr} {f : FuncId} {fn : Func} {c : Code} {h : Heap} {R : AVal → Heap → Prop} (hk : HooksOK P T M h.length fn.ntmps p)
 (hf : P.funcs[f]? = some fn) (hb : fn.body = some c) {e : Env} {cs : Array Value} (he : e.h = h)
 (hmain : c.wpIn (Fw none) 0 P (LiftX e fn.ntmps (endPost p T fn.results.toList R)) { tmps := cs ++ Array.replicate (fn.ntmps - cs.size) undef, defers := [] } e.w) : Calls P f cs e.w (Post e R) := by
 refine callsIn_wide.1 (?_ : CallsIn Fence.wide 0 P f cs e.w (Post e R))
 refine callsIn_of_wp_marks hf hb trivial ?_
 refine wpIn_mono hmain fun ex a w ⟨s', e', k1, k2, k3⟩ => ?_
 subst k2
 have fin : endPost p T fn.results.toList R .ret s' → LeavesInM (Fw none) 0 P fn a.tmps (Post e R) a.defers .returning e'.w := fun k1 => by
  simp only [endPost] at k1
  split at k1
  ·rename_i vs hvs
   rw [hk.fin] at k1
   obtain ⟨dl, d1, d2, d3⟩ := k3.marks.ex
   rw [d1]
   rw [← he] at k1
   exact leaves_ok hT hk.data hvs k1 dl e' k3.good k3.heap k3.tm k3.upd k3.ext d2 d3
  ·exact k1.elim
 cases ex with
 | normal => exact fin k1
 | ret => exact fin k1
 | _ => exact k1.elim
theorem wpOps_one {P : Program} {ops : Array Oper} {Q : Exit → Act → World → Prop} {i : Nat} {rest : List Nat} {a : Act} {w : World} {o : Oper} {v : Value} (ho : ops[i]? = some o) (hg : o.guard = none) (hd : ∀ c, o.op ≠ .defer c)
 (hr : (execOp a.eval o).run P w = .ok (.value v) w) (hn : wpOpsIn (Fw none) 0 P ops Q rest (a.put o.dst v) w) : wpOpsIn (Fw none) 0 P ops Q (i :: rest) a w := by
 rw [wpOpsIn, ho]
 simp only
 have : Region.wanted o (yielded ops a.tmps) = true := by simp [Region.wanted, hg]
 rw [if_pos this]
 refine ⟨fun _ _ => trivial, ?_⟩
 show o.uponIn _ _ _ _ _ _ ((o.semAt none a.eval).run P w)
 rw [Oper.semAt_eq _ _ _ hd, hr]
 exact hn
theorem eqNil_run {P : Program} {w : World} {t el : TypeId} (hu : P.underlying t = some (.slice el)) (ox oy : Operand) (ad : Addr) (n m : Nat) :
 (do eqGuard .eql t ox oy (.slice (some ad) n m) (.slice none 0 0); binOp .eql t (.slice (some ad) n m) (.slice none 0 0) : Sem Value).run P w = .ok (.bool false) w := by
 have h0 : ∀ a n m, (Op.equal t (.slice a n m) (.slice none 0 0)).run P w = .ok a.isNone w := fun a n m => by
  unfold Op.equal Op.maxDepth
  rw [show (10000 : Nat) = 9999 + 1 from rfl, Op.equalIn, Sem.run_bind, run_underlying hu]
  cases a <;> rfl
 have hgd : ∀ (r : Sem Value), (do eqGuard .eql t ox oy (.slice (some ad) n m) (.slice none 0 0); r : Sem Value).run P w = r.run P w := fun r => by
  simp [eqGuard]
 rw [hgd]
 simp [binOp, h0]
theorem clone_gen {P : Program} {T : Tab} {M : MTab} (ρ : Nat → Bool) (hP : ProgOK P T M) {f : FuncId} {fn : Func} {t el : TypeId} (hf : P.funcs[f]? = some fn) {o0 o1 o2 : Oper} {X Y : Code} {i0 i1 : Nat} {oz : TypeId}
 (hb : fn.body = some (.seq (.region i0 #[o0] false) (.seq (.seq (.region i1 #[o1, o2] false) (.cond (.tmp 4) X .skip)) Y))) (hnt : fn.ntmps = 8)
 (g0 : o0.guard = none) (g1 : o1.guard = none) (g2 : o2.guard = none) (d0 : o0.dst = some 2) (d1 : o1.dst = some 3) (d2 : o2.dst = some 4)
 (p0 : o0.op = .assign (.const (.slice none 0 0))) (p1 : o1.op = .move (.tmp 0)) (p2 : o2.op = .binOp .eql t (.tmp 3) (.const (.slice none 0 0)) oz) (hu : P.underlying t = some (.slice el))
 (hl : lexAll (fun _ => false) Y = true)
 (hnil : Does P f [.ls .nl .nil] [] (Is (LI []) []))
 (hY : ∀ p, HooksOK P T M 0 fn.ntmps p → p.rowq = ρ → (p.strict = fun _ => false) → wpc p T M fn.ntmps Y ⟨tmL [(0, LI [])], []⟩ (endPost p T fn.results.toList (Is (LI []) []))) :
 Does P f [LI []] [] (Is (LI []) []) := by
 refine ⟨hnil.1, fun e cs hg he ha => ?_⟩
 have hv := ha.rel 0 (by simp)
 have hlen := ha.len
 obtain ⟨c, rfl⟩ : ∃ c, cs = #[c] := by
  obtain ⟨l⟩ := cs
  match l, hlen with
  | [c], _ => exact ⟨c, rfl⟩
 have hv : VR e (LI []) c := hv
 have hcase : c = .slice none 0 0 ∨ ∃ ad m, c = .slice (some ad) 0 m := by
  cases hv with
  | pure _ _ h =>
    cases h with
    | lsnil => exact .inl rfl
    | lse q a => exact .inr ⟨a, 0, rfl⟩
    | ls q b off cap => exact .inr ⟨_, _, rfl⟩
 rcases hcase with rfl | ⟨ad, m, rfl⟩
 ·exact hnil.2 e _ hg he ⟨rfl, fun i hi => by
   obtain rfl : i = 0 := by simpa using hi
   exact .pure _ _ (.lsnil .nl .nil rfl trivial (.inr rfl))⟩
 ·have hk := hooks_real P T M 0 fn.ntmps ρ (fun _ => false)
  have hk2 : HooksOK P T M ([] : Heap).length fn.ntmps _ := hk
  refine calls_of (R := Is (LI []) []) hP.tab hk2 hf hb he ?_
  have hsr : ∀ a : Act, a.tmps.size = fn.ntmps → a.defers = [] → a.tmps.getD 0 undef = .slice (some ad) 0 m → SR e fn.ntmps ⟨tmL [(0, LI [])], []⟩ e a := fun a h1 h2 h3 => by
   refine ⟨hg, he, fun t => ?_, h1, ⟨[], h2, List.nodup_nil, fun D hD => by simp at hD⟩, .refl e, .refl _ e⟩
   by_cases ht : t = 0
   ·subst ht
    rw [h3]
    exact hv
   ·have : tmL [(0, LI [])] t = .junk := by
     unfold tmL
     cases t with
     | zero => exact absurd rfl ht
     | succ t => rfl
    show VR e (tmL [(0, LI [])] t) _
    rw [this]
    exact .pure _ _ (.junk _)
  refine wpIn_seq (wpIn_region ?_)
  refine wpOps_one (o := o0) (v := .slice none 0 0) rfl g0 (fun c h => by rw [p0] at h; cases h) (by simp [execOp, p0, Act.eval]) ?_
  rw [d0]
  show Exit.then _ _ _ _ _
  refine wpIn_seq (wpIn_seq (wpIn_region ?_))
  refine wpOps_one (o := o1) (v := .slice (some ad) 0 m) rfl g1 (fun c h => by rw [p1] at h; cases h) (by simp [execOp, p1, Act.eval, Act.put, hnt]) ?_
  rw [d1]
  refine wpOps_one (o := o2) (v := .bool false) rfl g2 (fun c h => by rw [p2] at h; cases h) ?_ ?_
  ·simp only [execOp, p2]
   have e1 : ∀ x, ({ tmps := #[Value.slice (some ad) 0 m] ++ Array.replicate (fn.ntmps - #[Value.slice (some ad) 0 m].size) undef, defers := [] } : Act).put (some 2) (Value.slice none 0 0) = x → (x.put (some 3) (Value.slice (some ad) 0 m)).eval (.tmp 3) = .slice (some ad) 0 m := fun x hx => by
    subst hx
    simp [Act.eval, Act.put, hnt]
   rw [e1 _ rfl]
   have e2 := eqNil_run (P := P) (w := e.w) hu (.tmp 3) (.const (.slice none 0 0)) ad 0 m
   show Sem.run P ((do eqGuard .eql t (.tmp 3) (.const (.slice none 0 0)) (.slice (some ad) 0 m) (.slice none 0 0); binOp .eql t (.slice (some ad) 0 m) (.slice none 0 0) : Sem Value) >>= fun v => pure (Next.value v)) e.w = _
   rw [Sem.run_bind, e2]
   rfl
  rw [d2]
  show Exit.then _ _ _ _ _
  refine wpIn_cond (t := false) (by simp [Act.eval, Act.put, hnt]) ?_
  refine wpIn_skip ?_
  exact wpc_ok hP.tab hP.mtab hk.data hk.calls hP.mixed hk.loop hk.rfun Y hl none (.inl rfl) 0 _ e e _ _ (hsr _ (by simp [Act.put, hnt]) rfl (by simp [Act.put, hnt])) (by rw [he]; rfl) (hY _ hk rfl rfl)
theorem hooks_v {P : Program} {T : Tab} {M : MTab} (ρ : Nat → Bool) {n0 nt : Nat} {rs : List ResultVar} {Y : Code} {s : St} {R : AVal → Heap → Prop}
 (hw : ∀ i2 c2 u1 cv mx mn ad sbt bn bq ba lnI gtI apI sbI stI rpI lnG gtG apG sbG stG rpG fi fb fs fl fg fc sln sgt sap ssb sc b2s s2b nd call calld callv callvd loop rfun fin,
   HK P n0 nt i2 c2 u1 cv mx mn ad sbt bn bq ba lnI gtI apI sbI stI rpI lnG gtG apG sbG stG rpG fi fb fs fl fg fc sln sgt sap ssb sc b2s nd call calld callv callvd loop rfun fin →
   wpc ⟨i2, c2, u1, cv, mx, mn, ad, sbt, bn, bq, ba, lnI, gtI, apI, sbI, stI, rpI, lnG, gtG, apG, sbG, stG, rpG, fi, fb, fs, fl, fg, fc, sln, sgt, sap, ssb, sc, b2s, s2b, nd, call, calld, callv, callvd, loop, rfun, fin, ρ, fun _ => false⟩ T M nt Y s
    (endPost ⟨i2, c2, u1, cv, mx, mn, ad, sbt, bn, bq, ba, lnI, gtI, apI, sbI, stI, rpI, lnG, gtG, apG, sbG, stG, rpG, fi, fb, fs, fl, fg, fc, sln, sgt, sap, ssb, sc, b2s, s2b, nd, call, calld, callv, callvd, loop, rfun, fin, ρ, fun _ => false⟩ T rs R)) :
 ∀ p, HooksOK P T M n0 nt p → p.rowq = ρ → (p.strict = fun _ => false) → wpc p T M nt Y s (endPost p T rs R) := fun p hk hr hs => by
 have := hw p.i2 p.c2 p.u1 p.cv p.mx p.mn p.ad p.sbt p.bn p.bq p.ba p.lnI p.gtI p.apI p.sbI p.stI p.rpI p.lnG p.gtG p.apG p.sbG p.stG p.rpG p.fi p.fb p.fs p.fl p.fg p.fc p.sln p.sgt p.sap p.ssb p.sc p.b2s p.s2b p.nd p.call p.calld p.callv p.callvd p.loop p.rfun p.fin (hk_of hk)
 subst hr
 rw [← hs] at this
 exact this
end Go.Proofs.YtoeekjddeknmbaaGreat
