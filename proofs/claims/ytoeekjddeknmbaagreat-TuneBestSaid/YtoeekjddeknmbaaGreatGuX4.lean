/-
  Contracts of functions of the program, proved over the abstract machine of the Al texts.
-/
import Derived.Test.YtoeekjddeknmbaaGreatTryTab
import Derived.Test.YtoeekjddeknmbaaGreatAl4
import Derived.Test.YtoeekjddeknmbaaGreatBaseX
import Derived.Test.YtoeekjddeknmbaaGreatPpZ
import Derived.Test.YtoeekjddeknmbaaGreatBsX1
import Derived.Test.YtoeekjddeknmbaaGreatTkX3
import Derived.Test.YtoeekjddeknmbaaGreatNmX
import Derived.Test.YtoeekjddeknmbaaGreatTuX1
import Derived.Test.YtoeekjddeknmbaaGreatGuX1
import Derived.Test.YtoeekjddeknmbaaGreatGuX2
import Derived.Test.YtoeekjddeknmbaaGreatGuX3
set_option maxHeartbeats 4000000
set_option maxRecDepth 20000
set_option linter.unusedSimpArgs false
set_option linter.unusedVariables false
open Go Go.AL
namespace Go.Proofs.YtoeekjddeknmbaaGreat
theorem rguess_spec (l : List Int) (o : Int) (h : Heap) (h1 : 1 ≤ l.length) (h2 : l.length ≤ 1024) (hs : Small26 l) (o0 : 0 ≤ o) (o1 : o ≤ 16) : Does PP 26 [LI l, I o] h (Is (.tup [LI (guess l o.toNat), I 0]) h) := by
 obtain ⟨n, hn⟩ : ∃ n : Int, n = (l.length : Nat) := ⟨_, rfl⟩
 have hsc := fun h => rscaled_spec l h h1 h2 hs
 have hsm : ∀ i : Int, 0 ≤ i → i < n → ¬ l.getD i.toNat 0 > 67108864 ∧ ¬ l.getD i.toNat 0 < -67108864 := fun i a b => by
  have := hs i.toNat (by omega); omega
 obtain ⟨F, hF⟩ : ∃ F : Int → List Int, ∀ i, F i = (guG l i.toNat).1 := ⟨_, fun _ => rfl⟩
 obtain ⟨B, hB⟩ : ∃ F : Int → List Int, ∀ i, F i = (guG l i.toNat).2.1 := ⟨_, fun _ => rfl⟩
 obtain ⟨Q, hQ⟩ : ∃ F : Int → List Int, ∀ i, F i = guess l i.toNat := ⟨_, fun _ => rfl⟩
 have hQ0 : Q 0 = [] := by rw [hQ]; rfl
 have hQl : ∀ i : Int, 0 ≤ i → ((Q i).length : Int) = i := fun i a => by rw [hQ, guess_len]; omega
 have hFl : ∀ i, ((F i).length : Int) = n := fun i => by rw [hF, (guG_len l _).1]; exact hn.symm
 have hBl : ∀ i, ((B i).length : Int) = n := fun i => by rw [hB, (guG_len l _).2.1]; exact hn.symm
 have hF0 : F 0 = scl l := by rw [hF]; rfl
 have hB0 : B 0 = scl l := by rw [hB]; rfl
 have hst : ∀ i : Int, 0 ≤ i → i < o → ∃ (w x k : Int) (N D : Int → Int) (X Y : Int → List Int) (J : Int), Q (i + 1) = Q i ++ [x] ∧ GuS (F i) (B i) n i w k N D X Y J ∧ F (i + 1) = X J ∧ B (i + 1) = Y J ∧
  (∀ h, Does PP 51 [I i, I w] h (Is (I x) h)) ∧ (∀ h, Does PP 52 [I i, I x] h (Is (I k) h)) := fun i a c => by
  obtain ⟨l1, l2, l3⟩ := guG_len l i.toNat
  obtain ⟨b1, b2⟩ := guG_bd hs i.toNat
  have e1 : (i + 1).toNat = i.toNat + 1 := by omega
  have ei : ((i.toNat : Nat) : Int) = i := by omega
  obtain ⟨N, D, X, Y, J, hG, hX, hY⟩ := guS (f := (guG l i.toNat).1) (b := (guG l i.toNat).2.1) (n := n) (m := i) (by omega) (by omega) (by omega) b1 b2 a (by omega)
  have hnr := nearI_rg i (wishK (guG l i.toNat).1 (guG l i.toNat).2.1 i.toNat)
  have hwr := hG.wr
  refine ⟨_, _, _, N, D, X, Y, J, ?_, by rw [hF, hB]; exact hG, ?_, ?_, fun h => rnear_spec _ _ h (by omega) (by omega), fun h => rrefl_spec _ _ h hnr.1 hnr.2⟩
  ·rw [hQ, hQ, e1, guess_succ, ei]
  ·rw [hX, hF, e1, guG, ei]
  ·rw [hY, hB, e1, guG, ei]
 have hR : guess l o.toNat = Q o := (hQ o).symm
 rw [hR]
 obtain ⟨S, hS⟩ : ∃ S, S = scl l := ⟨_, rfl⟩
 simp only [← hS] at hsc hF0 hB0
 have hrd := fun a h => rround_spec a h
 have hcp := fun a h => rclip_spec a h
 have hsub : ∀ x : List Int, (x.length : Int) = n → rSub x 0 n = x := fun x hx => by
  unfold rSub
  simp only [Int.toNat_zero, List.drop_zero, Int.sub_zero]
  exact List.take_of_length_le (by omega)
 clear hR hF hB hQ hS hs
 have hn1 : 1 ≤ n ∧ n ≤ 1024 := by omega
 refine pure0 ?_ rfl rfl h
 refine doesFr (fun i => Nat.ble 64 i) P_ok Tryz.f26 (by kernel_rfl) (by kernel_rfl) ?_
 intro i2 c2 u1 cv mx mn ad sbt bn bq ba lnI gtI apI sbI stI rpI lnG gtG apG sbG stG rpG fi fb fs fl fg fc sln sgt sap ssb sc b2s s2b nd call calld callv callvd loop rfun fin hk
 have hln0 : lnI l = n := by rw [hk.lnI_eq]; omega
 have hln := hk.lnI_eq
 have hgt := hk.gtI_eq
 have hse := hk.stI_eq
 have hap0 := hk.apI_eq
 have hl0 : lnI [] = 0 := hk.lnI_eq _
 have hl1 : ∀ x, lnI [x] = 1 := fun x => hk.lnI_eq _
 have hsb1 : ∀ x, sbI [x] 0 (Int.ofNat 1) = [x] := fun x => by rw [hk.sbI_eq]; rfl
 have had0 := hk.ad_eq
 have hs0 : sbt n 0 = n := by rw [hk.sb_eq]; omega
 have had : ∀ i, 0 ≤ i → ad 0 i = i := fun i a => by rw [hk.ad_eq]; omega
 have hnd : nd (.appn 0 0 0 n 8) := hk.ndI ⟨rfl, rfl, by omega, by simp; omega, by omega⟩
 have hadn := had n (by omega)
 clear hn
 (conv => cbv)
 repeat' (first | assumption | ((first | rw [hln0] | refine stp ?_ | refine stpB (fun _ => ?_) (fun _ => ?_)) <;> (conv => cbv)) | exact stpF | fail)
 refine hk.loopI (loop_rule (α := Int) (fun i => [(0, .ls (.il .i64 l) .any), (1, .int .i64 o), (4, .ls .nl .nil), (5, .int .i64 0), (26, .int .i64 n), (27, .int .i64 i)]) (fun _ => []) (fun i => 0 ≤ i ∧ i ≤ n) (fun i => (n - i).toNat) 0 ⟨by omega, by omega⟩ ?_ ?_)
 ·exact ghT
 intro i ⟨hi, hi2⟩ Q' hb hx hr
 by_cases h2 : i < n
 ·obtain ⟨g1, g2⟩ := hsm i hi h2
  have hgi := hgt l i
  obtain ⟨v, hv⟩ : ∃ v, v = l.getD i.toNat 0 := ⟨_, rfl⟩
  rw [← hv] at g1 g2 hgi
  (conv => cbv)
  repeat' (first | assumption | ((first | rw [hln0] | rw [hgi] | refine hk.idxI hi h2 ?_ | refine stp ?_ | refine stpB (fun _ => ?_) (fun _ => ?_)) <;> (conv => cbv)) | exact stpF | fail)
  refine hb (i + 1) _ ⟨by omega, by omega⟩ (by omega) ?_
  refine Gh.tm ?_
  repeat' (first | exact Holds.nil _ _ | refine Holds.cons (Wk.refl _ _) ?_ | refine Holds.cons (Wk.of_eq ?_) ?_)
  all_goals first
   | (rw [← hk.add64 i 1 (by omega) (by omega)]; rfl)
   | rfl
   | skip
 ·clear hb hr
  (conv => cbv)
  repeat' (first | assumption | ((first | rw [hln0] | refine hx _ _ ?_ | refine stp ?_ | refine stpB (fun _ => ?_) (fun _ => ?_)) <;> (conv => cbv)) | exact stpF | fail)
  clear hx
  refine hk.loopI (loop_rule (α := Int) (fun m => [(4, .ls .nl .nil), (5, .int .i64 0), (1, .int .i64 o), (7, .ls (.il .i64 (F m)) .any), (8, .ls (.il .i64 (B m)) .any), (9, .ls (.il .i64 (Q m)) (.tok 0 0)), (10, .int .i64 m)]) (fun _ => [.tok 0]) (fun i => 0 ≤ i ∧ i ≤ o) (fun i => (o - i).toNat) 0 ⟨by omega, o0⟩ ?_ ?_)
  ·rw [hQ0, hF0, hB0]
   refine Gh.trans (Gh.thaw 9 (.il .i64 []) rfl trivial rfl) (Gh.tm ?_)
   repeat' (first | exact Holds.nil _ _ | refine Holds.cons (Wk.refl _ _) ?_)
  clear i hi hi2 h2
  intro m ⟨hm, hm2⟩ Q2 hb2 hx2 hr2
  by_cases h3 : m < o
  ·obtain ⟨w, x, k, N, D, X, Y, J, hQs, hG, hFs, hBs, hne, hrf⟩ := hst m hm h3
   have hFlm := hFl m
   have hBlm := hBl m
   have lQ := hln (Q m)
   rw [hQl m hm] at lQ
   have aQ := hap0 (Q m) [x]
   rw [← hQs] at aQ
   have lQ1 := hln (Q (m + 1))
   rw [hQl (m + 1) (by omega)] at lQ1
   have gQ1 := hgt (Q (m + 1)) m
   rw [hQs, List.getD_eq_getElem?_getD, List.getElem?_append_right (by have := hQl m hm; omega), show m.toNat - (Q m).length = 0 by have := hQl m hm; omega, ← hQs] at gQ1
   have gQ1 : gtI (Q (m + 1)) m = x := gQ1
   have hXl := hG.xl
   have hYl := hG.yl
   have lX := fun i => hln (X i)
   have lY := fun i => hln (Y i)
   simp only [hXl] at lX
   simp only [hYl] at lY
   obtain ⟨F0, hF00⟩ : ∃ x, x = F m := ⟨_, rfl⟩
   obtain ⟨B0, hB00⟩ : ∃ x, x = B m := ⟨_, rfl⟩
   obtain ⟨Q0, hQ00⟩ : ∃ x, x = Q m := ⟨_, rfl⟩
   obtain ⟨Q1, hQ10⟩ : ∃ x, x = Q (m + 1) := ⟨_, rfl⟩
   rw [← hF00] at hFlm hG
   rw [← hB00] at hBlm hG
   rw [← hQ00] at lQ aQ
   rw [← hQ10] at aQ lQ1 gQ1
   rw [← hF00, ← hB00, ← hQ00]
   obtain ⟨m1, hm1⟩ : ∃ x, x = m + 1 := ⟨_, rfl⟩
   rw [← hm1] at lQ1
   have hmi : i2 .add .i64 m 1 = m1 := by rw [hm1]; exact hk.add64 _ _ (by omega) (by omega)
   have lF : lnI F0 = n := by rw [hln, hFlm]
   have lB : lnI B0 = n := by rw [hln, hBlm]
   have apF := hap0 [] F0
   rw [List.nil_append] at apF
   have apB := hap0 [] B0
   rw [List.nil_append] at apB
   have gF := hgt F0
   have gB := hgt B0
   have adm : ad m 1 = m1 := by rw [had0]; exact hm1.symm
   have hmm : m < m1 := by omega
   have hm16 : 0 ≤ m1 ∧ m1 ≤ 16 := by omega
   have hj1 := hG.j1
   have hj2 := hG.j2
   have hj3 := hG.j3
   have hd0 := hG.d0
   have hn0 := hG.n0
   have hx0 := hG.x0
   have hy0 := hG.y0
   rw [← hm1] at hj1 hd0 hn0 hx0 hy0
   (conv => cbv)
   repeat' (first | assumption | ((first | rw [hmi] | refine stp ?_ | refine stpB (fun _ => ?_) (fun _ => ?_)) <;> (conv => cbv)) | exact stpF | fail)
   refine hk.loopI (loop_rule (α := Int) (fun i => [(4, .ls .nl .nil), (5, .int .i64 0), (1, .int .i64 o), (7, .ls (.il .i64 F0) .any), (8, .ls (.il .i64 B0) .any), (9, .ls (.il .i64 Q0) (.tok 0 0)), (10, .int .i64 m), (11, .int .i64 (N i)), (12, .int .i64 (D i)), (13, .int .i64 i)]) (fun _ => [.tok 0])
    (fun i => m1 ≤ i ∧ i ≤ J) (fun i => (J - i).toNat) m1 ⟨by omega, hj1⟩ ?_ ?_)
   ·rw [hn0, hd0]
    exact ghT
   intro i ⟨hi, hi2⟩ Q3 hb3 hx3 hr3
   obtain ⟨n0, n1⟩ := hG.nr i (by omega) hi2
   obtain ⟨d0, d1⟩ := hG.dr i (by omega) hi2
   by_cases h4 : i < n
   ·obtain ⟨x, y, P, Q1, Q2, hx0, hy0, hP, hQ1, hQ2, hNs, hDs, ⟨p0, p1⟩, ⟨q0, q1⟩, ⟨q2, q3⟩⟩ := hG.st i (by omega) h4
    have gFi := gF i
    have gBi := gB (i - 1)
    rw [← hx0] at gFi
    rw [← hy0] at gBi
    obtain ⟨i1, hi1⟩ : ∃ x, x = i - 1 := ⟨_, rfl⟩
    rw [← hi1] at gBi
    have hsi : i2 .sub .i64 i 1 = i1 := by rw [hi1]; exact hk.sub64 _ _ (by omega) (by omega)
    have m1' : i2 .mul .i64 x y = P := by rw [hP]; exact hk.mul64 _ _ (by rw [← hP]; omega) (by rw [← hP]; omega)
    have m2 : i2 .mul .i64 x x = Q1 := by rw [hQ1]; exact hk.mul64 _ _ (by rw [← hQ1]; omega) (by rw [← hQ1]; omega)
    have m3 : i2 .mul .i64 y y = Q2 := by rw [hQ2]; exact hk.mul64 _ _ (by rw [← hQ2]; omega) (by rw [← hQ2]; omega)
    obtain ⟨N0, hN00⟩ : ∃ x, x = N i := ⟨_, rfl⟩
    obtain ⟨D0, hD00⟩ : ∃ x, x = D i := ⟨_, rfl⟩
    obtain ⟨N1, hN10⟩ : ∃ x, x = N (i + 1) := ⟨_, rfl⟩
    obtain ⟨D1, hD10⟩ : ∃ x, x = D (i + 1) := ⟨_, rfl⟩
    obtain ⟨s, hs⟩ : ∃ x, x = D0 + Q1 := ⟨_, rfl⟩
    rw [← hN00, ← hN10] at hNs
    rw [← hD00, ← hD10] at hDs
    rw [← hN00, ← hD00]
    rw [← hN00] at n0 n1
    rw [← hD00] at d0 d1
    have a1 : i2 .add .i64 N0 P = N1 := by rw [hNs]; exact hk.add64 _ _ (by omega) (by omega)
    have a2 : i2 .add .i64 D0 Q1 = s := by rw [hs]; exact hk.add64 _ _ (by omega) (by omega)
    have a3 : i2 .add .i64 s Q2 = D1 := by rw [hk.add64 _ _ (by omega) (by omega)]; omega
    have e1 : 0 ≤ i := by omega
    have e2 : 0 ≤ i1 := by omega
    have e3 : i1 < n := by omega
    clear hP hQ1 hQ2 hNs hDs hG
    (conv => cbv)
    repeat' (first | assumption | ((first | rw [hsi] | rw [lF] | rw [lB] | rw [gFi] | rw [gBi] | rw [m1'] | rw [m2] | rw [m3] | rw [a1] | rw [a2] | rw [a3] | refine hk.idxI e1 h4 ?_ | refine hk.idxI e2 e3 ?_ | refine stp ?_ | refine stpB (fun _ => ?_) (fun _ => ?_)) <;> (conv => cbv)) | exact stpF | fail)
    refine hb3 (i + 1) _ ⟨by omega, by omega⟩ (by omega) ?_
    rw [← hN10, ← hD10]
    refine Gh.tm ?_
    repeat' (first | exact Holds.nil _ _ | refine Holds.cons (Wk.refl _ _) ?_ | refine Holds.cons (Wk.of_eq ?_) ?_)
    all_goals first
     | (rw [← hk.add64 i 1 (by omega) (by omega)]; rfl)
     | rfl
     | skip
   ·have : i = J := by omega
    subst this
    have w0 := hG.w0
    have w1 := hG.w1
    have wr := hG.wr
    have kr := hG.kr
    have hcl := hG.cl
    rw [← hm1] at hcl
    clear hG hb3 hr3
    obtain ⟨N0, hN00⟩ : ∃ x, x = N i := ⟨_, rfl⟩
    obtain ⟨D0, hD00⟩ : ∃ x, x = D i := ⟨_, rfl⟩
    rw [← hD00] at w0
    rw [← hN00, ← hD00] at w1
    rw [← hN00] at n0 n1
    rw [← hN00, ← hD00]
    have m1' : i2 .mul .i64 (-32768) N0 = -32768 * N0 := hk.mul64 _ _ (by omega) (by omega)
    have q1 : ¬ D0 = 0 → i2 .quo .i64 (-32768 * N0) D0 = w := fun h => by rw [hk.i2_quo, w1 h]; exact wrap64 (by rw [← w1 h]; omega) (by rw [← w1 h]; omega)
    clear w1
    by_cases h5 : D0 = 0
    ·have w0 := w0 h5
     subst w0
     clear q1
     (conv => cbv)
     repeat' (first | assumption | ((first | rw [lF] | refine hx3 _ _ ?_ | rw [m1'] | rw [q1] | refine hk.nzI h5 ?_ | rw [hsb1] | rw [lQ] | rw [hl1] | rw [aQ] | rw [adm] | rw [lQ1] | rw [gQ1] | refine hk.idxI hm hmm ?_ | rw [apF] | rw [apB] | rw [hl0] | rw [lB] | rw [hadn] | refine ⟨hnd, ?_⟩ | rw [hmi] | refine stp ?_ | refine stpB (fun _ => ?_) (fun _ => ?_)) <;> (conv => cbv)) | exact stpF | fail)
     clear hx3
     refine hk.loopI (loop_rule (α := Int) (fun i => [(4, .ls .nl .nil), (5, .int .i64 0), (1, .int .i64 o), (7, .ls (.il .i64 F0) .any), (8, .ls (.il .i64 B0) .any), (9, .ls (.il .i64 Q1) (.tok 0 1)), (10, .int .i64 m), (15, .int .i64 k), (16, .sl 2 1 0 n), (17, .sl 3 1 0 n), (18, .int .i64 i)]) (fun i => [.tok 1, .rw 0 (.il .i64 [x]), .rw 1 (.il .i64 (X i)), .rw 1 (.il .i64 (Y i))])
      (fun j => m1 ≤ j ∧ j ≤ i) (fun j => (i - j).toNat) m1 ⟨by omega, hj1⟩ ?_ ?_)
     ·rw [hx0, hy0]
      exact ghT
     intro j ⟨hj, hj2⟩ Q4 hb4 hx4 hr4
     by_cases h6 : j < n
     ·obtain ⟨x', y, P, Q, hxx, hyy, hP, hQ, hXs, hYs, ⟨x0, x1⟩, ⟨y0, y1⟩, ⟨p0, p1⟩, ⟨q0, q1⟩⟩ := hcl j hj h6
      have gFi := gF j
      have gBi := gB (j - 1)
      rw [← hxx] at gFi
      rw [← hyy] at gBi
      obtain ⟨i1, hi1⟩ : ∃ x, x = j - 1 := ⟨_, rfl⟩
      rw [← hi1] at gBi
      have hsi : i2 .sub .i64 j 1 = i1 := by rw [hi1]; exact hk.sub64 _ _ (by omega) (by omega)
      obtain ⟨rp0, rp1⟩ := rnd_rg (p := P) ⟨by omega, by omega⟩
      obtain ⟨rq0, rq1⟩ := rnd_rg (p := Q) ⟨by omega, by omega⟩
      have sF := hse (X j) j (clipZ (x' + rnd P))
      rw [hXs] at sF
      have sB := hse (Y j) j (clipZ (y + rnd Q))
      rw [hYs] at sB
      have m1' : i2 .mul .i64 k y = P := by rw [hP]; exact hk.mul64 _ _ (by rw [← hP]; omega) (by rw [← hP]; omega)
      have m2 : i2 .mul .i64 k x' = Q := by rw [hQ]; exact hk.mul64 _ _ (by rw [← hQ]; omega) (by rw [← hQ]; omega)
      have r1 := hrd P
      have r2 := hrd Q
      obtain ⟨rp, hrp⟩ : ∃ z, z = rnd P := ⟨_, rfl⟩
      obtain ⟨rq, hrq⟩ : ∃ z, z = rnd Q := ⟨_, rfl⟩
      simp only [← hrp] at r1 sF rp0 rp1
      simp only [← hrq] at r2 sB rq0 rq1
      have a1 : i2 .add .i64 x' rp = x' + rp := hk.add64 _ _ (by omega) (by omega)
      have a2 : i2 .add .i64 y rq = y + rq := hk.add64 _ _ (by omega) (by omega)
      obtain ⟨sp', hsp⟩ : ∃ z, z = x' + rp := ⟨_, rfl⟩
      obtain ⟨sq, hsq⟩ : ∃ z, z = y + rq := ⟨_, rfl⟩
      rw [← hsp] at a1 sF
      rw [← hsq] at a2 sB
      have c1 := hcp sp'
      have c3 := hcp sq
      obtain ⟨cp, hcp'⟩ : ∃ z, z = clipZ sp' := ⟨_, rfl⟩
      obtain ⟨cq, hcq⟩ : ∃ z, z = clipZ sq := ⟨_, rfl⟩
      simp only [← hcp'] at c1 sF
      simp only [← hcq] at c3 sB
      have lXj := lX j
      have lYj := lY j
      obtain ⟨X0, hX00⟩ : ∃ x, x = X j := ⟨_, rfl⟩
      obtain ⟨Y0, hY00⟩ : ∃ x, x = Y j := ⟨_, rfl⟩
      obtain ⟨X1, hX10⟩ : ∃ x, x = X (j + 1) := ⟨_, rfl⟩
      obtain ⟨Y1, hY10⟩ : ∃ x, x = Y (j + 1) := ⟨_, rfl⟩
      rw [← hX00] at lXj sF ⊢
      rw [← hY00] at lYj sB ⊢
      rw [← hX10] at sF
      rw [← hY10] at sB
      have b1 := had j (by omega)
      have e1 : 0 ≤ j := by omega
      have e2 : 0 ≤ i1 := by omega
      have e3 : i1 < n := by omega
      clear hP hQ hxx hyy hXs hYs hrp hrq hsp hsq hcp' hcq hcl
      (conv => cbv)
      repeat' (first | assumption | ((first | rw [hs0] | rw [b1] | rw [hsi] | rw [lF] | rw [lB] | rw [lXj] | rw [lYj] | rw [gFi] | rw [gBi] | rw [m1'] | rw [m2] | rw [a1] | rw [a2] | rw [sF] | rw [sB] | refine hk.idxI e1 h6 ?_ | refine hk.idxI e2 e3 ?_ | refine stp ?_ | refine stpB (fun _ => ?_) (fun _ => ?_)) <;> (conv => cbv)) | exact stpF | fail)
      refine hb4 (j + 1) _ ⟨by omega, by omega⟩ (by omega) ?_
      rw [← hX10, ← hY10]
      refine Gh.tm ?_
      repeat' (first | exact Holds.nil _ _ | refine Holds.cons (Wk.refl _ _) ?_ | refine Holds.cons (Wk.of_eq ?_) ?_)
      all_goals first
       | (rw [← hk.add64 j 1 (by omega) (by omega)]; rfl)
       | rfl
       | skip
     ·have : j = i := by omega
      subst this
      have hbX := hsub (X j) (hXl j)
      have hbY := hsub (Y j) (hYl j)
      obtain ⟨X0, hX00⟩ : ∃ x, x = X j := ⟨_, rfl⟩
      obtain ⟨Y0, hY00⟩ : ∃ x, x = Y j := ⟨_, rfl⟩
      rw [← hX00] at hbX hFs ⊢
      rw [← hY00] at hbY hBs ⊢
      (conv => cbv)
      repeat' (first | assumption | ((first | rw [lF] | refine hx4 _ _ ?_ | refine stp ?_ | refine stpB (fun _ => ?_) (fun _ => ?_)) <;> (conv => cbv)) | exact stpF | fail)
      refine hb2 (m + 1) _ ⟨by omega, by omega⟩ (by omega) ?_
      rw [hFs, hBs, ← hQ10]
      refine Gh.trans (Gh.rz 2 1 (.il .i64 X0) (Nat.zero_le _) rfl rfl (fun t => .inl rfl)) ?_
      refine Gh.trans (Gh.rz 3 1 (.il .i64 Y0) (Nat.zero_le _) rfl rfl (fun t => .inl rfl)) ?_
      refine Gh.retok 0 1 rfl (Nat.le_of_ble_eq_true rfl) ?_ rfl rfl
      repeat' (first | exact HoldsT.nil _ _ _ _ | refine HoldsT.tok rfl ?_ | refine HoldsT.cons (Wk.refl _ _) rfl ?_ | refine HoldsT.cons (Wk.of_eq ?_) rfl ?_)
      all_goals first
       | (rw [← hk.add64 m 1 (by omega) (by omega)]; rfl)
       | rfl
       | skip
      all_goals first
       | (show AVal.ls (.il .i64 (rSub X0 0 n)) .any = _; rw [hbX])
       | (show AVal.ls (.il .i64 (rSub Y0 0 n)) .any = _; rw [hbY])
       | skip
    ·have q1 := q1 h5
     (conv => cbv)
     repeat' (first | assumption | ((first | rw [lF] | refine hx3 _ _ ?_ | rw [m1'] | rw [q1] | refine hk.nzI h5 ?_ | rw [hsb1] | rw [lQ] | rw [hl1] | rw [aQ] | rw [adm] | rw [lQ1] | rw [gQ1] | refine hk.idxI hm hmm ?_ | rw [apF] | rw [apB] | rw [hl0] | rw [lB] | rw [hadn] | refine ⟨hnd, ?_⟩ | rw [hmi] | refine stp ?_ | refine stpB (fun _ => ?_) (fun _ => ?_)) <;> (conv => cbv)) | exact stpF | fail)
     clear hx3
     refine hk.loopI (loop_rule (α := Int) (fun i => [(4, .ls .nl .nil), (5, .int .i64 0), (1, .int .i64 o), (7, .ls (.il .i64 F0) .any), (8, .ls (.il .i64 B0) .any), (9, .ls (.il .i64 Q1) (.tok 0 1)), (10, .int .i64 m), (15, .int .i64 k), (16, .sl 2 1 0 n), (17, .sl 3 1 0 n), (18, .int .i64 i)]) (fun i => [.tok 1, .rw 0 (.il .i64 [x]), .rw 1 (.il .i64 (X i)), .rw 1 (.il .i64 (Y i))])
      (fun j => m1 ≤ j ∧ j ≤ i) (fun j => (i - j).toNat) m1 ⟨by omega, hj1⟩ ?_ ?_)
     ·rw [hx0, hy0]
      exact ghT
     intro j ⟨hj, hj2⟩ Q4 hb4 hx4 hr4
     by_cases h6 : j < n
     ·obtain ⟨x', y, P, Q, hxx, hyy, hP, hQ, hXs, hYs, ⟨x0, x1⟩, ⟨y0, y1⟩, ⟨p0, p1⟩, ⟨q0, q1⟩⟩ := hcl j hj h6
      have gFi := gF j
      have gBi := gB (j - 1)
      rw [← hxx] at gFi
      rw [← hyy] at gBi
      obtain ⟨i1, hi1⟩ : ∃ x, x = j - 1 := ⟨_, rfl⟩
      rw [← hi1] at gBi
      have hsi : i2 .sub .i64 j 1 = i1 := by rw [hi1]; exact hk.sub64 _ _ (by omega) (by omega)
      obtain ⟨rp0, rp1⟩ := rnd_rg (p := P) ⟨by omega, by omega⟩
      obtain ⟨rq0, rq1⟩ := rnd_rg (p := Q) ⟨by omega, by omega⟩
      have sF := hse (X j) j (clipZ (x' + rnd P))
      rw [hXs] at sF
      have sB := hse (Y j) j (clipZ (y + rnd Q))
      rw [hYs] at sB
      have m1' : i2 .mul .i64 k y = P := by rw [hP]; exact hk.mul64 _ _ (by rw [← hP]; omega) (by rw [← hP]; omega)
      have m2 : i2 .mul .i64 k x' = Q := by rw [hQ]; exact hk.mul64 _ _ (by rw [← hQ]; omega) (by rw [← hQ]; omega)
      have r1 := hrd P
      have r2 := hrd Q
      obtain ⟨rp, hrp⟩ : ∃ z, z = rnd P := ⟨_, rfl⟩
      obtain ⟨rq, hrq⟩ : ∃ z, z = rnd Q := ⟨_, rfl⟩
      simp only [← hrp] at r1 sF rp0 rp1
      simp only [← hrq] at r2 sB rq0 rq1
      have a1 : i2 .add .i64 x' rp = x' + rp := hk.add64 _ _ (by omega) (by omega)
      have a2 : i2 .add .i64 y rq = y + rq := hk.add64 _ _ (by omega) (by omega)
      obtain ⟨sp', hsp⟩ : ∃ z, z = x' + rp := ⟨_, rfl⟩
      obtain ⟨sq, hsq⟩ : ∃ z, z = y + rq := ⟨_, rfl⟩
      rw [← hsp] at a1 sF
      rw [← hsq] at a2 sB
      have c1 := hcp sp'
      have c3 := hcp sq
      obtain ⟨cp, hcp'⟩ : ∃ z, z = clipZ sp' := ⟨_, rfl⟩
      obtain ⟨cq, hcq⟩ : ∃ z, z = clipZ sq := ⟨_, rfl⟩
      simp only [← hcp'] at c1 sF
      simp only [← hcq] at c3 sB
      have lXj := lX j
      have lYj := lY j
      obtain ⟨X0, hX00⟩ : ∃ x, x = X j := ⟨_, rfl⟩
      obtain ⟨Y0, hY00⟩ : ∃ x, x = Y j := ⟨_, rfl⟩
      obtain ⟨X1, hX10⟩ : ∃ x, x = X (j + 1) := ⟨_, rfl⟩
      obtain ⟨Y1, hY10⟩ : ∃ x, x = Y (j + 1) := ⟨_, rfl⟩
      rw [← hX00] at lXj sF ⊢
      rw [← hY00] at lYj sB ⊢
      rw [← hX10] at sF
      rw [← hY10] at sB
      have b1 := had j (by omega)
      have e1 : 0 ≤ j := by omega
      have e2 : 0 ≤ i1 := by omega
      have e3 : i1 < n := by omega
      clear hP hQ hxx hyy hXs hYs hrp hrq hsp hsq hcp' hcq hcl
      (conv => cbv)
      repeat' (first | assumption | ((first | rw [hs0] | rw [b1] | rw [hsi] | rw [lF] | rw [lB] | rw [lXj] | rw [lYj] | rw [gFi] | rw [gBi] | rw [m1'] | rw [m2] | rw [a1] | rw [a2] | rw [sF] | rw [sB] | refine hk.idxI e1 h6 ?_ | refine hk.idxI e2 e3 ?_ | refine stp ?_ | refine stpB (fun _ => ?_) (fun _ => ?_)) <;> (conv => cbv)) | exact stpF | fail)
      refine hb4 (j + 1) _ ⟨by omega, by omega⟩ (by omega) ?_
      rw [← hX10, ← hY10]
      refine Gh.tm ?_
      repeat' (first | exact Holds.nil _ _ | refine Holds.cons (Wk.refl _ _) ?_ | refine Holds.cons (Wk.of_eq ?_) ?_)
      all_goals first
       | (rw [← hk.add64 j 1 (by omega) (by omega)]; rfl)
       | rfl
       | skip
     ·have : j = i := by omega
      subst this
      have hbX := hsub (X j) (hXl j)
      have hbY := hsub (Y j) (hYl j)
      obtain ⟨X0, hX00⟩ : ∃ x, x = X j := ⟨_, rfl⟩
      obtain ⟨Y0, hY00⟩ : ∃ x, x = Y j := ⟨_, rfl⟩
      rw [← hX00] at hbX hFs ⊢
      rw [← hY00] at hbY hBs ⊢
      (conv => cbv)
      repeat' (first | assumption | ((first | rw [lF] | refine hx4 _ _ ?_ | refine stp ?_ | refine stpB (fun _ => ?_) (fun _ => ?_)) <;> (conv => cbv)) | exact stpF | fail)
      refine hb2 (m + 1) _ ⟨by omega, by omega⟩ (by omega) ?_
      rw [hFs, hBs, ← hQ10]
      refine Gh.trans (Gh.rz 2 1 (.il .i64 X0) (Nat.zero_le _) rfl rfl (fun t => .inl rfl)) ?_
      refine Gh.trans (Gh.rz 3 1 (.il .i64 Y0) (Nat.zero_le _) rfl rfl (fun t => .inl rfl)) ?_
      refine Gh.retok 0 1 rfl (Nat.le_of_ble_eq_true rfl) ?_ rfl rfl
      repeat' (first | exact HoldsT.nil _ _ _ _ | refine HoldsT.tok rfl ?_ | refine HoldsT.cons (Wk.refl _ _) rfl ?_ | refine HoldsT.cons (Wk.of_eq ?_) rfl ?_)
      all_goals first
       | (rw [← hk.add64 m 1 (by omega) (by omega)]; rfl)
       | rfl
       | skip
      all_goals first
       | (show AVal.ls (.il .i64 (rSub X0 0 n)) .any = _; rw [hbX])
       | (show AVal.ls (.il .i64 (rSub Y0 0 n)) .any = _; rw [hbY])
       | skip
  ·have : m = o := by omega
   subst this
   (conv => cbv)
   repeat' (first | assumption | ((first | refine hx2 _ _ ?_ | refine stp ?_ | refine stpB (fun _ => ?_) (fun _ => ?_)) <;> (conv => cbv)) | exact stpF | fail)
   all_goals exact hk.fin0 rfl rfl (Wk.tup ⟨Wk.any _ _ _, .refl _ _, trivial⟩)
end Go.Proofs.YtoeekjddeknmbaaGreat
