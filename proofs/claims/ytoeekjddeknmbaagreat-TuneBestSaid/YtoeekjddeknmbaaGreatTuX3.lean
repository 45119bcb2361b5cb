/-
  Contracts of functions of the program, proved over the abstract machine of the Al texts.
-/
import Derived.Test.YtoeekjddeknmbaaGreatTryTab
import Derived.Test.YtoeekjddeknmbaaGreatAl4
import Derived.Test.YtoeekjddeknmbaaGreatBaseX
import Derived.Test.YtoeekjddeknmbaaGreatBsX8
import Derived.Test.YtoeekjddeknmbaaGreatPlX
import Derived.Test.YtoeekjddeknmbaaGreatTkX3
import Derived.Test.YtoeekjddeknmbaaGreatTkX6
import Derived.Test.YtoeekjddeknmbaaGreatTkX7
import Derived.Test.YtoeekjddeknmbaaGreatHrX
import Derived.Test.YtoeekjddeknmbaaGreatThX
import Derived.Test.YtoeekjddeknmbaaGreatTuX2
import Derived.Test.YtoeekjddeknmbaaGreatSlX
import Derived.Test.YtoeekjddeknmbaaGreatNmX
import Derived.Test.YtoeekjddeknmbaaGreatNoX
import Derived.Test.YtoeekjddeknmbaaGreatFlX
import Derived.Test.YtoeekjddeknmbaaGreatNoY
import Derived.Test.YtoeekjddeknmbaaGreatTuX1
import Derived.Test.YtoeekjddeknmbaaGreatLtX2
import Derived.Test.YtoeekjddeknmbaaGreatGuX3
set_option maxHeartbeats 4000000
set_option maxRecDepth 20000
set_option linter.unusedSimpArgs false
set_option linter.unusedVariables false
open Go Go.AL
namespace Go.Proofs.YtoeekjddeknmbaaGreat
theorem bbits_any (x : BlkIn) (n d : Int) (h : Heap) (hn : n ≤ 64) (hx : x.e n d = 0) (h1 : x.ix.length ≤ 16) (h2 : x.rc.length ≤ 8) (h3 : x.da.length ≤ 1024) : Does PP 16 [x.v, I n, I d] h (Is (I (nbI x d)) h) := by
 have hp := bput_any x n d hn hx (Nat.le_trans h1 (by decide)) (Nat.le_trans h2 (by decide)) (Nat.le_trans h3 (by decide))
 obtain ⟨b1, b2⟩ := blk_len x n d hx
 exact bBits_spec x.kd x.vl x.sh x.ix x.lg x.gn x.pt x.rc x.da n d (blkBits x d) h b2 (fun e => by rw [e] at b1; simp at b1) hp
abbrev HTt (X : List Trl → List AVal) (N D : Int) (r : List Trd) : Heap := HQt r.length (r.length : Nat) N D (X (thH r))
theorem try_bad (x : BlkIn) (e N D : Int) (g : Nat) (k : Int) (xs : List AVal) (he : e ≠ 0) : Does PP 19 [.ptr 0 0, x.v, I e] (HQt g k N D xs) (Is (.tup []) (HQt g k N D xs)) := by
 obtain ⟨kd1, vl1, sh1, ix1, lg1, gn1, pt1, rc1, da1⟩ := x
 refine doesFs (fun i => Nat.beq i 42) P_ok Tryz.f19 (by kernel_rfl) (by kernel_rfl) ?_
 intro i2 c2 u1 cv mx mn ad sbt bn bq ba lnI gtI apI sbI stI rpI lnG gtG apG sbG stG rpG fi fb fs fl fg fc sln sgt sap ssb sc b2s s2b nd call calld callv callvd loop rfun fin hk
 (conv => cbv)
 repeat' (first | assumption | ((first | refine stp ?_ | refine stpB (fun _ => ?_) (fun _ => ?_)) <;> (conv => cbv)) | exact stpF | fail)
 all_goals exact hk.finI (fin_lowN 2 (Nat.le_refl 2) (Wk.refl _ _) rfl rfl ⟨rfl, rfl⟩)
theorem try_ok (X : List Trl → List AVal) (hX : ∀ l, X l = l.map ttr) (x : BlkIn) (N D : Int) (r : List Trd) (hr : r.length ≤ 500) (hn : N ≤ 64) (hx : x.e N D = 0) (h1 : x.ix.length ≤ 16) (h2 : x.rc.length ≤ 8) (h3 : x.da.length ≤ 1024) :
 Does PP 19 [.ptr 0 0, x.v, I 0] (HTt X N D r) (Is (.tup []) (HTt X N D ((x, nbI x D) :: r))) := by
 have hb := fun h => bbits_any x N D h hn hx h1 h2 h3
 have hpu := tHpush_spec X hX r.length (r.length : Nat) N D (x, nbI x D, ((r.length : Nat) : Int)) (thH r) (by rw [thH_len]) (by omega)
 rw [show pushL tlt dT (thH r) (x, nbI x D, ((r.length : Nat) : Int)) = thH ((x, nbI x D) :: r) from rfl] at hpu
 have e1 : ((x, nbI x D) :: r).length = r.length + 1 := rfl
 unfold HTt
 rw [e1, show (((r.length + 1 : Nat)) : Int) = ((r.length : Nat) : Int) + 1 by omega]
 have hpl : (((X (thH r)).length : Nat) : Int) = (r.length : Nat) := by rw [hX, List.length_map, thH_len]
 obtain ⟨Y1, hY1⟩ : ∃ Y1, Y1 = X (thH ((x, nbI x D) :: r)) := ⟨_, rfl⟩
 rw [← hY1] at hpu ⊢
 obtain ⟨Y0, hY0⟩ : ∃ Y0, Y0 = X (thH r) := ⟨_, rfl⟩
 rw [← hY0] at hpu hpl ⊢
 obtain ⟨b, hb0⟩ : ∃ b, b = nbI x D := ⟨_, rfl⟩
 simp only [← hb0] at hb hpu
 obtain ⟨g, hg⟩ : ∃ g, g = r.length := ⟨_, rfl⟩
 rw [← hg] at hpu hpl ⊢
 obtain ⟨k, hkk⟩ : ∃ k : Int, k = (g : Nat) := ⟨_, rfl⟩
 rw [← hkk] at hpu hpl ⊢
 obtain ⟨k1, hk1⟩ : ∃ k1 : Int, k1 = k + 1 := ⟨_, rfl⟩
 rw [← hk1] at hpu ⊢
 obtain ⟨kd1, vl1, sh1, ix1, lg1, gn1, pt1, rc1, da1⟩ := x
 have hpu2 : Does PP 42 [.iface 45 (.ptr 0 0), .iface 53 (.agg [I kd1, I vl1, I sh1, LI ix1, I lg1, I gn1, I pt1, LI rc1, LI da1, I b, I k])] [.box [.sl 1 g 0 k, I N, I D], .rw g (.gl ttS Y0), .box [I kd1, I vl1, I sh1, LI ix1, I lg1, I gn1, I pt1, LI rc1, LI da1]]
  (Is (.tup []) [.box [.sl 1 (g + 1) 0 k1, I N, I D], .rw (g + 1) (.gl ttS Y1), .box [I kd1, I vl1, I sh1, LI ix1, I lg1, I gn1, I pt1, LI rc1, LI da1]]) :=
  hpu.renI [0, 1] rfl (by decide) rfl ⟨rfl, rfl, trivial⟩ rfl rfl rfl rfl rfl rfl
 clear hY1 hY0 hb0 hg hkk hk1 hpu
 refine doesFs (fun i => Nat.beq i 42) P_ok Tryz.f19 (by kernel_rfl) (by kernel_rfl) ?_
 intro i2 c2 u1 cv mx mn ad sbt bn bq ba lnI gtI apI sbI stI rpI lnG gtG apG sbG stG rpG fi fb fs fl fg fc sln sgt sap ssb sc b2s s2b nd call calld callv callvd loop rfun fin hk
 have hbq : Nat.beq g g = true := Nat.beq_refl g
 conv at hbq => cbv
 have hs0 : sbt k 0 = k := by rw [hk.sb_eq]; omega
 (conv => cbv)
 repeat' (first | assumption | ((first | rw [hbq] | rw [hs0] | refine hk.callS hpu2 ?_ | refine hk.callA hpu2 ?_ | refine stp ?_ | refine stpB (fun _ => ?_) (fun _ => ?_)) <;> (conv => cbv)) | exact stpF | fail)
 all_goals exact hk.finI (fin_lowN 2 (Nat.le_refl 2) (Wk.refl _ _) rfl rfl ⟨rfl, rfl⟩)
theorem try_any (X : List Trl → List AVal) (hX : ∀ l, X l = l.map ttr) (l : List Int) (d : Int) (ix : List Int) (lg gn sh : Int) (T : List Trd) (hc : chkE l d = 0) (hl : l.length ≤ 64) (hi : ix.length ≤ 16) (hT : T.length ≤ 500) :
 Does PP 19 [.ptr 0 0, (nrmX l d ix lg gn sh).v, I (nrmE l d ix lg gn sh)] (HTt X (l.length : Nat) d T) (Is (.tup []) (HTt X (l.length : Nat) d (tryN l d ix lg gn sh T))) := by
 by_cases h : nrmE l d ix lg gn sh = 0
 ·obtain ⟨a, b, _, c1, c2, c3⟩ := nrmX_tr hc h hi
  have := try_ok X hX (nrmX l d ix lg gn sh) (l.length : Nat) d T hT (by omega) a c1 c2 c3
  rw [h, tryN, if_pos h]
  exact this
 ·rw [tryN, if_neg h]
  exact try_bad _ _ _ _ _ _ _ h
abbrev HNx (X : List Trl → List AVal) (N D : Int) (c : List AVal) (r : List Trd) (a b : Int) : Heap := [.box [.sl 1 r.length 0 (r.length : Nat), I N, I D], .rw r.length (.gl ttS (X (thH r))), .box c, .tok 0, .box [I a, I b]]
abbrev HNo (X : List Trl → List AVal) (N D : Int) (c : List AVal) (r : List Trd) : Heap := [.box [.sl 1 r.length 0 (r.length : Nat), I N, I D], .rw r.length (.gl ttS (X (thH r))), .box c, .tok 0]
theorem normals_spec (X : List Trl → List AVal) (hX : ∀ l, X l = l.map ttr) (l : List Int) (d o dp : Int) (lags wv sft : Bool) (hc : chkE l d = 0) (hl : l.length ≤ 64) (o0 : 0 ≤ o) (o1 : o ≤ 16) :
 Does PP 20 [.ptr 0 0, LI l, .agg [I o, I dp, .bool lags, .bool wv, .bool sft]] (HTt X (l.length : Nat) d (trl l d (shT l d sft) lags 0)) (Is (.tup []) (HTt X (l.length : Nat) d (trl l d (shT l d sft) lags (o + 1).toNat))) := by
 obtain ⟨l1, l2, d1, d2, lk⟩ := chkE_ok hc
 have hsr := shT_rg (l := l) sft d1
 have hsh := fun h => shift_spec l h (by omega) (shW_low l)
 obtain ⟨sh, hsh0⟩ : ∃ x, x = shT l d sft := ⟨_, rfl⟩
 have hsE : sft = true → (if d - 1 < shW l then d - 1 else shW l) = sh := fun e => by rw [hsh0, shT, if_pos e]
 have hsE0 : sft = false → sh = 0 := fun e => by rw [hsh0, shT, e]; rfl
 rw [← hsh0] at hsr ⊢
 obtain ⟨w, hw⟩ : ∃ x, x = shW l := ⟨_, rfl⟩
 simp only [← hw] at hsh hsE
 have hwr : 0 ≤ w ∧ w ≤ 24 := by rw [hw]; exact ⟨(shW_low l).1, (shW_low l).2.1⟩
 clear hsh0 hw
 have hlow := lowL_s26 hc hsr.1
 have hlowl := lowL_len sh l
 have hgu := fun h => tguess_spec (lowL sh l) o h (by omega) (by omega) hlow o0 o1
 obtain ⟨n, hn⟩ : ∃ n : Int, n = (l.length : Nat) := ⟨_, rfl⟩
 have hn0 : 1 ≤ n ∧ n ≤ 64 := by omega
 obtain ⟨R, hR⟩ : ∃ R : Int → List Trd, ∀ m, R m = trl l d sh lags m.toNat := ⟨_, fun _ => rfl⟩
 obtain ⟨C, hC⟩ : ∃ C : List AVal, C = [I o, I dp, .bool lags, .bool wv, .bool sft] := ⟨_, rfl⟩
 -- what is tried in a round
 have hst : ∀ m : Int, 0 ≤ m → m ≤ o → ∃ (ix e : List Int) (x1 x2 : BlkIn) (E1 E2 lg gn : Int) (T1 T2 : List Trd),
  (guess (lowL sh l) o.toNat).take m.toNat = ix ∧
  (∀ h, Does PP 45 [LI l, I d, LI ix, .agg [I 0, I 0], I sh] h (Is (.tup [x1.v, I E1]) h)) ∧
  Does PP 19 [.ptr 0 0, x1.v, I E1] (HNo X n d C (R m)) (Is (.tup []) (HNo X n d C T1)) ∧
  (∀ h, Does PP 46 [LI ix, LI (lowL sh l)] h (Is (.tup [LI e, I 0]) h)) ∧
  (∀ h, Does PP 47 [LI e] h (Is (.agg [I lg, I gn]) h)) ∧
  (∀ h, Does PP 45 [LI l, I d, LI ix, .agg [I lg, I gn], I sh] h (Is (.tup [x2.v, I E2]) h)) ∧
  Does PP 19 [.ptr 0 0, x2.v, I E2] (HNx X n d C T1 lg gn) (Is (.tup []) (HNx X n d C T2 lg gn)) ∧
  (lags = true → ¬ (lg = 0 ∧ gn = 0) → R (m + 1) = T2) ∧ (lags = false ∨ (lg = 0 ∧ gn = 0) → R (m + 1) = T1) := fun m a b => by
  have e1 : (m + 1).toNat = m.toNat + 1 := by omega
  have hgl : (guess (lowL sh l) m.toNat).length ≤ 16 := by rw [guess_len]; omega
  have hRl : (R m).length ≤ 100 := by rw [hR]; have := trl_len l d sh lags m.toNat; omega
  have hT1l := tryN_len (l := l) (d := d) (ix := guess (lowL sh l) m.toNat) (lg := 0) (gn := 0) (sh := sh) (T := R m)
  have t1 := try_any X hX l d (guess (lowL sh l) m.toNat) 0 0 sh (R m) hc hl hgl (by omega)
  have t2 := try_any X hX l d (guess (lowL sh l) m.toNat) (bestT (resG l sh m.toNat)).1 (bestT (resG l sh m.toNat)).2 sh (tryN l d (guess (lowL sh l) m.toNat) 0 0 sh (R m)) hc hl hgl (by omega)
  rw [← hn] at t1 t2
  have hRs : R (m + 1) = if lags = true ∧ bestT (resG l sh m.toNat) ≠ (0, 0)
   then tryN l d (guess (lowL sh l) m.toNat) (bestT (resG l sh m.toNat)).1 (bestT (resG l sh m.toNat)).2 sh (tryN l d (guess (lowL sh l) m.toNat) 0 0 sh (R m))
   else tryN l d (guess (lowL sh l) m.toNat) 0 0 sh (R m) := by rw [hR, hR, e1, trl]
  have hbs := fun h => lbest_spec (resG l sh m.toNat) h (by rw [resG, resL_len, hlowl]; omega)
  refine ⟨guess (lowL sh l) m.toNat, resG l sh m.toNat, nrmX l d (guess (lowL sh l) m.toNat) 0 0 sh, nrmX l d (guess (lowL sh l) m.toNat) (bestT (resG l sh m.toNat)).1 (bestT (resG l sh m.toNat)).2 sh, _, _, (bestT (resG l sh m.toNat)).1, (bestT (resG l sh m.toNat)).2, tryN l d (guess (lowL sh l) m.toNat) 0 0 sh (R m), tryN l d (guess (lowL sh l) m.toNat) (bestT (resG l sh m.toNat)).1 (bestT (resG l sh m.toNat)).2 sh (tryN l d (guess (lowL sh l) m.toNat) 0 0 sh (R m)), guess_take _ _ _ (by omega),
   fun h => bnormal_spec l d _ 0 0 sh h (by omega) (by omega), ?_, fun h => residuals_spec _ _ h (guess_ok _ _ (by omega)) hlow (by omega), hbs, fun h => bnormal_spec l d _ _ _ sh h (by omega) (by omega), ?_, fun h1 h2 => ?_, fun h1 => ?_⟩
  ·generalize tryN l d (guess (lowL sh l) m.toNat) 0 0 sh (R m) = T1 at *
   generalize nrmX l d (guess (lowL sh l) m.toNat) 0 0 sh = x1 at *
   generalize nrmE l d (guess (lowL sh l) m.toNat) 0 0 sh = E1 at *
   generalize R m = R0 at *
   rw [hC]
   exact t1.renI [0, 1] rfl (by decide) rfl ⟨rfl, rfl, trivial⟩ rfl rfl rfl rfl rfl rfl
  ·generalize tryN l d (guess (lowL sh l) m.toNat) (bestT (resG l sh m.toNat)).1 (bestT (resG l sh m.toNat)).2 sh (tryN l d (guess (lowL sh l) m.toNat) 0 0 sh (R m)) = T2 at *
   generalize tryN l d (guess (lowL sh l) m.toNat) 0 0 sh (R m) = T1 at *
   generalize nrmX l d (guess (lowL sh l) m.toNat) (bestT (resG l sh m.toNat)).1 (bestT (resG l sh m.toNat)).2 sh = x1 at *
   generalize nrmE l d (guess (lowL sh l) m.toNat) (bestT (resG l sh m.toNat)).1 (bestT (resG l sh m.toNat)).2 sh = E1 at *
   generalize (bestT (resG l sh m.toNat)).1 = lg at *
   generalize (bestT (resG l sh m.toNat)).2 = gn at *
   rw [hC]
   exact t2.renI [0, 1] rfl (by decide) rfl ⟨rfl, rfl, trivial⟩ rfl rfl rfl rfl rfl rfl
  ·rw [hRs, if_pos ⟨h1, fun e => h2 (Prod.ext_iff.1 e)⟩]
  ·rw [hRs, if_neg]
   rintro ⟨h2, h3⟩
   rcases h1 with h1 | h1
   ·rw [h1] at h2; cases h2
   ·exact h3 (Prod.ext_iff.2 h1)
 rw [show trl l d sh lags 0 = R 0 from (hR 0).symm, ← hR, ← hn]
 obtain ⟨low, hlow0⟩ : ∃ x, x = lowL sh l := ⟨_, rfl⟩
 have hlg : ∀ i : Int, 0 ≤ i → i < n → low.getD i.toNat 0 = l.getD i.toNat 0 / 2 ^ sh.toNat := fun i a b => by rw [hlow0, lowL_get _ _ _ (by omega)]
 simp only [← hlow0] at hst hgu hlowl
 obtain ⟨Q, hQ⟩ : ∃ Q : Int → List Int, ∀ i, Q i = low.take i.toNat := ⟨_, fun _ => rfl⟩
 have hQ0 : Q 0 = [] := by rw [hQ]; rfl
 have hQn : Q n = low := by rw [hQ]; exact List.take_of_length_le (by omega)
 have hQl : ∀ i : Int, 0 ≤ i → i ≤ n → ((Q i).length : Int) = i := fun i a b => by rw [hQ, List.length_take]; omega
 have hQs : ∀ i : Int, 0 ≤ i → i < n → Q (i + 1) = Q i ++ [l.getD i.toNat 0 / 2 ^ sh.toNat] := fun i a b => by
  rw [hQ, hQ, show (i + 1).toNat = i.toNat + 1 by omega, takeI_snoc _ _ (by omega), hlg i a b]
 obtain ⟨q, hq0⟩ : ∃ x, x = guess low o.toNat := ⟨_, rfl⟩
 have hql : (q.length : Int) = o := by rw [hq0, guess_len]; omega
 simp only [← hq0] at hgu hst
 obtain ⟨G, hG⟩ : ∃ G : Int → Nat, ∀ m, G m = (R m).length := ⟨_, fun _ => rfl⟩
 obtain ⟨K, hK⟩ : ∃ K : Int → Int, ∀ m, K m = ((R m).length : Nat) := ⟨_, fun _ => rfl⟩
 obtain ⟨Y, hY⟩ : ∃ Y : Int → List AVal, ∀ m, Y m = X (thH (R m)) := ⟨_, fun _ => rfl⟩
 have hRK : ∀ m, ((G m : Nat) : Int) = K m := fun m => by rw [hG, hK]
 unfold HTt HQt
 unfold HNo HNx at hst
 simp only [← hY, ← hG] at hst ⊢
 simp only [hRK] at hst ⊢
 subst hC
 clear hq0 hQ hlg hlow0 hlow hX lk hc
 obtain ⟨g0, hg0⟩ : ∃ x, x = G 0 := ⟨_, rfl⟩
 obtain ⟨k0, hk0⟩ : ∃ x, x = K 0 := ⟨_, rfl⟩
 obtain ⟨Y0, hY0⟩ : ∃ x, x = Y 0 := ⟨_, rfl⟩
 obtain ⟨g9, hg9⟩ : ∃ x, x = G (o + 1) := ⟨_, rfl⟩
 obtain ⟨k9, hk9⟩ : ∃ x, x = K (o + 1) := ⟨_, rfl⟩
 obtain ⟨Y9, hY9⟩ : ∃ x, x = Y (o + 1) := ⟨_, rfl⟩
 rw [← hg0, ← hk0, ← hY0, ← hg9, ← hk9, ← hY9]
 have key : ∀ (m : Int), True := fun _ => trivial
 refine doesFs (fun i => Nat.beq i 19) P_ok Tryz.f20 (by kernel_rfl) (by kernel_rfl) ?_
 intro i2 c2 u1 cv mx mn ad sbt bn bq ba lnI gtI apI sbI stI rpI lnG gtG apG sbG stG rpG fi fb fs fl fg fc sln sgt sap ssb sc b2s s2b nd call calld callv callvd loop rfun fin hk
 have hlnl : lnI l = n := by rw [hk.lnI_eq]; omega
 have hgl := hk.gtI_eq l
 have hln := hk.lnI_eq
 have hap0 := hk.apI_eq
 have hl1 : ∀ x, lnI [x] = 1 := fun x => hk.lnI_eq _
 obtain ⟨dm, hdm⟩ : ∃ x : Int, x = d - 1 := ⟨_, rfl⟩
 have hsu : i2 .sub .i64 d 1 = dm := by rw [hdm]; exact hk.sub64 _ _ (by omega) (by omega)
 have hmn : sft = true → mn w dm = sh := fun e => by rw [hk.mn_eq, hdm, ← hsE e]
 have hgu2 : ∀ h, Does PP 44 [.ls (.il .i64 low) (.tok 3 0), I o] h (Is (.tup [LI q, I 0]) h) := fun h => (hgu h).wk (by repeat' (first | exact WkL.nil | refine WkL.cons (Wk.refl _ _) ?_ | refine WkL.cons (Wk.any _ _ _) ?_ | refine WkL.cons (Wk.nilL _ _) ?_))
 have hlq : lnI q = o := by rw [hln, hql]
 have hsbI := hk.sbI_eq q
 obtain ⟨o9, ho9⟩ : ∃ x : Int, x = o + 1 := ⟨_, rfl⟩
 have hoo : i2 .add .i64 o 1 = o9 := by rw [ho9]; exact hk.add64 _ _ (by omega) (by omega)
 have hshr : ∀ x : Int, i2 .shr .i64 x sh = x / 2 ^ sh.toNat := fun x => by
  rw [hk.i2_eq]
  show (x : Int).fdiv (2 ^ (min sh.toNat 64)) = _
  rw [show min sh.toNat 64 = sh.toNat by omega, Int.fdiv_eq_ediv_of_nonneg _ (Int.le_of_lt (Int.pow_pos (by decide)))]
 have s0 := hsr.1
 obtain ⟨P, hP⟩ : ∃ P : Int → Int, ∀ x, P x = x / 2 ^ sh.toNat := ⟨_, fun _ => rfl⟩
 simp only [← hP] at hshr hQs
 clear hP hgu
 cases sft
 ·have hsE0 := hsE0 rfl
  clear hmn hsE
  subst hsE0
  (conv => cbv)
  repeat' (first | assumption | ((first | rw [hlnl] | rw [hsu] | refine stp ?_ | refine stpB (fun _ => ?_) (fun _ => ?_)) <;> (conv => cbv)) | exact stpF | fail)
  refine hk.loopI (loop_rule (α := Int) (fun i => [(0, .ptr 0 0), (1, .ls (.il .i64 l) .any), (5, .ptr 2 0), (6, .int .i64 0), (7, .ls (.il .i64 (Q i)) (.tok 3 0)), (26, .ls (.il .i64 l) .any), (27, .int .i64 n), (28, .int .i64 i)])
   (fun i => [.box [.sl 1 g0 0 k0, I n, I d], .rw g0 (.gl ttS Y0), .box [I o, I dp, .bool lags, .bool wv, .bool false], .tok 0]) (fun i => 0 ≤ i ∧ i ≤ n) (fun i => (n - i).toNat) 0 ⟨by omega, by omega⟩ ?_ ?_)
  ·rw [hQ0]
   refine Gh.trans (Gh.thaw 7 (.il .i64 []) rfl trivial rfl) (Gh.tm ?_)
   repeat' (first | exact Holds.nil _ _ | refine Holds.cons (Wk.refl _ _) ?_)
  intro i ⟨hi, hi2⟩ Q' hb hx hr
  by_cases h2 : i < n
  ·have hqs := hQs i hi h2
   rw [← hgl] at hqs
   have lQ := hln (Q i)
   rw [hQl i hi hi2] at lQ
   have aQ := hap0 (Q i) [P (gtI l i)]
   rw [← hqs] at aQ
   have hshr := hshr (gtI l i)
   obtain ⟨x, hx0⟩ : ∃ x, x = gtI l i := ⟨_, rfl⟩
   rw [← hx0] at aQ hshr
   obtain ⟨y, hy0⟩ : ∃ y, y = P x := ⟨_, rfl⟩
   rw [← hy0] at aQ hshr
   obtain ⟨Q0, hQ00⟩ : ∃ x, x = Q i := ⟨_, rfl⟩
   obtain ⟨Q1, hQ10⟩ : ∃ x, x = Q (i + 1) := ⟨_, rfl⟩
   rw [← hQ00] at aQ lQ ⊢
   rw [← hQ10] at aQ
   clear hqs
   (conv => cbv)
   repeat' (first | assumption | ((first | rw [hlnl] | refine hk.idxI hi h2 ?_ | rw [← hx0] | refine hk.ge0I s0 ?_ | rw [hshr] | rw [lQ] | rw [hl1] | rw [aQ] | refine stp ?_ | refine stpB (fun _ => ?_) (fun _ => ?_)) <;> (conv => cbv)) | exact stpF | fail)
   refine hb (i + 1) _ ⟨by omega, by omega⟩ (by omega) ?_
   rw [← hQ10]
   refine Gh.retok 3 1 rfl (Nat.le_of_ble_eq_true rfl) ?_ rfl rfl
   repeat' (first | exact HoldsT.nil _ _ _ _ | refine HoldsT.tok rfl ?_ | refine HoldsT.cons (Wk.refl _ _) rfl ?_ | refine HoldsT.cons (Wk.of_eq ?_) rfl ?_)
   all_goals first
    | (rw [← hk.add64 i 1 (by omega) (by omega)]; rfl)
    | rfl
    | skip
  have : i = n := by omega
  subst this
  rw [hQn]
  clear hb hr
  (conv => cbv)
  repeat' (first | assumption | ((first | refine hx _ _ ?_ | rw [hlq] | rw [hoo] | refine stp ?_ | refine stpB (fun _ => ?_) (fun _ => ?_)) <;> (conv => cbv)) | exact stpF | fail)
  clear hx
  refine hk.loopI (loop_rule (α := Int) (fun m => [(0, .ptr 0 0), (1, .ls (.il .i64 l) .any), (5, .ptr 2 0), (6, .int .i64 0), (7, .ls (.il .i64 low) .any), (10, .ls (.il .i64 q) .any), (48, .int .i64 o9), (49, .int .i64 m)])
   (fun m => [.box [.sl 1 (G m) 0 (K m), I i, I d], .rw (G m) (.gl ttS (Y m)), .box [I o, I dp, .bool lags, .bool wv, .bool false], .tok 0]) (fun m => 0 ≤ m ∧ m ≤ o9) (fun m => (o9 - m).toNat) 0 ⟨by omega, by omega⟩ ?_ ?_)
  ·rw [← hg0, ← hk0, ← hY0]
   refine Gh.tm ?_
   repeat' (first | exact Holds.nil _ _ | refine Holds.cons (Wk.refl _ _) ?_ | refine Holds.cons (Wk.any _ _ _) ?_)
  intro m ⟨hm, hm2⟩ Q2 hb2 hx2 hr2
  by_cases h3 : m < o9
  ·have hmo : m ≤ o := by omega
   obtain ⟨ix, e, x1, x2, E1, E2, lg, gn, T1, T2, hix, hnr1, htr1, hrs, hbs, hnr2, htr2, hR1, hR2⟩ := hst m hm hmo
   have hsb : sbI q 0 m = ix := by rw [hsbI, ← hix]; simp
   have hG1 := hG (m + 1)
   have hK1 := hK (m + 1)
   have hY1 := hY (m + 1)
   obtain ⟨t, ht⟩ : ∃ t, t = bn (ba (c2 .eql lg 0) (ba (c2 .eql gn 0) true)) := ⟨_, rfl⟩
   have ht2 : t = decide (¬ (lg = 0 ∧ gn = 0)) := by
    rw [ht, hk.bn_eq, hk.ba_eq, hk.ba_eq, hk.c2_eql, hk.c2_eql]
    by_cases a : lg = 0 <;> by_cases b : gn = 0 <;> simp [a, b]
   obtain ⟨gm, hgm⟩ : ∃ x, x = G m := ⟨_, rfl⟩
   obtain ⟨km, hkm⟩ : ∃ x, x = K m := ⟨_, rfl⟩
   obtain ⟨Ym, hYm⟩ : ∃ x, x = Y m := ⟨_, rfl⟩
   rw [← hgm, ← hkm, ← hYm] at htr1 ⊢
   obtain ⟨gt, hgt⟩ : ∃ x, x = T1.length := ⟨_, rfl⟩
   obtain ⟨kt, hkt⟩ : ∃ x : Int, x = ((T1.length : Nat) : Int) := ⟨_, rfl⟩
   obtain ⟨Yt, hYt⟩ : ∃ x, x = X (thH T1) := ⟨_, rfl⟩
   rw [← hgt, ← hYt] at htr1 htr2
   rw [show ((gt : Nat) : Int) = kt by rw [hgt, hkt]] at htr1 htr2
   obtain ⟨gu, hgu⟩ : ∃ x, x = T2.length := ⟨_, rfl⟩
   obtain ⟨ku, hku⟩ : ∃ x : Int, x = ((T2.length : Nat) : Int) := ⟨_, rfl⟩
   obtain ⟨Yu, hYu⟩ : ∃ x, x = X (thH T2) := ⟨_, rfl⟩
   rw [← hgu, ← hYu] at htr2
   rw [show ((gu : Nat) : Int) = ku by rw [hgu, hku]] at htr2
   cases lags
   ·have hR2 := hR2 (.inl rfl)
    rw [hR2] at hG1 hK1 hY1
    clear hR1 ht ht2
    (conv => cbv)
    repeat' (first | assumption | ((first | rw [hlq] | rw [hsb] | refine hk.callS htr1 ?_ | refine hk.callA htr1 ?_ | refine stp ?_ | refine stpB (fun _ => ?_) (fun _ => ?_)) <;> (conv => cbv)) | exact stpF | fail)
    refine hb2 (m + 1) _ ⟨by omega, by omega⟩ (by omega) ?_
    rw [hG1, hK1, hY1, ← hgt, show ((gt : Nat) : Int) = kt by rw [hgt, hkt], ← hYt]
    refine Gh.tm ?_
    repeat' (first | exact Holds.nil _ _ | refine Holds.cons (Wk.refl _ _) ?_ | refine Holds.cons (Wk.of_eq ?_) ?_)
    all_goals first
     | (rw [← hk.add64 m 1 (by omega) (by omega)]; rfl)
     | rfl
     | skip
   ·by_cases h4 : lg = 0 ∧ gn = 0
    ·have hR2 := hR2 (.inr h4)
     have ht2 : t = false := by rw [ht2]; simp [h4]
     rw [ht2] at ht
     rw [hR2] at hG1 hK1 hY1
     clear hR1 h4
     (conv => cbv)
     repeat' (first | assumption | ((first | rw [hlq] | rw [hsb] | refine hk.callS htr1 ?_ | refine hk.callA htr1 ?_ | rw [← ht] | refine stp ?_ | refine stpB (fun _ => ?_) (fun _ => ?_)) <;> (conv => cbv)) | exact stpF | fail)
     refine hb2 (m + 1) _ ⟨by omega, by omega⟩ (by omega) ?_
     rw [hG1, hK1, hY1, ← hgt, show ((gt : Nat) : Int) = kt by rw [hgt, hkt], ← hYt]
     refine Gh.low 4 (Nat.le_of_ble_eq_true rfl) ?_ rfl rfl rfl
     repeat' (first | exact Holds.nil _ _ | refine Holds.cons (Wk.refl _ _) ?_ | refine Holds.cons (Wk.of_eq ?_) ?_)
     all_goals first
      | (rw [← hk.add64 m 1 (by omega) (by omega)]; rfl)
      | rfl
      | skip
    ·have hR1 := hR1 rfl h4
     have ht2 : t = true := by rw [ht2]; simp [h4]
     rw [ht2] at ht
     rw [hR1] at hG1 hK1 hY1
     clear hR2 h4
     (conv => cbv)
     repeat' (first | assumption | ((first | rw [hlq] | rw [hsb] | refine hk.callS htr1 ?_ | refine hk.callA htr1 ?_ | rw [← ht] | refine hk.callS htr2 ?_ | refine hk.callA htr2 ?_ | refine stp ?_ | refine stpB (fun _ => ?_) (fun _ => ?_)) <;> (conv => cbv)) | exact stpF | fail)
     refine hb2 (m + 1) _ ⟨by omega, by omega⟩ (by omega) ?_
     rw [hG1, hK1, hY1, ← hgu, show ((gu : Nat) : Int) = ku by rw [hgu, hku], ← hYu]
     refine Gh.low 4 (Nat.le_of_ble_eq_true rfl) ?_ rfl rfl rfl
     repeat' (first | exact Holds.nil _ _ | refine Holds.cons (Wk.refl _ _) ?_ | refine Holds.cons (Wk.of_eq ?_) ?_)
     all_goals first
      | (rw [← hk.add64 m 1 (by omega) (by omega)]; rfl)
      | rfl
      | skip
  ·have : m = o9 := by omega
   subst this
   rw [ho9, ← hg9, ← hk9, ← hY9]
   (conv => cbv)
   repeat' (first | assumption | ((first | refine hx2 _ _ ?_ | refine stp ?_ | refine stpB (fun _ => ?_) (fun _ => ?_)) <;> (conv => cbv)) | exact stpF | fail)
   all_goals exact hk.finI (fin_lowN 2 (Nat.le_refl 2) (Wk.refl _ _) rfl rfl ⟨rfl, rfl⟩)
 ·have hmn := hmn rfl
  clear hsE0 hsE
  (conv => cbv)
  repeat' (first | assumption | ((first | rw [hlnl] | rw [hsu] | rw [hmn] | refine stp ?_ | refine stpB (fun _ => ?_) (fun _ => ?_)) <;> (conv => cbv)) | exact stpF | fail)
  refine hk.loopI (loop_rule (α := Int) (fun i => [(0, .ptr 0 0), (1, .ls (.il .i64 l) .any), (5, .ptr 2 0), (6, .int .i64 sh), (7, .ls (.il .i64 (Q i)) (.tok 3 0)), (26, .ls (.il .i64 l) .any), (27, .int .i64 n), (28, .int .i64 i)])
   (fun i => [.box [.sl 1 g0 0 k0, I n, I d], .rw g0 (.gl ttS Y0), .box [I o, I dp, .bool lags, .bool wv, .bool true], .tok 0]) (fun i => 0 ≤ i ∧ i ≤ n) (fun i => (n - i).toNat) 0 ⟨by omega, by omega⟩ ?_ ?_)
  ·rw [hQ0]
   refine Gh.trans (Gh.thaw 7 (.il .i64 []) rfl trivial rfl) (Gh.tm ?_)
   repeat' (first | exact Holds.nil _ _ | refine Holds.cons (Wk.refl _ _) ?_)
  intro i ⟨hi, hi2⟩ Q' hb hx hr
  by_cases h2 : i < n
  ·have hqs := hQs i hi h2
   rw [← hgl] at hqs
   have lQ := hln (Q i)
   rw [hQl i hi hi2] at lQ
   have aQ := hap0 (Q i) [P (gtI l i)]
   rw [← hqs] at aQ
   have hshr := hshr (gtI l i)
   obtain ⟨x, hx0⟩ : ∃ x, x = gtI l i := ⟨_, rfl⟩
   rw [← hx0] at aQ hshr
   obtain ⟨y, hy0⟩ : ∃ y, y = P x := ⟨_, rfl⟩
   rw [← hy0] at aQ hshr
   obtain ⟨Q0, hQ00⟩ : ∃ x, x = Q i := ⟨_, rfl⟩
   obtain ⟨Q1, hQ10⟩ : ∃ x, x = Q (i + 1) := ⟨_, rfl⟩
   rw [← hQ00] at aQ lQ ⊢
   rw [← hQ10] at aQ
   clear hqs
   (conv => cbv)
   repeat' (first | assumption | ((first | rw [hlnl] | refine hk.idxI hi h2 ?_ | rw [← hx0] | refine hk.ge0I s0 ?_ | rw [hshr] | rw [lQ] | rw [hl1] | rw [aQ] | refine stp ?_ | refine stpB (fun _ => ?_) (fun _ => ?_)) <;> (conv => cbv)) | exact stpF | fail)
   refine hb (i + 1) _ ⟨by omega, by omega⟩ (by omega) ?_
   rw [← hQ10]
   refine Gh.retok 3 1 rfl (Nat.le_of_ble_eq_true rfl) ?_ rfl rfl
   repeat' (first | exact HoldsT.nil _ _ _ _ | refine HoldsT.tok rfl ?_ | refine HoldsT.cons (Wk.refl _ _) rfl ?_ | refine HoldsT.cons (Wk.of_eq ?_) rfl ?_)
   all_goals first
    | (rw [← hk.add64 i 1 (by omega) (by omega)]; rfl)
    | rfl
    | skip
  have : i = n := by omega
  subst this
  rw [hQn]
  clear hb hr
  (conv => cbv)
  repeat' (first | assumption | ((first | refine hx _ _ ?_ | rw [hlq] | rw [hoo] | refine stp ?_ | refine stpB (fun _ => ?_) (fun _ => ?_)) <;> (conv => cbv)) | exact stpF | fail)
  clear hx
  refine hk.loopI (loop_rule (α := Int) (fun m => [(0, .ptr 0 0), (1, .ls (.il .i64 l) .any), (5, .ptr 2 0), (6, .int .i64 sh), (7, .ls (.il .i64 low) .any), (10, .ls (.il .i64 q) .any), (48, .int .i64 o9), (49, .int .i64 m)])
   (fun m => [.box [.sl 1 (G m) 0 (K m), I i, I d], .rw (G m) (.gl ttS (Y m)), .box [I o, I dp, .bool lags, .bool wv, .bool true], .tok 0]) (fun m => 0 ≤ m ∧ m ≤ o9) (fun m => (o9 - m).toNat) 0 ⟨by omega, by omega⟩ ?_ ?_)
  ·rw [← hg0, ← hk0, ← hY0]
   refine Gh.tm ?_
   repeat' (first | exact Holds.nil _ _ | refine Holds.cons (Wk.refl _ _) ?_ | refine Holds.cons (Wk.any _ _ _) ?_)
  intro m ⟨hm, hm2⟩ Q2 hb2 hx2 hr2
  by_cases h3 : m < o9
  ·have hmo : m ≤ o := by omega
   obtain ⟨ix, e, x1, x2, E1, E2, lg, gn, T1, T2, hix, hnr1, htr1, hrs, hbs, hnr2, htr2, hR1, hR2⟩ := hst m hm hmo
   have hsb : sbI q 0 m = ix := by rw [hsbI, ← hix]; simp
   have hG1 := hG (m + 1)
   have hK1 := hK (m + 1)
   have hY1 := hY (m + 1)
   obtain ⟨t, ht⟩ : ∃ t, t = bn (ba (c2 .eql lg 0) (ba (c2 .eql gn 0) true)) := ⟨_, rfl⟩
   have ht2 : t = decide (¬ (lg = 0 ∧ gn = 0)) := by
    rw [ht, hk.bn_eq, hk.ba_eq, hk.ba_eq, hk.c2_eql, hk.c2_eql]
    by_cases a : lg = 0 <;> by_cases b : gn = 0 <;> simp [a, b]
   obtain ⟨gm, hgm⟩ : ∃ x, x = G m := ⟨_, rfl⟩
   obtain ⟨km, hkm⟩ : ∃ x, x = K m := ⟨_, rfl⟩
   obtain ⟨Ym, hYm⟩ : ∃ x, x = Y m := ⟨_, rfl⟩
   rw [← hgm, ← hkm, ← hYm] at htr1 ⊢
   obtain ⟨gt, hgt⟩ : ∃ x, x = T1.length := ⟨_, rfl⟩
   obtain ⟨kt, hkt⟩ : ∃ x : Int, x = ((T1.length : Nat) : Int) := ⟨_, rfl⟩
   obtain ⟨Yt, hYt⟩ : ∃ x, x = X (thH T1) := ⟨_, rfl⟩
   rw [← hgt, ← hYt] at htr1 htr2
   rw [show ((gt : Nat) : Int) = kt by rw [hgt, hkt]] at htr1 htr2
   obtain ⟨gu, hgu⟩ : ∃ x, x = T2.length := ⟨_, rfl⟩
   obtain ⟨ku, hku⟩ : ∃ x : Int, x = ((T2.length : Nat) : Int) := ⟨_, rfl⟩
   obtain ⟨Yu, hYu⟩ : ∃ x, x = X (thH T2) := ⟨_, rfl⟩
   rw [← hgu, ← hYu] at htr2
   rw [show ((gu : Nat) : Int) = ku by rw [hgu, hku]] at htr2
   cases lags
   ·have hR2 := hR2 (.inl rfl)
    rw [hR2] at hG1 hK1 hY1
    clear hR1 ht ht2
    (conv => cbv)
    repeat' (first | assumption | ((first | rw [hlq] | rw [hsb] | refine hk.callS htr1 ?_ | refine hk.callA htr1 ?_ | refine stp ?_ | refine stpB (fun _ => ?_) (fun _ => ?_)) <;> (conv => cbv)) | exact stpF | fail)
    refine hb2 (m + 1) _ ⟨by omega, by omega⟩ (by omega) ?_
    rw [hG1, hK1, hY1, ← hgt, show ((gt : Nat) : Int) = kt by rw [hgt, hkt], ← hYt]
    refine Gh.tm ?_
    repeat' (first | exact Holds.nil _ _ | refine Holds.cons (Wk.refl _ _) ?_ | refine Holds.cons (Wk.of_eq ?_) ?_)
    all_goals first
     | (rw [← hk.add64 m 1 (by omega) (by omega)]; rfl)
     | rfl
     | skip
   ·by_cases h4 : lg = 0 ∧ gn = 0
    ·have hR2 := hR2 (.inr h4)
     have ht2 : t = false := by rw [ht2]; simp [h4]
     rw [ht2] at ht
     rw [hR2] at hG1 hK1 hY1
     clear hR1 h4
     (conv => cbv)
     repeat' (first | assumption | ((first | rw [hlq] | rw [hsb] | refine hk.callS htr1 ?_ | refine hk.callA htr1 ?_ | rw [← ht] | refine stp ?_ | refine stpB (fun _ => ?_) (fun _ => ?_)) <;> (conv => cbv)) | exact stpF | fail)
     refine hb2 (m + 1) _ ⟨by omega, by omega⟩ (by omega) ?_
     rw [hG1, hK1, hY1, ← hgt, show ((gt : Nat) : Int) = kt by rw [hgt, hkt], ← hYt]
     refine Gh.low 4 (Nat.le_of_ble_eq_true rfl) ?_ rfl rfl rfl
     repeat' (first | exact Holds.nil _ _ | refine Holds.cons (Wk.refl _ _) ?_ | refine Holds.cons (Wk.of_eq ?_) ?_)
     all_goals first
      | (rw [← hk.add64 m 1 (by omega) (by omega)]; rfl)
      | rfl
      | skip
    ·have hR1 := hR1 rfl h4
     have ht2 : t = true := by rw [ht2]; simp [h4]
     rw [ht2] at ht
     rw [hR1] at hG1 hK1 hY1
     clear hR2 h4
     (conv => cbv)
     repeat' (first | assumption | ((first | rw [hlq] | rw [hsb] | refine hk.callS htr1 ?_ | refine hk.callA htr1 ?_ | rw [← ht] | refine hk.callS htr2 ?_ | refine hk.callA htr2 ?_ | refine stp ?_ | refine stpB (fun _ => ?_) (fun _ => ?_)) <;> (conv => cbv)) | exact stpF | fail)
     refine hb2 (m + 1) _ ⟨by omega, by omega⟩ (by omega) ?_
     rw [hG1, hK1, hY1, ← hgu, show ((gu : Nat) : Int) = ku by rw [hgu, hku], ← hYu]
     refine Gh.low 4 (Nat.le_of_ble_eq_true rfl) ?_ rfl rfl rfl
     repeat' (first | exact Holds.nil _ _ | refine Holds.cons (Wk.refl _ _) ?_ | refine Holds.cons (Wk.of_eq ?_) ?_)
     all_goals first
      | (rw [← hk.add64 m 1 (by omega) (by omega)]; rfl)
      | rfl
      | skip
  ·have : m = o9 := by omega
   subst this
   rw [ho9, ← hg9, ← hk9, ← hY9]
   (conv => cbv)
   repeat' (first | assumption | ((first | refine hx2 _ _ ?_ | refine stp ?_ | refine stpB (fun _ => ?_) (fun _ => ?_)) <;> (conv => cbv)) | exact stpF | fail)
   all_goals exact hk.finI (fin_lowN 2 (Nat.le_refl 2) (Wk.refl _ _) rfl rfl ⟨rfl, rfl⟩)
end Go.Proofs.YtoeekjddeknmbaaGreat
