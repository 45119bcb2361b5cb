/-
  Contracts of functions of the program, proved over the abstract machine of the Al texts.
-/
import Derived.Test.YtoeekjddeknmbaaGreatBaseX
import Derived.Test.YtoeekjddeknmbaaGreatBsX1
import Derived.Test.YtoeekjddeknmbaaGreatBsX2
import Derived.Test.YtoeekjddeknmbaaGreatBsX3
import Derived.Test.YtoeekjddeknmbaaGreatBsX4
set_option maxHeartbeats 4000000
set_option maxRecDepth 20000
set_option linter.unusedSimpArgs false
set_option linter.unusedVariables false
open Go Go.AL
namespace Go.Proofs.YtoeekjddeknmbaaGreat
theorem clone_spec (l : List Int) (h : Heap) (h1 : l.length ≠ 0) (h2 : l.length ≤ 1024) : Does PP 34 [LI l] h (Is (LI l) h) := by
 refine pure0 ?_ rfl rfl h
 refine wlk Tryz.f34 ?_
 unhygienic intros
 (conv => cbv)
 repeat' (first | assumption | ((first | refine stp ?_ | refine stpB (fun _ => ?_) (fun _ => ?_)) <;> (conv => cbv)) | exact stpF | fail)
 have hln := hk.lnI_eq l
 obtain ⟨n, hn⟩ : ∃ n, n = lnI l := ⟨_, rfl⟩
 rw [← hn] at hln ⊢
 refine hk.needI (by simp only [rNd]; omega) ?_
 refine hk.needI (by simp only [rNd]; omega) ?_
 exact hk.fin0 rfl rfl (Wk.any _ _ _)
theorem stp_spec (l : List Int) (hx : IxOK l) : Does PP 122 [LI l] [] (Is (.clo (.func 133) [] [.ptr 0 0]) [.box [LI l]]) := by
 refine wlk Tryz.f122 ?_
 unhygienic intros
 (conv => cbv)
 repeat' (first | assumption | ((first | refine stp ?_ | refine stpB (fun _ => ?_) (fun _ => ?_)) <;> (conv => cbv)) | exact stpF | fail)
theorem DoesV.wk {P : Program} {f : AVal} {args args' : List AVal} {h : Heap} {R : AVal → Heap → Prop} (hd : DoesV P f args' h R) (hw : WkL h args args') : DoesV P f args h R :=
 fun e c cs hg he hv ha => hd e c cs hg he hv ⟨hw.len.symm.trans ha.len, fun i hi => hw.get i e _ hg he (ha.rel i (by rw [hw.len]; exact hi))⟩
theorem rfL_get (l : List Int) : ∀ (n i : Nat), i < n → (rfL l n).getD i 0 = refl_ (i : Nat) (l.getD i 0)
 | 0, i, h => absurd h (by omega)
 | n + 1, i, h => by
   simp only [rfL]
   by_cases h2 : i < n
   ·rw [← rfL_get l n i h2, List.getD_eq_getElem?_getD, List.getElem?_append_left (by rw [rfL_len]; exact h2), ← List.getD_eq_getElem?_getD]
   ·have : i = n := by omega
    subst this
    rw [List.getD_eq_getElem?_getD, List.getElem?_append_right (by rw [rfL_len]; omega), rfL_len]
    simp
theorem step1_spec (l : List Int) (hx : IxOK l) (Of Bf : Nat → AObj) (Gf : Nat → Heap) (hy : ∀ k : Nat, k ≤ l.length → DoesV PP (.yld 3) [I (k : Nat), LI (cf l k)] (Of k :: Bf k :: .box [LI l] :: Gf k) (Is (.bool true) (Of (k + 1) :: Bf (k + 1) :: .box [LI l] :: Gf (k + 1)))) :
 Does PP 133 [.yld 3, .ptr 2 0] (Of 0 :: Bf 0 :: .box [LI l] :: Gf 0) (Is (.tup []) (Of (l.length + 1) :: Bf (l.length + 1) :: .box [LI l] :: Gf (l.length + 1))) := by
 have hrf := fun h => lreflect_spec l h hx
 obtain ⟨n, hn⟩ : ∃ n : Int, n = (l.length : Nat) := ⟨_, rfl⟩
 obtain ⟨R, hR⟩ : ∃ R, R = rfL l l.length := ⟨_, rfl⟩
 obtain ⟨A, hA⟩ : ∃ A : Int → List Int, ∀ i, A i = cf l i.toNat := ⟨_, fun _ => rfl⟩
 obtain ⟨H, hH⟩ : ∃ H : Int → Heap, ∀ i, H i = Gf i.toNat := ⟨_, fun _ => rfl⟩
 obtain ⟨O, hO⟩ : ∃ H : Int → AObj, ∀ i, H i = Of i.toNat := ⟨_, fun _ => rfl⟩
 obtain ⟨B, hB⟩ : ∃ H : Int → AObj, ∀ i, H i = Bf i.toNat := ⟨_, fun _ => rfl⟩
 have hA0 : A 0 = [] := by rw [hA]; rfl
 have hAs : ∀ i : Int, 0 ≤ i → i < n → A (i + 1) = upL (A i) (R.getD i.toNat 0) := fun i h h2 => by
  rw [hA, hA, hR, show (i + 1).toNat = i.toNat + 1 by omega, rfL_get _ _ _ (by omega)]
  simp only [cf]
 have hAl : ∀ i : Int, (A i).length = i.toNat := fun i => by rw [hA, cf_len]
 have hyI : ∀ i : Int, 0 ≤ i → i ≤ n → DoesV PP (.yld 3) [I i, LI (A i)] (O i :: B i :: .box [LI l] :: H i) (Is (.bool true) (O (i + 1) :: B (i + 1) :: .box [LI l] :: H (i + 1))) := fun i h h2 => by
  have := hy i.toNat (by omega)
  rw [hH, hH, hO, hO, hB, hB, hA, show (i + 1).toNat = i.toNat + 1 by omega]
  rw [show ((i.toNat : Nat) : Int) = i by omega] at this
  exact this
 have hup : ∀ (i : Int) h, 0 ≤ i → i < n → Does PP 134 [LI (A i), I (R.getD i.toNat 0)] h (Is (LI (A (i + 1))) h) := fun i h h0 h1 => by
  rw [hAs i h0 h1]; exact up_spec _ _ h (by rw [hAl]; have := hx.1; omega)
 have hcl : ∀ (i : Int) h, 0 ≤ i → i < n → Does PP 34 [LI (A (i + 1))] h (Is (LI (A (i + 1))) h) := fun i h h0 h1 =>
  clone_spec _ h (by rw [hAl]; omega) (by rw [hAl]; have := hx.1; omega)
 have hy0 : DoesV PP (.yld 3) [I 0, .ls .nl .nil] (O 0 :: B 0 :: .box [LI l] :: H 0) (Is (.bool true) (O 1 :: B 1 :: .box [LI l] :: H 1)) := by
  have h00 := hyI 0 (by omega) (by omega)
  rw [hA0] at h00
  exact DoesV.wk h00 (by repeat' (first | exact WkL.nil | refine WkL.cons (Wk.refl _ _) ?_ | refine WkL.cons (Wk.any _ _ _) ?_ | refine WkL.cons (Wk.nilL _ _) ?_))
 have hRl : (R.length : Int) = n := by rw [hR, rfL_len, hn]
 have hn16 : 0 ≤ n ∧ n ≤ 16 := by have := hx.1; omega
 rw [show Gf 0 = H 0 by rw [hH]; rfl, show Gf (l.length + 1) = H (n + 1) by rw [hH, hn]; rfl, show Of 0 = O 0 by rw [hO]; rfl, show Of (l.length + 1) = O (n + 1) by rw [hO, hn]; rfl, show Bf 0 = B 0 by rw [hB]; rfl, show Bf (l.length + 1) = B (n + 1) by rw [hB, hn]; rfl]
 rw [← hR] at hrf
 clear hR hA hH hO hB hAs hAl hx hy hn
 refine wlk Tryz.f133 ?_
 unhygienic intros
 have hln : lnI R = n := by rw [hk.lnI_eq]; exact hRl
 simp only [← hk.gtI_eq] at hup
 clear hRl
 (conv => cbv)
 refine hk.callvI hy0 fun r h' ⟨e1, e2⟩ => ?_
 subst e1
 subst e2
 have hbt : bn true = false := by rw [hk.bn_eq]; rfl
 repeat' (first | assumption | ((first | rw [hbt] | rw [hln] | refine stp ?_ | refine stpB (fun _ => ?_) (fun _ => ?_)) <;> (conv => cbv)) | exact stpF | fail)
 refine hk.loopI (loop_rule (α := Int) (fun i => [(0, .yld 3), (3, .ls (.il .i64 (A i)) .any), (10, .ls (.il .i64 R) .any), (11, .int .i64 n), (12, .int .i64 i)]) (fun i => O (i + 1) :: B (i + 1) :: .box [.ls (.il .i64 l) .any] :: H (i + 1))
  (fun i => 0 ≤ i ∧ i ≤ n) (fun i => (n - i).toNat) 0 ⟨by omega, by omega⟩ ?_ ?_)
 ·rw [hA0]
  exact Gh.tm (by repeat (first | exact Holds.nil _ _ | refine Holds.cons (Wk.refl _ _) ?_ | refine Holds.cons (Wk.nilL _ _) ?_))
 intro i ⟨hi, hi2⟩ Q' hb hx hr
 (conv => cbv)
 refine hk.brLss (fun h2 => ?_) (fun h2 => ?_)
 ·have hup := fun h => hup i h hi h2
  have hcl := fun h => hcl i h hi h2
  have hyI := hyI (i + 1) (by omega) (by omega)
  have had : i2 .add .i64 i 1 = i + 1 := hk.add64 _ _ (by omega) (by omega)
  obtain ⟨i1, hi1⟩ : ∃ i1, i1 = i + 1 := ⟨_, rfl⟩
  rw [← hi1] at hup hcl hyI had
  obtain ⟨H2, hH2⟩ : ∃ H2, H2 = H (i1 + 1) := ⟨_, rfl⟩
  obtain ⟨O2, hO2⟩ : ∃ H2, H2 = O (i1 + 1) := ⟨_, rfl⟩
  obtain ⟨B2, hB2⟩ : ∃ H2, H2 = B (i1 + 1) := ⟨_, rfl⟩
  rw [← hH2, ← hO2, ← hB2] at hyI
  try rw [← hi1]
  (conv => cbv)
  try rw [hln]
  refine hk.idxI hi h2 ?_
  (conv => cbv)
  repeat' (first | assumption | ((first | rw [had] | refine stp ?_ | refine stpB (fun _ => ?_) (fun _ => ?_)) <;> (conv => cbv)) | exact stpF | fail)
  refine hk.callvI hyI fun r h' ⟨e1, e2⟩ => ?_
  subst e1
  subst e2
  repeat' (first | assumption | ((first | rw [hbt] | refine stp ?_ | refine stpB (fun _ => ?_) (fun _ => ?_)) <;> (conv => cbv)) | exact stpF | fail)
  have hb := hb (i + 1)
  rw [← hi1] at hb
  rw [← hH2, ← hO2, ← hB2] at hb
  refine hb _ ⟨by omega, by omega⟩ (by omega) ?_
  rw [had]
  exact ghT
 ·have : i = n := by omega
  subst this
  refine hx _ _ ?_
  (conv => cbv)
  exact hk.fin1 rfl
def bfB : Nat → AObj
 | 0 => .box [.ls .nl .nil]
 | k + 1 => .box [.sl 5 (k + 1) 0 ((k + 1 : Nat) : Int)]
def bfG (l : List Int) (lp : LoopA) : Nat → Heap
 | 0 => [.loop lp]
 | k + 1 => [.loop lp, .tok 0, .rw (k + 1) (.gl (.li .i64) ((bankL l).take (k + 1)))]
theorem bankL_take (l : List Int) (k : Nat) (h : k ≤ l.length) : (bankL l).take (k + 1) = (bankL l).take k ++ [LI (cf l k)] := by
 rw [List.take_add_one, ← bankL_get l k h]
 have : k < (bankL l).length := by simp [bankL]; omega
 simp [List.getD, this]
theorem fopen_spec (l : List Int) (h : Heap) (hx : IxOK l) : Does PP 89 [LI l] h (Is (.agg [.ls (.gl (.li .i64) (bankL l)) .any]) h) := by
 have hst : Does PP 122 [LI l] [.box [.ls .nl .nil], .box [.ls .nl .nil]] (Is (.clo (.func 133) [] [.ptr 2 0]) [.box [.ls .nl .nil], .box [.ls .nl .nil], .box [LI l]]) :=
  (stp_spec l hx).renI [] rfl (by decide) rfl trivial rfl rfl rfl rfl rfl rfl
 refine pure0 ?_ rfl rfl h
 obtain ⟨bk, hbk⟩ : ∃ b, b = bankL l := ⟨_, rfl⟩
 rw [← hbk]
 refine doesFr (fun _ => true) P_ok Tryz.f89 (by kernel_rfl) (by kernel_rfl) ?_
 intro i2 c2 u1 cv mx mn ad sbt bn bq ba lnI gtI apI sbI stI rpI lnG gtG apG sbG stG rpG fi fb fs fl fg fc sln sgt sap ssb sc b2s s2b nd call calld callv callvd loop rfun fin hk
 (conv => cbv)
 refine hk.callA hst ?_
 (conv => cbv)
 repeat' (first | assumption | ((first | refine stp ?_ | refine stpB (fun _ => ?_) (fun _ => ?_)) <;> (conv => cbv)) | exact stpF | fail)
 refine hk.rfunI ⟨133, [], [.ptr 2 0], [(2, .ptr 0 0), (3, .ptr 1 0)], rfl, ?_, ?_⟩
 ·exact fun t e c hg he hv => (Holds.get (by repeat (first | exact Holds.nil _ _ | refine Holds.cons (Wk.refl _ _) ?_)) t) e c hg he hv
 ·refine (step1_spec l hx (fun _ => .box [.ls .nl .nil]) bfB (bfG l _) (fun k hk' => ?_)).mono fun r h ⟨e1, e2⟩ => ?_
  ·clear hk hst hbk
   have htk := bankL_take l k hk'
   obtain ⟨C, hC⟩ : ∃ C, C = cf l k := ⟨_, rfl⟩
   have hCl : C.length ≤ 16 := by rw [hC, cf_len]; have := hx.1; omega
   rw [← hC] at htk ⊢
   cases k with
   | zero =>
     simp only [bfB, bfG]
     rw [List.take_zero, List.nil_append] at htk
     rw [Nat.zero_add] at htk ⊢
     rw [htk]
     clear htk
     refine doesYr P_ok (fun _ => true) 3 _ rfl rfl (by kernel_rfl) ?_
     intro i2 c2 u1 cv mx mn ad sbt bn bq ba lnI gtI apI sbI stI rpI lnG gtG apG sbG stG rpG fi fb fs fl fg fc sln sgt sap ssb sc b2s s2b nd call calld callv callvd loop rfun fin hk
     have ha1 : apG [] [.ls (.il .i64 C) .any] = [.ls (.il .i64 C) .any] := by rw [hk.apG_eq]; rfl
     have hl1 : lnG [.ls (.il .i64 C) .any] = 1 := hk.lnG_eq _
     have hr1 : nd (.room 1 24) := hk.ndI (by simp [rNd])
     (conv => cbv)
     repeat' (first | assumption | ((first | rw [ha1, hl1] | refine stp ?_ | refine stpB (fun _ => ?_) (fun _ => ?_)) <;> (conv => cbv)) | exact stpF | fail)
     rfl
   | succ k =>
     simp only [bfB, bfG]
     obtain ⟨K, hK⟩ : ∃ K, K = (bankL l).take (k + 1) := ⟨_, rfl⟩
     obtain ⟨i, hi⟩ : ∃ i : Int, i = ((k + 1 : Nat) : Int) := ⟨_, rfl⟩
     have hi2 : ((k + 1 + 1 : Nat) : Int) = i + 1 := by omega
     obtain ⟨i1, hi1⟩ : ∃ i1, i1 = i + 1 := ⟨_, rfl⟩
     have hKl : (K.length : Int) = i := by rw [hK, List.length_take, hi]; simp [bankL]; omega
     have hi8 : 0 ≤ i ∧ i ≤ 16 := by have := hx.1; omega
     rw [htk, hi2, ← hi1, ← hi, ← hK]
     clear hi hi2 htk
     obtain ⟨R, hR⟩ : ∃ R : LoopA → AVal → Heap → Prop, R = fun lp r h' => rFin 6 (Is (.bool true) [.box [.ls .nl .nil], .box [.sl 5 (k + 1 + 1) 0 i1], .box [LI l], .loop lp, .tok 0, .rw (k + 1 + 1) (.gl (.li .i64) (K ++ [LI C]))]) r h' := ⟨_, rfl⟩
     refine DoesV.fin (R := R _) ?_ (fun r h' h => by rw [hR] at h; exact h)
     refine doesYr P_ok (fun _ => true) 3 _ rfl rfl (by kernel_rfl) ?_
     intro i2 c2 u1 cv mx mn ad sbt bn bq ba lnI gtI apI sbI stI rpI lnG gtG apG sbG stG rpG fi fb fs fl fg fc sln sgt sap ssb sc b2s s2b nd call calld callv callvd loop rfun fin hk
     have hbq : Nat.beq (k + 1) (k + 1) = true := Nat.beq_refl _
     conv at hbq => cbv
     have hlK : lnG K = i := by rw [hk.lnG_eq]; exact hKl
     have hlx : lnG [.ls (.il .i64 C) .any] = 1 := hk.lnG_eq _
     have hap : apG K [.ls (.il .i64 C) .any] = K ++ [.ls (.il .i64 C) .any] := hk.apG_eq _ _
     obtain ⟨K1, hK1⟩ : ∃ K1, K1 = K ++ [.ls (.il .i64 C) .any] := ⟨_, rfl⟩
     have hlK1 : lnG K1 = i1 := by rw [hk.lnG_eq, hK1, List.length_append, hi1, ← hKl]; rfl
     have hnd : nd (.appn 0 i i (ad i 1) 24) := hk.ndI (by rw [hk.ad_eq]; exact ⟨rfl, rfl, by omega, by simp; omega, by omega⟩)
     rw [← hK1] at hap
     clear hKl
     (conv => cbv)
     repeat' (first | assumption | ((first | rw [hbq] | rw [hap] | rw [hlK] | rw [hlx] | rw [hlK1] | refine stp ?_ | refine stpB (fun _ => ?_) (fun _ => ?_)) <;> (conv => cbv)) | exact stpF | fail)
     rw [hR]
     exact fin_low (.refl _ _) rfl rfl ⟨rfl, by rw [hK1]; rfl⟩
  ·subst e2
   unfold rAfter
   simp only [bfB, bfG]
   obtain ⟨m, hm⟩ : ∃ m, m = l.length + 1 := ⟨_, rfl⟩
   have hbm : (bankL l).take m = bankL l := by rw [hm]; exact List.take_of_length_le (by simp [bankL])
   have hbl : bk.length = m := by rw [hbk, hm]; simp [bankL]
   rw [← hm, hbm, ← hbk]
   clear hm hbm hbk
   obtain ⟨z, hz⟩ : ∃ z : Int, z = (m : Nat) := ⟨_, rfl⟩
   rw [← hz]
   (conv => cbv)
   refine ⟨fun h => (nomatch h), ?_⟩
   repeat' (first | assumption | ((first | refine stp ?_ | refine stpB (fun _ => ?_) (fun _ => ?_)) <;> (conv => cbv)) | exact stpF | fail)
   have hsub : rSub bk 0 z = bk := by
    unfold rSub
    rw [show (z - 0).toNat = bk.length by omega]
    simp
   refine hk.finI (fin_rz 5 m (.gl (.li .i64) bk) rfl rfl ?_)
   have e : rz 5 m (.gl (.li .i64) bk) (.agg [.sl 5 m 0 z]) = .agg [.ls (.gl (.li .i64) bk) .any] := by
    simp only [rz, rzs, Nat.beq_refl]
    show AVal.agg [.ls (.gl (.li .i64) (rSub bk 0 z)) .any] = _
    rw [hsub]
   rw [e]
   exact fin_low (.refl _ _) rfl rfl ⟨rfl, rfl⟩
theorem onGo_some {a g : Int} : ∀ (l out r : List Int), onGo a g out l = some r → Small40 out → Small40 r ∧ r.length = out.length + l.length
 | [], out, r, h, hs => by
   simp only [onGo, Option.some.injEq] at h
   subst h
   exact ⟨hs, rfl⟩
 | x :: xs, out, r, h, hs => by
   simp only [onGo] at h
   split at h
   ·cases h
   ·rename_i hb
    obtain ⟨h1, h2⟩ := onGo_some xs _ r h (small_snoc hs hb)
    refine ⟨h1, ?_⟩
    rw [h2, List.length_append, List.length_cons]; simp; omega
theorem onL_small (a g : Int) (l : List Int) : Small40 (onL a g l) ∧ (onL a g l).length ≤ l.length := by
 unfold onL
 cases h : onGo a g [] l with
 | none => exact ⟨fun i hi => by simp at hi, by simp⟩
 | some r =>
   obtain ⟨h1, h2⟩ := onGo_some l [] r h (fun i hi => by simp at hi)
   exact ⟨h1, by simp [h2]⟩
theorem smGo_some {l : List Int} {most : Int} : ∀ (rs out r : List Int), smGo l most out rs = some r → r.length = out.length + rs.length
 | [], out, r, h => by
   simp only [smGo, Option.some.injEq] at h
   subst h
   rfl
 | x :: xs, out, r, h => by
   simp only [smGo] at h
   split at h
   ·cases h
   ·have h2 := smGo_some xs _ r h
    rw [h2, List.length_append, List.length_cons]; simp; omega
theorem smL_len (l : List Int) (most : Int) (rs : List Int) : (smL l most rs).length ≤ rs.length := by
 unfold smL
 cases h : smGo l most [] rs with
 | none => simp
 | some r => have := smGo_some rs [] r h; simp [this]
def shl1 (sh x : Int) : Int := rI2 .shl .i64 x sh
theorem shl1_mul (sh x : Int) (h0 : 0 ≤ sh) (h1 : sh ≤ 26) : shl1 sh x = W (x * 2 ^ sh.toNat) := by
 unfold shl1
 show IntKind.wrap .i64 (x * 2 ^ (min sh.toNat 64)) = _
 rw [show min sh.toNat 64 = sh.toNat by omega]
def nmE (ix : List Int) (lg gn : Int) (da : List Int) (d : Int) : Int :=
 if onE lg gn da ≠ 0 then 9 else if smE ix (pw d - 1) (onL lg gn da) ≠ 0 then 9 else 0
def nmL (sh : Int) (ix : List Int) (lg gn : Int) (da : List Int) (d : Int) : List Int :=
 if onE lg gn da ≠ 0 then [] else if smE ix (pw d - 1) (onL lg gn da) ≠ 0 then [] else (smL ix (pw d - 1) (onL lg gn da)).map (shl1 sh)
end Go.Proofs.YtoeekjddeknmbaaGreat
