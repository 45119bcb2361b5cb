/-
  Contracts of functions of the program, proved over the abstract machine of the Al texts.
-/
import Derived.Test.YtoeekjddeknmbaaGreatTryTab
import Derived.Test.YtoeekjddeknmbaaGreatAl4
import Derived.Test.YtoeekjddeknmbaaGreatBaseX
import Derived.Test.YtoeekjddeknmbaaGreatPpX
import Derived.Test.YtoeekjddeknmbaaGreatPpY
import Derived.Test.YtoeekjddeknmbaaGreatRkX
import Derived.Test.YtoeekjddeknmbaaGreatBsX3
import Derived.Test.YtoeekjddeknmbaaGreatBsX4
import Derived.Test.YtoeekjddeknmbaaGreatBsX5
import Derived.Test.YtoeekjddeknmbaaGreatBsX6
import Derived.Test.YtoeekjddeknmbaaGreatBsX1
import Derived.Test.YtoeekjddeknmbaaGreatBsX2
import Derived.Test.YtoeekjddeknmbaaGreatBsX8
set_option maxHeartbeats 4000000
set_option maxRecDepth 20000
set_option linter.unusedSimpArgs false
set_option linter.unusedVariables false
open Go Go.AL
namespace Go.Proofs.YtoeekjddeknmbaaGreat
end Go.Proofs.YtoeekjddeknmbaaGreat
set_option maxHeartbeats 4000000
set_option maxRecDepth 20000
set_option linter.unusedSimpArgs false
set_option linter.unusedVariables false
open Go Go.AL
namespace Go.Proofs.YtoeekjddeknmbaaGreat
def bsE (kd vl sh : Int) (ix : List Int) (lg gn pt : Int) (rc da : List Int) (n d : Int) : Int :=
  if ¬ (1 ≤ n ∧ n ≤ 1024 ∧ 8 ≤ d ∧ d ≤ 26) then 1
  else if formE kd vl sh ix lg gn pt rc da n d ≠ 0 then formE kd vl sh ix lg gn pt rc da n d
  else if kd = 2 ∧ nmE ix lg gn da d ≠ 0 then 9
  else if (outL kd vl sh ix lg gn da n d).any (lacksP d) = true then 9 else 0
def bsL (kd vl sh : Int) (ix : List Int) (lg gn pt : Int) (rc da : List Int) (n d : Int) : List Int := if bsE kd vl sh ix lg gn pt rc da n d = 0 then outL kd vl sh ix lg gn da n d else []
theorem row_rz (i G : Nat) (m : Int) (R : List Int) (hm : m = (R.length : Nat)) : rz i G (.il .i64 R) (.tup [.sl i G 0 m, I 0]) = .tup [LI R, I 0] := by
  have e2 : rz i G (.il .i64 R) (.sl i G 0 m) = LI R := by
    rw [rz_sl]
    show AVal.ls (.il .i64 (rSub R 0 m)) .any = _
    rw [show rSub R 0 m = R by
      show (R.drop (Int.toNat 0)).take (m - 0).toNat = R
      rw [Int.toNat_zero, List.drop_zero, List.take_of_length_le (by omega)]]
  show AVal.tup [rz i G (.il .i64 R) (.sl i G 0 m), rz i G (.il .i64 R) (I 0)] = _
  rw [e2]
  rfl
theorem row_fin2 {f : FuncId} {args : List AVal} {o1 o2 : AObj} {R : List Int} {G : Nat} {m : Int} (hd : Does PP f args [] (Is (.tup [.sl 2 G 0 m, I 0]) [o1, o2, .rw G (.il .i64 R)])) (hm : m = (R.length : Nat)) : Does PP f args [] (Is (.tup [LI R, I 0]) []) := by
  refine Does.fin hd fun r h' ⟨e1, e2⟩ => ?_
  subst e1
  subst e2
  refine fin_rz 2 G (.il .i64 R) rfl rfl ?_
  rw [row_rz 2 G m R hm]
  exact fin_nil (Wk.refl _ _) rfl ⟨rfl, rfl⟩
theorem row_fin1 {f : FuncId} {args : List AVal} {o1 : AObj} {R : List Int} {G : Nat} {m : Int} (hd : Does PP f args [] (Is (.tup [.sl 1 G 0 m, I 0]) [o1, .rw G (.il .i64 R)])) (hm : m = (R.length : Nat)) : Does PP f args [] (Is (.tup [LI R, I 0]) []) := by
  refine Does.fin hd fun r h' ⟨e1, e2⟩ => ?_
  subst e1
  subst e2
  refine fin_rz 1 G (.il .i64 R) rfl rfl ?_
  rw [row_rz 1 G m R hm]
  exact fin_nil (Wk.refl _ _) rfl ⟨rfl, rfl⟩
end Go.Proofs.YtoeekjddeknmbaaGreat
set_option maxHeartbeats 4000000
set_option maxRecDepth 20000
set_option linter.unusedSimpArgs false
set_option linter.unusedVariables false
open Go Go.AL
namespace Go.Proofs.YtoeekjddeknmbaaGreat
theorem bsmp_any (kd vl sh : Int) (ix : List Int) (lg gn pt : Int) (rc da : List Int) (n d : Int) (hn : n ≤ 64)
    (hl1 : ix.length ≤ 9223372036854775807) (hl2 : rc.length ≤ 9223372036854775807) (hl3 : da.length ≤ 9223372036854775807) :
    (∀ h, Does PP 14 [.agg [I kd, I vl, I sh, LI ix, I lg, I gn, I pt, LI rc, LI da], I n, I d] h (Is (.tup [LI (bsL kd vl sh ix lg gn pt rc da n d), I (bsE kd vl sh ix lg gn pt rc da n d)]) h)) := by
  by_cases hrg : 1 ≤ n ∧ n ≤ 1024 ∧ 8 ≤ d ∧ d ≤ 26
  case neg =>
    have e : bsE kd vl sh ix lg gn pt rc da n d = 1 := if_pos hrg
    have e2 : bsL kd vl sh ix lg gn pt rc da n d = [] := by rw [bsL, e]; rfl
    rw [e, e2]
    exact fun h => bsamples_range _ _ _ _ _ _ _ _ _ _ _ h hrg
  have e1 : bsE kd vl sh ix lg gn pt rc da n d = if formE kd vl sh ix lg gn pt rc da n d ≠ 0 then formE kd vl sh ix lg gn pt rc da n d
      else if kd = 2 ∧ nmE ix lg gn da d ≠ 0 then 9 else if (outL kd vl sh ix lg gn da n d).any (lacksP d) = true then 9 else 0 := if_neg (fun h => h hrg)
  obtain ⟨r1, r2, r3, r4⟩ := hrg
  by_cases hf : formE kd vl sh ix lg gn pt rc da n d = 0
  case neg =>
    rw [if_pos hf] at e1
    have e2 : bsL kd vl sh ix lg gn pt rc da n d = [] := by rw [bsL, e1, if_neg hf]
    rw [e1, e2]
    exact fun h => bsamples_form _ _ _ _ _ _ _ _ _ _ _ h r1 r2 r3 r4 hl1 hl2 hl3 hf
  rw [if_neg (fun h => h hf)] at e1
  by_cases k2 : kd = 2
  · subst k2
    by_cases hbad : nmE ix lg gn da d = 0
    case neg =>
      rw [if_pos ⟨rfl, hbad⟩] at e1
      have e2 : bsL 2 vl sh ix lg gn pt rc da n d = [] := by rw [bsL, e1]; rfl
      rw [e1, e2]
      exact fun h => bsamples_bad _ _ _ _ _ _ _ _ _ _ h r1 r2 r3 r4 hl1 hl2 hl3 hf hbad
    rw [if_neg (fun h => h.2 hbad)] at e1
    have eo : outL 2 vl sh ix lg gn da n d = nmL sh ix lg gn da d := rfl
    rw [eo] at e1
    obtain ⟨hE, hE2⟩ : onE lg gn da = 0 ∧ smE ix (pw d - 1) (onL lg gn da) = 0 := by
      unfold nmE at hbad
      by_cases h1 : onE lg gn da = 0
      · by_cases h2 : smE ix (pw d - 1) (onL lg gn da) = 0
        · exact ⟨h1, h2⟩
        · simp [h1, h2] at hbad
      · simp [h1] at hbad
    by_cases hok : (nmL sh ix lg gn da d).any (lacksP d) = true
    · rw [if_pos hok] at e1
      have e2 : bsL 2 vl sh ix lg gn pt rc da n d = [] := by rw [bsL, e1]; rfl
      rw [e1, e2]
      exact fun h => pure0 (bsamples_twoN _ _ _ _ _ _ _ _ _ _ r1 r2 r3 r4 hl1 hl2 hl3 hf hE hE2 hok) rfl rfl h
    · have hok : (nmL sh ix lg gn da d).any (lacksP d) = false := by simpa using hok
      rw [if_neg (by rw [hok]; decide)] at e1
      have e2 : bsL 2 vl sh ix lg gn pt rc da n d = nmL sh ix lg gn da d := by rw [bsL, e1]; rfl
      rw [e1, e2]
      exact fun h => pure0 (row_fin2 (bsamples_two _ _ _ _ _ _ _ _ _ _ r1 r2 r3 r4 hl1 hl2 hl3 hf hE hE2 hok) rfl) rfl rfl h
  · rw [if_neg (fun h => k2 h.1)] at e1
    by_cases k3 : kd = 3
    · subst k3
      have ho : outL 3 vl sh ix lg gn da n d = da := rfl
      simp only [ho] at e1
      obtain ⟨_, hdn⟩ := form_plain hf k2
      by_cases hok : da.any (lacksP d) = true
      · rw [if_pos hok] at e1
        have e2 : bsL 3 vl sh ix lg gn pt rc da n d = [] := by rw [bsL, e1]; rfl
        rw [e1, e2]
        exact fun h => pure0 (bsamples_rawN _ _ _ _ _ _ _ _ _ _ r1 r2 r3 r4 hl1 hl2 hl3 hf hok) rfl rfl h
      · have hok : da.any (lacksP d) = false := by simpa using hok
        rw [if_neg (by rw [hok]; decide)] at e1
        have e2 : bsL 3 vl sh ix lg gn pt rc da n d = da := by rw [bsL, e1]; rfl
        rw [e1, e2]
        exact fun h => pure0 (row_fin1 (bsamples_raw _ _ _ _ _ _ _ _ _ _ r1 r2 r3 r4 hl1 hl2 hl3 hf hok) (hdn rfl).symm) rfl rfl h
    · have ho : outL kd vl sh ix lg gn da n d = List.replicate n.toNat vl := by rw [outL, if_neg k2, if_neg k3]
      simp only [ho] at e1
      by_cases hok : (List.replicate n.toNat vl).any (lacksP d) = true
      · rw [if_pos hok] at e1
        have e2 : bsL kd vl sh ix lg gn pt rc da n d = [] := by rw [bsL, e1]; rfl
        rw [e1, e2]
        exact fun h => pure0 (bsamples_constN _ _ _ _ _ _ _ _ _ _ _ r1 hn r3 r4 hl1 hl2 hl3 hf k2 k3 hok) rfl rfl h
      · have hok : (List.replicate n.toNat vl).any (lacksP d) = false := by simpa using hok
        rw [if_neg (by rw [hok]; decide)] at e1
        have e2 : bsL kd vl sh ix lg gn pt rc da n d = List.replicate n.toNat vl := by rw [bsL, e1, ho]; rfl
        rw [e1, e2]
        exact fun h => pure0 (row_fin2 (bsamples_const _ _ _ _ _ _ _ _ _ _ _ r1 hn r3 r4 hl1 hl2 hl3 hf k2 k3 hok) (by rw [List.length_replicate]; omega)) rfl rfl h
end Go.Proofs.YtoeekjddeknmbaaGreat
set_option maxHeartbeats 4000000
set_option maxRecDepth 20000
set_option linter.unusedSimpArgs false
set_option linter.unusedVariables false
open Go Go.AL
namespace Go.Proofs.YtoeekjddeknmbaaGreat
end Go.Proofs.YtoeekjddeknmbaaGreat
set_option maxHeartbeats 4000000
set_option maxRecDepth 20000
set_option linter.unusedSimpArgs false
set_option linter.unusedVariables false
open Go Go.AL
namespace Go.Proofs.YtoeekjddeknmbaaGreat
end Go.Proofs.YtoeekjddeknmbaaGreat
