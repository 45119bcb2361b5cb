/-
  Contracts of functions of the program, proved over the abstract machine of the Al texts.
-/
import Derived.Test.YtoeekjddeknmbaaGreatTryTab
import Derived.Test.YtoeekjddeknmbaaGreatAl4
import Derived.Test.YtoeekjddeknmbaaGreatBaseX
import Derived.Test.YtoeekjddeknmbaaGreatPpX
import Derived.Test.YtoeekjddeknmbaaGreatSlX
import Derived.Test.YtoeekjddeknmbaaGreatTkX1
import Derived.Test.YtoeekjddeknmbaaGreatTkX2
import Derived.Test.YtoeekjddeknmbaaGreatTkX3
import Derived.Test.YtoeekjddeknmbaaGreatRkX
import Derived.Test.YtoeekjddeknmbaaGreatBsX1
import Derived.Test.YtoeekjddeknmbaaGreatBsX3
import Derived.Test.YtoeekjddeknmbaaGreatBsX4
import Derived.Test.YtoeekjddeknmbaaGreatBsX6
import Derived.Test.YtoeekjddeknmbaaGreatBsX8
set_option maxHeartbeats 4000000
set_option maxRecDepth 20000
set_option linter.unusedSimpArgs false
set_option linter.unusedVariables false
open Go Go.AL
namespace Go.Proofs.YtoeekjddeknmbaaGreat
def kOK (k : Int) : Prop := 0 ≤ k ∧ k ≤ 24
def blkBits (x : BlkIn) (d : Int) : List Bool := if x.kd = 2 then nbits x.sh x.ix x.lg x.gn x.pt x.rc x.da else pbits x.kd x.vl x.da d
theorem bsE_ok {kd vl sh : Int} {ix : List Int} {lg gn pt : Int} {rc da : List Int} {n d : Int} (h : bsE kd vl sh ix lg gn pt rc da n d = 0) :
 (1 ≤ n ∧ n ≤ 1024 ∧ 8 ≤ d ∧ d ≤ 26) ∧ formE kd vl sh ix lg gn pt rc da n d = 0 ∧ (outL kd vl sh ix lg gn da n d).any (lacksP d) = false := by
 unfold bsE at h
 by_cases h1 : 1 ≤ n ∧ n ≤ 1024 ∧ 8 ≤ d ∧ d ≤ 26
 ·rw [if_neg (fun h => h h1)] at h
  by_cases h2 : formE kd vl sh ix lg gn pt rc da n d = 0
  ·rw [if_neg (fun h => h h2)] at h
   split at h
   ·exact absurd h (by decide)
   ·split at h
    ·exact absurd h (by decide)
    ·rename_i h3
     exact ⟨h1, h2, by simpa using h3⟩
  ·rw [if_pos h2] at h; exact absurd h h2
 ·rw [if_pos h1] at h; exact absurd h (by decide)
theorem lacks_no {d n : Int} (h : lacksP d n = false) : -2 ^ (d - 1).toNat ≤ n ∧ n < 2 ^ (d - 1).toNat := by
 unfold lacksP pw at h
 simp only [Bool.or_eq_false_iff, decide_eq_false_iff_not] at h
 omega
end Go.Proofs.YtoeekjddeknmbaaGreat
