/-
  Contracts of functions of the program, proved over the abstract machine of the Al texts.
-/
import Derived.Test.YtoeekjddeknmbaaGreatTryTab
import Derived.Test.YtoeekjddeknmbaaGreatAl4
import Derived.Test.YtoeekjddeknmbaaGreatBaseX
import Derived.Test.YtoeekjddeknmbaaGreatPpX
import Derived.Test.YtoeekjddeknmbaaGreatPpY
import Derived.Test.YtoeekjddeknmbaaGreatRkX
import Derived.Test.YtoeekjddeknmbaaGreatBsX3
import Derived.Test.YtoeekjddeknmbaaGreatBsX4
import Derived.Test.YtoeekjddeknmbaaGreatBsX5
import Derived.Test.YtoeekjddeknmbaaGreatBsX6
import Derived.Test.YtoeekjddeknmbaaGreatBsX1
import Derived.Test.YtoeekjddeknmbaaGreatBsX2
import Derived.Test.YtoeekjddeknmbaaGreatBsX8
set_option maxHeartbeats 4000000
set_option maxRecDepth 20000
set_option linter.unusedSimpArgs false
set_option linter.unusedVariables false
open Go Go.AL
namespace Go.Proofs.YtoeekjddeknmbaaGreat
def bsE (kd vl sh : Int) (ix : List Int) (lg gn pt : Int) (rc da : List Int) (n d : Int) : Int :=
 if ¬ (1 ≤ n ∧ n ≤ 1024 ∧ 8 ≤ d ∧ d ≤ 26) then 1
 else if formE kd vl sh ix lg gn pt rc da n d ≠ 0 then formE kd vl sh ix lg gn pt rc da n d
 else if kd = 2 ∧ nmE ix lg gn da d ≠ 0 then 9
 else if (outL kd vl sh ix lg gn da n d).any (lacksP d) = true then 9 else 0
def bsL (kd vl sh : Int) (ix : List Int) (lg gn pt : Int) (rc da : List Int) (n d : Int) : List Int := if bsE kd vl sh ix lg gn pt rc da n d = 0 then outL kd vl sh ix lg gn da n d else []


end Go.Proofs.YtoeekjddeknmbaaGreat
