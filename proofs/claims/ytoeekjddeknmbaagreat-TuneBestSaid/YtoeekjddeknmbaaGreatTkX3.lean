/-
  Contracts of functions of the program, proved over the abstract machine of the Al texts.
-/
import Derived.Test.YtoeekjddeknmbaaGreatTryTab
import Derived.Test.YtoeekjddeknmbaaGreatAl4
import Derived.Test.YtoeekjddeknmbaaGreatBaseX
import Derived.Test.YtoeekjddeknmbaaGreatBsX8
import Derived.Test.YtoeekjddeknmbaaGreatTkX1
import Derived.Test.YtoeekjddeknmbaaGreatTkX2
set_option maxHeartbeats 4000000
set_option maxRecDepth 20000
set_option linter.unusedSimpArgs false
set_option linter.unusedVariables false
open Go Go.AL
namespace Go.Proofs.YtoeekjddeknmbaaGreat
def BlkIn.e (x : BlkIn) (n d : Int) : Int := bsE x.kd x.vl x.sh x.ix x.lg x.gn x.pt x.rc x.da n d
def BlkIn.l (x : BlkIn) (n d : Int) : List Int := bsL x.kd x.vl x.sh x.ix x.lg x.gn x.pt x.rc x.da n d
def zBlk : BlkIn := ⟨0, 0, 0, [], 0, 0, 0, [], []⟩
end Go.Proofs.YtoeekjddeknmbaaGreat
