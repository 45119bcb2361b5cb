/- Words used by all. -/
import Derived.Test.YtnnpookoencpnabTryTab
import Derived.Test.YtnnpookoencpnabAl4

open Go Go.AL
namespace Go.Proofs.Ytnnpookoencpnab
abbrev LI (l : List Int) : AVal := .ls (.il .i64 l) .any
abbrev I (n : Int) : AVal := .int .i64 n
end Go.Proofs.Ytnnpookoencpnab
