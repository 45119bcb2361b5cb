/- Arguments that came in. -/
import Derived.Test.YtoeekjddeknmbaaGreatTryTab
import Derived.Test.YtoeekjddeknmbaaGreatAl4
set_option linter.unusedSimpArgs false
set_option linter.unusedVariables false
namespace Go.Proofs.YtoeekjddeknmbaaGreat
open Go Go.AL
theorem ints_typed {v : AVal} (h : tyV T 4 22 v) : ∃ l : List Int, v = .ls (.il .i64 l) .any ∧ l.length ≤ 9223372036854775807 ∧ ∀ i ∈ l, -9223372036854775808 ≤ i ∧ i ≤ 9223372036854775807 := by
 obtain ⟨l, hv, hl, hw⟩ := h
 injection hv with hv _
 have : maxLen = 9223372036854775807 := by decide
 exact ⟨l, hv, by omega, fun i hi => by simpa [Lit.wf, IntKind.min, IntKind.max, IntKind.signed, IntKind.bits] using hw i hi⟩
theorem int_typed {v : AVal} (h : tyV T 4 3 v) : ∃ n : Int, v = .int .i64 n ∧ -9223372036854775808 ≤ n ∧ n ≤ 9223372036854775807 := by
 obtain ⟨z, hz, hw⟩ := h
 injection hz with hz _
 exact ⟨z, hz, by simpa [Lit.wf, IntKind.min, IntKind.max, IntKind.signed, IntKind.bits] using hw⟩
end Go.Proofs.YtoeekjddeknmbaaGreat
