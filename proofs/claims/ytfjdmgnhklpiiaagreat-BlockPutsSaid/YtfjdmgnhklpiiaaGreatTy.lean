/- Arguments that came in. -/
import Derived.Test.YtfjdmgnhklpiiaaGreatTryTab
import Derived.Test.YtfjdmgnhklpiiaaGreatAl4
set_option linter.unusedSimpArgs false
set_option linter.unusedVariables false
namespace Go.Proofs.YtfjdmgnhklpiiaaGreat
open Go Go.AL
theorem int_typed {v : AVal} (h : tyV T 4 3 v) : ∃ n : Int, v = .int .i64 n ∧ -9223372036854775808 ≤ n ∧ n ≤ 9223372036854775807 := by
  obtain ⟨z, hz, hw⟩ := h
  injection hz with hz _
  exact ⟨z, hz, by simpa [Lit.wf, IntKind.min, IntKind.max, IntKind.signed, IntKind.bits] using hw⟩
end Go.Proofs.YtfjdmgnhklpiiaaGreat
