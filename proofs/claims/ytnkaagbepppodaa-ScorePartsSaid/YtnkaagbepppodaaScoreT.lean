/- Cues that came in. -/
import Derived.Test.YtnkaagbepppodaaScoreA
import Derived.Test.YtnkaagbepppodaaAlLaw
set_option linter.unusedSimpArgs false
set_option linter.unusedVariables false
namespace Go.Proofs.Ytnkaagbepppodaa
open Go Go.AL
theorem cue_of {c : List AVal} (h : tyP T 3 41 c) : ∃ q : Cue, packE true c = cueA q := by
  obtain ⟨_, _, rfl, ⟨i, rfl, _⟩, _, _, rfl, ⟨s, rfl, _⟩, rfl⟩ := h
  exact ⟨(i, s), rfl⟩
theorem cues_list : ∀ {xs : List AVal}, (∀ x ∈ xs, ∃ c, x = packE true c ∧ tyP T 3 41 c) → ∃ l : List Cue, xs = l.map cueA
  | [], _ => ⟨[], rfl⟩
  | x :: xs, h => by
    obtain ⟨c, h1, h2⟩ := h x (by simp)
    obtain ⟨q, hq⟩ := cue_of h2
    obtain ⟨l, hl⟩ := cues_list (xs := xs) (fun y hy => h y (by simp [hy]))
    exact ⟨q :: l, by rw [h1, hq, hl]; rfl⟩
/-- An argument that is cues. -/
theorem cues_typed {v : AVal} (h : tyV T 4 35 v) : ∃ l : List Cue, v = cuesA l ∧ l.length ≤ 9223372036854775807 := by
  obtain ⟨xs, hv, hl, hx⟩ := h
  obtain ⟨l, rfl⟩ := cues_list hx
  injection hv with hv _
  refine ⟨l, hv, ?_⟩
  rw [List.length_map] at hl
  have : maxLen = 9223372036854775807 := by decide
  omega
theorem int_typed {v : AVal} (h : tyV T 4 3 v) : ∃ n : Int, v = .int .i64 n ∧ -9223372036854775808 ≤ n ∧ n ≤ 9223372036854775807 := by
  obtain ⟨z, hz, hw⟩ := h
  injection hz with hz _
  exact ⟨z, hz, by simpa [Lit.wf, IntKind.min, IntKind.max, IntKind.signed, IntKind.bits] using hw⟩
theorem u8_typed {v : AVal} (h : tyV T 4 5 v) : ∃ n : Int, v = .int .u8 n ∧ 0 ≤ n ∧ n ≤ 255 := by
  obtain ⟨z, hz, hw⟩ := h
  injection hz with hz _
  exact ⟨z, hz, by simpa [Lit.wf, IntKind.min, IntKind.max, IntKind.signed, IntKind.bits] using hw⟩
end Go.Proofs.Ytnkaagbepppodaa
