/-
  The statement ScoreCoversSaid: for every input the law ScoreCovers returns true, and each argument reads afterwards as it read before. No condition.
-/
import Derived.Test.YtnkaagbepppodaaScoreS
import Derived.Test.YtnkaagbepppodaaScoreT
import Derived.Test.YtnkaagbepppodaaRows
set_option linter.unusedSimpArgs false
set_option linter.unusedVariables false
namespace Go.Proofs.Ytnkaagbepppodaa
open Go.AL
theorem scoreCovers_typed (vs : List AVal) (h : tyVs T 4 Try.f9.params.toList vs) : Does Try.prog 9 vs [] (Is (.bool true) []) := by
  obtain ⟨a, _, rfl, ha, b, _, rfl, hb, rfl⟩ := h
  obtain ⟨l, rfl, hl⟩ := cues_typed ha
  obtain ⟨n, rfl, _⟩ := int_typed hb
  exact covers_law l n hl
set_option maxRecDepth 100000 in
theorem scoreCovers_lifted (os : Os) (started : os.Started) (H : Type) (enc : TypeId × Value → H) :
    ReturnsInHanded {} Try.checked os 9 .any (Rows.scoreCoversSpec.pre6 enc Try.prog Try.f9 Rows.scoreCoversRow.domain false) (Rows.scoreCoversSpec.post enc Try.prog Try.f9 false true false false) :=
  law_lifted (C := Try.checked) T_ok 4 4 started enc (by kernel_rfl) (by kernel_rfl) (by kernel_rfl) Try.func9
    (ChangeSpec.witness6 (enc := enc) (C := Try.checked) false ⟨#[], #[.slice none 0 0, .int .i64 0], []⟩ 8 (by kernel_rfl) (by kernel_rfl) (by kernel_rfl) (by kernel_rfl)) rfl
    (fun ds h => by match ds, h with | [a, b], _ => rfl) (by kernel_rfl) Try.underlying4 (by kernel_rfl) (by kernel_rfl) scoreCovers_typed
theorem ScoreCovers_holds : Rows.ScoreCoversSaid :=
  OpenClaim.holds_of_wide 9 Try.f9 rfl rfl rfl rfl rfl rfl rfl ⟨rfl, rfl, rfl, rfl, rfl⟩ rfl rfl rfl rfl rfl (by kernel_rfl) Try.func9 (by kernel_rfl)
    (of_decide_eq_true (by kernel_rfl)) (by unfold Func.isWrapper; first | (rw [if_pos (by decide +kernel)]; kernel_rfl) | (rw [if_neg (by decide +kernel)]; exact ⟨rfl, rfl⟩))
    (fun os started H enc _ => scoreCovers_lifted os started H enc)
#print axioms ScoreCovers_holds
end Go.Proofs.Ytnkaagbepppodaa
