/-
  The statement ScoreFindsSaid: for every input the law ScoreFinds returns true, and each argument reads afterwards as it read before. No condition.
-/
import Derived.Test.YtnkaagbepppodaaScoreF
import Derived.Test.YtnkaagbepppodaaScoreT
import Derived.Test.YtnkaagbepppodaaRows
set_option linter.unusedSimpArgs false
set_option linter.unusedVariables false
namespace Go.Proofs.Ytnkaagbepppodaa
open Go.AL
theorem scoreFinds_typed (vs : List AVal) (h : tyVs T 4 Try.f5.params.toList vs) : Does Try.prog 5 vs [] (Is (.bool true) []) := by
  obtain ⟨a, _, rfl, ha, b, _, rfl, hb, rfl⟩ := h
  obtain ⟨l, rfl, hl⟩ := cues_typed ha
  obtain ⟨n, rfl, _⟩ := int_typed hb
  exact finds_law l n hl
set_option maxRecDepth 100000 in
theorem scoreFinds_lifted (os : Os) (started : os.Started) (H : Type) (enc : TypeId × Value → H) :
    ReturnsInHanded {} Try.checked os 5 .any (Rows.scoreFindsSpec.pre6 enc Try.prog Try.f5 Rows.scoreFindsRow.domain false) (Rows.scoreFindsSpec.post enc Try.prog Try.f5 false true false false) :=
  law_lifted (C := Try.checked) T_ok 4 4 started enc (by kernel_rfl) (by kernel_rfl) (by kernel_rfl) Try.func5
    (ChangeSpec.witness6 (enc := enc) (C := Try.checked) false ⟨#[], #[.slice none 0 0, .int .i64 0], []⟩ 8 (by kernel_rfl) (by kernel_rfl) (by kernel_rfl) (by kernel_rfl)) rfl
    (fun ds h => by match ds, h with | [a, b], _ => rfl) (by kernel_rfl) Try.underlying4 (by kernel_rfl) (by kernel_rfl) scoreFinds_typed
theorem ScoreFinds_holds : Rows.ScoreFindsSaid :=
  OpenClaim.holds_of_wide 5 Try.f5 rfl rfl rfl rfl rfl rfl rfl ⟨rfl, rfl, rfl, rfl, rfl⟩ rfl rfl rfl rfl rfl (by kernel_rfl) Try.func5 (by kernel_rfl)
    (of_decide_eq_true (by kernel_rfl)) (by unfold Func.isWrapper; first | (rw [if_pos (by decide +kernel)]; kernel_rfl) | (rw [if_neg (by decide +kernel)]; exact ⟨rfl, rfl⟩))
    (fun os started H enc _ => scoreFinds_lifted os started H enc)
#print axioms ScoreFinds_holds
end Go.Proofs.Ytnkaagbepppodaa
