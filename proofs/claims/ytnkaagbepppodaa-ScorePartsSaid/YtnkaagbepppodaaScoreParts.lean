/-
  The statement ScorePartsSaid: for every input the law ScoreParts returns true, and each argument reads afterwards as it read before. No condition.
-/
import Derived.Test.YtnkaagbepppodaaScoreS
import Derived.Test.YtnkaagbepppodaaScoreT
import Derived.Test.YtnkaagbepppodaaRows
set_option linter.unusedSimpArgs false
set_option linter.unusedVariables false
namespace Go.Proofs.Ytnkaagbepppodaa
open Go.AL
theorem scoreParts_typed (vs : List AVal) (h : tyVs T 4 Try.f8.params.toList vs) : Does Try.prog 8 vs [] (Is (.bool true) []) := by
  obtain ⟨a, _, rfl, ha, b, _, rfl, hb, c, _, rfl, hc, rfl⟩ := h
  obtain ⟨l, rfl, hl⟩ := cues_typed ha
  obtain ⟨n, rfl, _⟩ := int_typed hb
  obtain ⟨m, rfl, h0, h1⟩ := u8_typed hc
  exact parts_law l n m hl h0 h1
set_option maxRecDepth 100000 in
theorem scoreParts_lifted (os : Os) (started : os.Started) (H : Type) (enc : TypeId × Value → H) :
    ReturnsInHanded {} Try.checked os 8 .any (Rows.scorePartsSpec.pre6 enc Try.prog Try.f8 Rows.scorePartsRow.domain false) (Rows.scorePartsSpec.post enc Try.prog Try.f8 false true false false) :=
  law_lifted (C := Try.checked) T_ok 4 4 started enc (by kernel_rfl) (by kernel_rfl) (by kernel_rfl) Try.func8
    (ChangeSpec.witness6 (enc := enc) (C := Try.checked) false ⟨#[], #[.slice none 0 0, .int .i64 0, .int .u8 0], []⟩ 8 (by kernel_rfl) (by kernel_rfl) (by kernel_rfl) (by kernel_rfl)) rfl
    (fun ds h => by match ds, h with | [a, b, c], _ => rfl) (by kernel_rfl) Try.underlying4 (by kernel_rfl) (by kernel_rfl) scoreParts_typed
theorem ScoreParts_holds : Rows.ScorePartsSaid :=
  OpenClaim.holds_of_wide 8 Try.f8 rfl rfl rfl rfl rfl rfl rfl ⟨rfl, rfl, rfl, rfl, rfl⟩ rfl rfl rfl rfl rfl (by kernel_rfl) Try.func8 (by kernel_rfl)
    (of_decide_eq_true (by kernel_rfl)) (by unfold Func.isWrapper; first | (rw [if_pos (by decide +kernel)]; kernel_rfl) | (rw [if_neg (by decide +kernel)]; exact ⟨rfl, rfl⟩))
    (fun os started H enc _ => scoreParts_lifted os started H enc)
#print axioms ScoreParts_holds
end Go.Proofs.Ytnkaagbepppodaa
