/-
  The statement BlockNormalSaid: for every input the law BlockNormal returns true, and each argument reads afterwards as it read before. No condition.
-/
import Derived.Test.YtfjdmgnhklpiiaaGreatTy
import Derived.Test.YtfjdmgnhklpiiaaGreatNoZ
import Derived.Test.YtfjdmgnhklpiiaaGreatRows
set_option linter.unusedSimpArgs false
set_option linter.unusedVariables false
namespace Go.Proofs.YtfjdmgnhklpiiaaGreat
open Go.AL
theorem blockNormal_typed (vs : List AVal) (h : tyVs T 4 Tryz.f4.params.toList vs) : Does Tryz.prog 4 vs [] (Is (.bool true) []) := by
  obtain ⟨a, _, rfl, ha, b, _, rfl, hb, rfl⟩ := h
  obtain ⟨la, rfl, hla, hra⟩ := ints_typed ha
  obtain ⟨xb, rfl, hxb⟩ := how_typed hb
  exact blockNormal_law la hla xb hxb
set_option maxRecDepth 100000 in
theorem blockNormal_lifted (os : Os) (started : os.Started) (H : Type) (enc : TypeId × Value → H) :
    ReturnsInHanded {} Tryz.checked os 4 .any (Rows.blockNormalSpec.pre6 enc Tryz.prog Tryz.f4 Rows.blockNormalRow.domain false) (Rows.blockNormalSpec.post enc Tryz.prog Tryz.f4 false true false false) :=
  law_lifted (C := Tryz.checked) T_ok 4 4 started enc (by kernel_rfl) (by kernel_rfl) (by kernel_rfl) Tryz.func4
    (ChangeSpec.witness6 (enc := enc) (C := Tryz.checked) false ⟨#[], #[.slice none 0 0, .agg #[.int .i64 0, .int .i64 0, .int .i64 0, .int .i64 0, .slice none 0 0]], []⟩ 8 (by kernel_rfl) (by kernel_rfl) (by kernel_rfl) (by kernel_rfl)) rfl
    (fun ds h => by match ds, h with | [a, b], _ => rfl) (by kernel_rfl) Tryz.underlying4 (by kernel_rfl) (by kernel_rfl) blockNormal_typed
theorem BlockNormal_holds : Rows.BlockNormalSaid :=
  OpenClaim.holds_of_wide 4 Tryz.f4 rfl rfl rfl rfl rfl rfl rfl ⟨rfl, rfl, rfl, rfl, rfl⟩ rfl rfl rfl rfl rfl (by kernel_rfl) Tryz.func4 (by kernel_rfl)
    (of_decide_eq_true (by kernel_rfl)) (by unfold Func.isWrapper; first | (rw [if_pos (by decide +kernel)]; kernel_rfl) | (rw [if_neg (by decide +kernel)]; exact ⟨rfl, rfl⟩))
    (fun os started H enc _ => blockNormal_lifted os started H enc)
#print axioms BlockNormal_holds
end Go.Proofs.YtfjdmgnhklpiiaaGreat
