/-
  The statement BlockPutsSaid: for every input the law BlockPuts returns true, and each argument reads afterwards as it read before. No condition.
-/
import Derived.Test.YtfjdmgnhklpiiaaGreatTy
import Derived.Test.YtfjdmgnhklpiiaaGreatBsX8
import Derived.Test.YtfjdmgnhklpiiaaGreatTkX9
import Derived.Test.YtfjdmgnhklpiiaaGreatRows
set_option linter.unusedSimpArgs false
set_option linter.unusedVariables false
namespace Go.Proofs.YtfjdmgnhklpiiaaGreat
open Go.AL
theorem blockPuts_typed (vs : List AVal) (h : tyVs T 4 Tryz.f5.params.toList vs) : Does Tryz.prog 5 vs [] (Is (.bool true) []) := by
  obtain ⟨a, _, rfl, ha, b, _, rfl, hb, c, _, rfl, hc, rfl⟩ := h
  obtain ⟨xa, rfl, hxa⟩ := block_typed ha
  obtain ⟨nb, rfl, hlb, hrb⟩ := int_typed hb
  obtain ⟨nc, rfl, hlc, hrc⟩ := int_typed hc
  exact blockPuts_law xa hxa nb nc
set_option maxRecDepth 100000 in
theorem blockPuts_lifted (os : Os) (started : os.Started) (H : Type) (enc : TypeId × Value → H) :
    ReturnsInHanded {} Tryz.checked os 5 .any (Rows.blockPutsSpec.pre6 enc Tryz.prog Tryz.f5 Rows.blockPutsRow.domain false) (Rows.blockPutsSpec.post enc Tryz.prog Tryz.f5 false true false false) :=
  law_lifted (C := Tryz.checked) T_ok 4 4 started enc (by kernel_rfl) (by kernel_rfl) (by kernel_rfl) Tryz.func5
    (ChangeSpec.witness6 (enc := enc) (C := Tryz.checked) false ⟨#[], #[.agg #[.int .i64 0, .int .i64 0, .int .i64 0, .slice none 0 0, .int .i64 0, .int .i64 0, .int .i64 0, .slice none 0 0, .slice none 0 0], .int .i64 0, .int .i64 0], []⟩ 8 (by kernel_rfl) (by kernel_rfl) (by kernel_rfl) (by kernel_rfl)) rfl
    (fun ds h => by match ds, h with | [a, b, c], _ => rfl) (by kernel_rfl) Tryz.underlying4 (by kernel_rfl) (by kernel_rfl) blockPuts_typed
theorem BlockPuts_holds : Rows.BlockPutsSaid :=
  OpenClaim.holds_of_wide 5 Tryz.f5 rfl rfl rfl rfl rfl rfl rfl ⟨rfl, rfl, rfl, rfl, rfl⟩ rfl rfl rfl rfl rfl (by kernel_rfl) Tryz.func5 (by kernel_rfl)
    (of_decide_eq_true (by kernel_rfl)) (by unfold Func.isWrapper; first | (rw [if_pos (by decide +kernel)]; kernel_rfl) | (rw [if_neg (by decide +kernel)]; exact ⟨rfl, rfl⟩))
    (fun os started H enc _ => blockPuts_lifted os started H enc)
#print axioms BlockPuts_holds
end Go.Proofs.YtfjdmgnhklpiiaaGreat
