/-
  The statement BlockSamplesSaid: for every input the law BlockSamples returns true, and each argument reads afterwards as it read before. No condition.
-/
import Derived.Test.YtnnpookoencpnaaBsXA
import Derived.Test.YtnnpookoencpnaaTy
import Derived.Test.YtnnpookoencpnaaRows
set_option linter.unusedSimpArgs false
set_option linter.unusedVariables false
namespace Go.Proofs.Ytnnpookoencpnaa
open Go.AL
theorem blockSamples_typed (vs : List AVal) (h : tyVs T 4 Try.f3.params.toList vs) : Does Try.prog 3 vs [] (Is (.bool true) []) := by
  obtain ⟨a, _, rfl, ha, b, _, rfl, hb, c, _, rfl, hc, rfl⟩ := h
  obtain ⟨xa, rfl, hxa⟩ := block_typed ha
  obtain ⟨nb, rfl, hlb, hrb⟩ := int_typed hb
  obtain ⟨nc, rfl, hlc, hrc⟩ := int_typed hc
  exact blockSamples_law xa hxa nb nc
set_option maxRecDepth 100000 in
theorem blockSamples_lifted (os : Os) (started : os.Started) (H : Type) (enc : TypeId × Value → H) :
    ReturnsInHanded {} Try.checked os 3 .any (Rows.blockSamplesSpec.pre6 enc Try.prog Try.f3 Rows.blockSamplesRow.domain false) (Rows.blockSamplesSpec.post enc Try.prog Try.f3 false true false false) :=
  law_lifted (C := Try.checked) T_ok 4 4 started enc (by kernel_rfl) (by kernel_rfl) (by kernel_rfl) Try.func3
    (ChangeSpec.witness6 (enc := enc) (C := Try.checked) false ⟨#[], #[.agg #[.int .i64 0, .int .i64 0, .int .i64 0, .slice none 0 0, .int .i64 0, .int .i64 0, .int .i64 0, .slice none 0 0, .slice none 0 0], .int .i64 0, .int .i64 0], []⟩ 8 (by kernel_rfl) (by kernel_rfl) (by kernel_rfl) (by kernel_rfl)) rfl
    (fun ds h => by match ds, h with | [a, b, c], _ => rfl) (by kernel_rfl) Try.underlying4 (by kernel_rfl) (by kernel_rfl) blockSamples_typed
theorem BlockSamples_holds : Rows.BlockSamplesSaid :=
  OpenClaim.holds_of_wide 3 Try.f3 rfl rfl rfl rfl rfl rfl rfl ⟨rfl, rfl, rfl, rfl, rfl⟩ rfl rfl rfl rfl rfl (by kernel_rfl) Try.func3 (by kernel_rfl)
    (of_decide_eq_true (by kernel_rfl)) (by unfold Func.isWrapper; first | (rw [if_pos (by decide +kernel)]; kernel_rfl) | (rw [if_neg (by decide +kernel)]; exact ⟨rfl, rfl⟩))
    (fun os started H enc _ => blockSamples_lifted os started H enc)
#print axioms BlockSamples_holds
end Go.Proofs.Ytnnpookoencpnaa
