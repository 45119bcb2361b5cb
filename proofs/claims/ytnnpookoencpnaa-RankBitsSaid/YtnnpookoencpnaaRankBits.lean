/-
  The statement RankBitsSaid: for every input the law RankBits returns true, and each argument reads afterwards as it read before. No condition.
-/
import Derived.Test.YtnnpookoencpnaaRkW2
import Derived.Test.YtnnpookoencpnaaTy
import Derived.Test.YtnnpookoencpnaaRows
set_option linter.unusedSimpArgs false
set_option linter.unusedVariables false
namespace Go.Proofs.Ytnnpookoencpnaa
open Go.AL
theorem rankBits_typed (vs : List AVal) (h : tyVs T 4 Try.f11.params.toList vs) : Does Try.prog 11 vs [] (Is (.bool true) []) := by
  obtain ⟨a, _, rfl, ha, rfl⟩ := h
  obtain ⟨la, rfl, hla, hra⟩ := ints_typed ha
  exact rankBits_law la hla
set_option maxRecDepth 100000 in
theorem rankBits_lifted (os : Os) (started : os.Started) (H : Type) (enc : TypeId × Value → H) :
    ReturnsInHanded {} Try.checked os 11 .any (Rows.rankBitsSpec.pre6 enc Try.prog Try.f11 Rows.rankBitsRow.domain false) (Rows.rankBitsSpec.post enc Try.prog Try.f11 false true false false) :=
  law_lifted (C := Try.checked) T_ok 4 4 started enc (by kernel_rfl) (by kernel_rfl) (by kernel_rfl) Try.func11
    (ChangeSpec.witness6 (enc := enc) (C := Try.checked) false ⟨#[], #[.slice none 0 0], []⟩ 8 (by kernel_rfl) (by kernel_rfl) (by kernel_rfl) (by kernel_rfl)) rfl
    (fun ds h => by match ds, h with | [a], _ => rfl) (by kernel_rfl) Try.underlying4 (by kernel_rfl) (by kernel_rfl) rankBits_typed
theorem RankBits_holds : Rows.RankBitsSaid :=
  OpenClaim.holds_of_wide 11 Try.f11 rfl rfl rfl rfl rfl rfl rfl ⟨rfl, rfl, rfl, rfl, rfl⟩ rfl rfl rfl rfl rfl (by kernel_rfl) Try.func11 (by kernel_rfl)
    (of_decide_eq_true (by kernel_rfl)) (by unfold Func.isWrapper; first | (rw [if_pos (by decide +kernel)]; kernel_rfl) | (rw [if_neg (by decide +kernel)]; exact ⟨rfl, rfl⟩))
    (fun os started H enc _ => rankBits_lifted os started H enc)
#print axioms RankBits_holds
end Go.Proofs.Ytnnpookoencpnaa
