/-
  The statement RankPlacesSaid: for every input the law RankPlaces returns true, and each argument reads afterwards as it read before. No condition.
-/
import Derived.Test.YtnnpookoencpnaaRkG
import Derived.Test.YtnnpookoencpnaaBkT
import Derived.Test.YtnnpookoencpnaaRows
set_option linter.unusedSimpArgs false
set_option linter.unusedVariables false
namespace Go.Proofs.Ytnnpookoencpnaa
open Go.AL
theorem rankPlaces_typed (vs : List AVal) (h : tyVs T 4 Try.f6.params.toList vs) : Does Try.prog 6 vs [] (Is (.bool true) []) := by
  obtain ⟨a, _, rfl, ha, rfl⟩ := h
  obtain ⟨l, rfl, hl, hr⟩ := ints_typed ha
  exact places_law l hl
set_option maxRecDepth 100000 in
theorem rankPlaces_lifted (os : Os) (started : os.Started) (H : Type) (enc : TypeId × Value → H) :
    ReturnsInHanded {} Try.checked os 6 .any (Rows.rankPlacesSpec.pre6 enc Try.prog Try.f6 Rows.rankPlacesRow.domain false) (Rows.rankPlacesSpec.post enc Try.prog Try.f6 false true false false) :=
  law_lifted (C := Try.checked) T_ok 4 4 started enc (by kernel_rfl) (by kernel_rfl) (by kernel_rfl) Try.func6
    (ChangeSpec.witness6 (enc := enc) (C := Try.checked) false ⟨#[], #[.slice none 0 0], []⟩ 8 (by kernel_rfl) (by kernel_rfl) (by kernel_rfl) (by kernel_rfl)) rfl
    (fun ds h => by match ds, h with | [a], _ => rfl) (by kernel_rfl) Try.underlying4 (by kernel_rfl) (by kernel_rfl) rankPlaces_typed
theorem RankPlaces_holds : Rows.RankPlacesSaid :=
  OpenClaim.holds_of_wide 6 Try.f6 rfl rfl rfl rfl rfl rfl rfl ⟨rfl, rfl, rfl, rfl, rfl⟩ rfl rfl rfl rfl rfl (by kernel_rfl) Try.func6 (by kernel_rfl)
    (of_decide_eq_true (by kernel_rfl)) (by unfold Func.isWrapper; first | (rw [if_pos (by decide +kernel)]; kernel_rfl) | (rw [if_neg (by decide +kernel)]; exact ⟨rfl, rfl⟩))
    (fun os started H enc _ => rankPlaces_lifted os started H enc)
#print axioms RankPlaces_holds
end Go.Proofs.Ytnnpookoencpnaa
