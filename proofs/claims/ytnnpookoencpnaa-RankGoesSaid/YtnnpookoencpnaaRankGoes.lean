/-
  The statement RankGoesSaid: for every input the law RankGoes returns true, and each argument reads afterwards as it read before. No condition.
-/
import Derived.Test.YtnnpookoencpnaaRkJ
import Derived.Test.YtnnpookoencpnaaTy
import Derived.Test.YtnnpookoencpnaaRows
set_option linter.unusedSimpArgs false
set_option linter.unusedVariables false
namespace Go.Proofs.Ytnnpookoencpnaa
open Go.AL
theorem rankGoes_typed (vs : List AVal) (h : tyVs T 4 Try.f9.params.toList vs) : Does Try.prog 9 vs [] (Is (.bool true) []) := by
  obtain ⟨a, _, rfl, ha, b, _, rfl, hb, rfl⟩ := h
  obtain ⟨la, rfl, hla, hra⟩ := ints_typed ha
  obtain ⟨lb, rfl, hlb, hrb⟩ := ints_typed hb
  exact goes_law la hla lb hlb
set_option maxRecDepth 100000 in
theorem rankGoes_lifted (os : Os) (started : os.Started) (H : Type) (enc : TypeId × Value → H) :
    ReturnsInHanded {} Try.checked os 9 .any (Rows.rankGoesSpec.pre6 enc Try.prog Try.f9 Rows.rankGoesRow.domain false) (Rows.rankGoesSpec.post enc Try.prog Try.f9 false true false false) :=
  law_lifted (C := Try.checked) T_ok 4 4 started enc (by kernel_rfl) (by kernel_rfl) (by kernel_rfl) Try.func9
    (ChangeSpec.witness6 (enc := enc) (C := Try.checked) false ⟨#[], #[.slice none 0 0, .slice none 0 0], []⟩ 8 (by kernel_rfl) (by kernel_rfl) (by kernel_rfl) (by kernel_rfl)) rfl
    (fun ds h => by match ds, h with | [a, b], _ => rfl) (by kernel_rfl) Try.underlying4 (by kernel_rfl) (by kernel_rfl) rankGoes_typed
theorem RankGoes_holds : Rows.RankGoesSaid :=
  OpenClaim.holds_of_wide 9 Try.f9 rfl rfl rfl rfl rfl rfl rfl ⟨rfl, rfl, rfl, rfl, rfl⟩ rfl rfl rfl rfl rfl (by kernel_rfl) Try.func9 (by kernel_rfl)
    (of_decide_eq_true (by kernel_rfl)) (by unfold Func.isWrapper; first | (rw [if_pos (by decide +kernel)]; kernel_rfl) | (rw [if_neg (by decide +kernel)]; exact ⟨rfl, rfl⟩))
    (fun os started H enc _ => rankGoes_lifted os started H enc)
#print axioms RankGoes_holds
end Go.Proofs.Ytnnpookoencpnaa
