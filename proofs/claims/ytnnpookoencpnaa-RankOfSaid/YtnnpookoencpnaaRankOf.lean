/-
  The statement RankOfSaid: for every input the law RankOf returns true, and each argument reads afterwards as it read before. No condition.
-/
import Derived.Test.YtnnpookoencpnaaRkQ
import Derived.Test.YtnnpookoencpnaaTy
import Derived.Test.YtnnpookoencpnaaRows
set_option linter.unusedSimpArgs false
set_option linter.unusedVariables false
namespace Go.Proofs.Ytnnpookoencpnaa
open Go.AL
theorem rankOf_typed (vs : List AVal) (h : tyVs T 4 Try.f7.params.toList vs) : Does Try.prog 7 vs [] (Is (.bool true) []) := by
  obtain ⟨a, _, rfl, ha, rfl⟩ := h
  obtain ⟨la, rfl, hla, hra⟩ := ints_typed ha
  exact rankOf_law la hla
set_option maxRecDepth 100000 in
theorem rankOf_lifted (os : Os) (started : os.Started) (H : Type) (enc : TypeId × Value → H) :
    ReturnsInHanded {} Try.checked os 7 .any (Rows.rankOfSpec.pre6 enc Try.prog Try.f7 Rows.rankOfRow.domain false) (Rows.rankOfSpec.post enc Try.prog Try.f7 false true false false) :=
  law_lifted (C := Try.checked) T_ok 4 4 started enc (by kernel_rfl) (by kernel_rfl) (by kernel_rfl) Try.func7
    (ChangeSpec.witness6 (enc := enc) (C := Try.checked) false ⟨#[], #[.slice none 0 0], []⟩ 8 (by kernel_rfl) (by kernel_rfl) (by kernel_rfl) (by kernel_rfl)) rfl
    (fun ds h => by match ds, h with | [a], _ => rfl) (by kernel_rfl) Try.underlying4 (by kernel_rfl) (by kernel_rfl) rankOf_typed
theorem RankOf_holds : Rows.RankOfSaid :=
  OpenClaim.holds_of_wide 7 Try.f7 rfl rfl rfl rfl rfl rfl rfl ⟨rfl, rfl, rfl, rfl, rfl⟩ rfl rfl rfl rfl rfl (by kernel_rfl) Try.func7 (by kernel_rfl)
    (of_decide_eq_true (by kernel_rfl)) (by unfold Func.isWrapper; first | (rw [if_pos (by decide +kernel)]; kernel_rfl) | (rw [if_neg (by decide +kernel)]; exact ⟨rfl, rfl⟩))
    (fun os started H enc _ => rankOf_lifted os started H enc)
#print axioms RankOf_holds
end Go.Proofs.Ytnnpookoencpnaa
