/-
  The statement RankSortedSaid: for every input the law RankSorted returns true, and each argument reads afterwards as it read before. No condition.
-/
import Derived.Test.YtnnpookoencpnabHpJ
import Derived.Test.YtnnpookoencpnabTy
import Derived.Test.YtnnpookoencpnabRows
set_option linter.unusedSimpArgs false
set_option linter.unusedVariables false
namespace Go.Proofs.Ytnnpookoencpnab
open Go.AL
theorem rankSorted_typed (vs : List AVal) (h : tyVs T 4 Try.f3.params.toList vs) : Does Try.prog 3 vs [] (Is (.bool true) []) := by
  obtain ⟨a, _, rfl, ha, b, _, rfl, hb, rfl⟩ := h
  obtain ⟨la, rfl, hla, hra⟩ := ints_typed ha
  obtain ⟨lb, rfl, hlb, hrb⟩ := ints_typed hb
  exact sorted_law la hla lb hlb
set_option maxRecDepth 100000 in
theorem rankSorted_lifted (os : Os) (started : os.Started) (H : Type) (enc : TypeId × Value → H) :
    ReturnsInHanded {} Try.checked os 3 .any (Rows.rankSortedSpec.pre6 enc Try.prog Try.f3 Rows.rankSortedRow.domain false) (Rows.rankSortedSpec.post enc Try.prog Try.f3 false true false false) :=
  law_lifted (C := Try.checked) T_ok 4 4 started enc (by kernel_rfl) (by kernel_rfl) (by kernel_rfl) Try.func3
    (ChangeSpec.witness6 (enc := enc) (C := Try.checked) false ⟨#[], #[.slice none 0 0, .slice none 0 0], []⟩ 8 (by kernel_rfl) (by kernel_rfl) (by kernel_rfl) (by kernel_rfl)) rfl
    (fun ds h => by match ds, h with | [a, b], _ => rfl) (by kernel_rfl) Try.underlying4 (by kernel_rfl) (by kernel_rfl) rankSorted_typed
theorem RankSorted_holds : Rows.RankSortedSaid :=
  OpenClaim.holds_of_wide 3 Try.f3 rfl rfl rfl rfl rfl rfl rfl ⟨rfl, rfl, rfl, rfl, rfl⟩ rfl rfl rfl rfl rfl (by kernel_rfl) Try.func3 (by kernel_rfl)
    (of_decide_eq_true (by kernel_rfl)) (by unfold Func.isWrapper; first | (rw [if_pos (by decide +kernel)]; kernel_rfl) | (rw [if_neg (by decide +kernel)]; exact ⟨rfl, rfl⟩))
    (fun os started H enc _ => rankSorted_lifted os started H enc)
#print axioms RankSorted_holds
end Go.Proofs.Ytnnpookoencpnab
