/-
  The statement RankTakesSaid: for every input the law RankTakes returns true, and each argument reads afterwards as it read before. No condition.
-/
import Derived.Test.YtnnpookoencpnaaRkW
import Derived.Test.YtnnpookoencpnaaTy
import Derived.Test.YtnnpookoencpnaaRows
set_option linter.unusedSimpArgs false
set_option linter.unusedVariables false
namespace Go.Proofs.Ytnnpookoencpnaa
open Go.AL
theorem rankTakes_typed (vs : List AVal) (h : tyVs T 4 Try.f10.params.toList vs) : Does Try.prog 10 vs [] (Is (.bool true) []) := by
  obtain ⟨a, _, rfl, ha, b, _, rfl, hb, rfl⟩ := h
  obtain ⟨la, rfl, hla, hra⟩ := bytes_typed ha
  obtain ⟨nb, rfl, hlb, hrb⟩ := int_typed hb
  exact rankTakes_law la hla hra nb
set_option maxRecDepth 100000 in
theorem rankTakes_lifted (os : Os) (started : os.Started) (H : Type) (enc : TypeId × Value → H) :
    ReturnsInHanded {} Try.checked os 10 .any (Rows.rankTakesSpec.pre6 enc Try.prog Try.f10 Rows.rankTakesRow.domain false) (Rows.rankTakesSpec.post enc Try.prog Try.f10 false true false false) :=
  law_lifted (C := Try.checked) T_ok 4 4 started enc (by kernel_rfl) (by kernel_rfl) (by kernel_rfl) Try.func10
    (ChangeSpec.witness6 (enc := enc) (C := Try.checked) false ⟨#[], #[.slice none 0 0, .int .i64 0], []⟩ 8 (by kernel_rfl) (by kernel_rfl) (by kernel_rfl) (by kernel_rfl)) rfl
    (fun ds h => by match ds, h with | [a, b], _ => rfl) (by kernel_rfl) Try.underlying4 (by kernel_rfl) (by kernel_rfl) rankTakes_typed
theorem RankTakes_holds : Rows.RankTakesSaid :=
  OpenClaim.holds_of_wide 10 Try.f10 rfl rfl rfl rfl rfl rfl rfl ⟨rfl, rfl, rfl, rfl, rfl⟩ rfl rfl rfl rfl rfl (by kernel_rfl) Try.func10 (by kernel_rfl)
    (of_decide_eq_true (by kernel_rfl)) (by unfold Func.isWrapper; first | (rw [if_pos (by decide +kernel)]; kernel_rfl) | (rw [if_neg (by decide +kernel)]; exact ⟨rfl, rfl⟩))
    (fun os started H enc _ => rankTakes_lifted os started H enc)
#print axioms RankTakes_holds
end Go.Proofs.Ytnnpookoencpnaa
