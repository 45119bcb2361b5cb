/-
  The statement TuneBestSaid: for every input the law TuneBest returns true, and each argument reads afterwards as it read before. No condition.
-/
import Derived.Test.YtoeekjddeknmbaaGreatTy
import Derived.Test.YtoeekjddeknmbaaGreatTuX7
import Derived.Test.YtoeekjddeknmbaaGreatRows
set_option linter.unusedSimpArgs false
set_option linter.unusedVariables false
namespace Go.Proofs.YtoeekjddeknmbaaGreat
open Go.AL
theorem tuneBest_typed (vs : List AVal) (h : tyVs T 4 Tryz.f3.params.toList vs) : Does Tryz.prog 3 vs [] (Is (.bool true) []) := by
  obtain ⟨a, _, rfl, ha, b, _, rfl, hb, c, _, rfl, hc, rfl⟩ := h
  obtain ⟨la, rfl, hla, hra⟩ := ints_typed ha
  obtain ⟨nb, rfl, hlb, hrb⟩ := int_typed hb
  obtain ⟨xc, rfl, hxc⟩ := ch_typed hc
  exact tuneBest_law la hla nb xc hxc
set_option maxRecDepth 100000 in
theorem tuneBest_lifted (os : Os) (started : os.Started) (H : Type) (enc : TypeId × Value → H) :
    ReturnsInHanded {} Tryz.checked os 3 .any (Rows.tuneBestSpec.pre6 enc Tryz.prog Tryz.f3 Rows.tuneBestRow.domain false) (Rows.tuneBestSpec.post enc Tryz.prog Tryz.f3 false true false false) :=
  law_lifted (C := Tryz.checked) T_ok 4 4 started enc (by kernel_rfl) (by kernel_rfl) (by kernel_rfl) Tryz.func3
    (ChangeSpec.witness6 (enc := enc) (C := Tryz.checked) false ⟨#[], #[.slice none 0 0, .int .i64 0, .agg #[.int .i64 0, .int .i64 0, .bool false, .bool false, .bool false]], []⟩ 8 (by kernel_rfl) (by kernel_rfl) (by kernel_rfl) (by kernel_rfl)) rfl
    (fun ds h => by match ds, h with | [a, b, c], _ => rfl) (by kernel_rfl) Tryz.underlying4 (by kernel_rfl) (by kernel_rfl) tuneBest_typed
theorem TuneBest_holds : Rows.TuneBestSaid :=
  OpenClaim.holds_of_wide 3 Tryz.f3 rfl rfl rfl rfl rfl rfl rfl ⟨rfl, rfl, rfl, rfl, rfl⟩ rfl rfl rfl rfl rfl (by kernel_rfl) Tryz.func3 (by kernel_rfl)
    (of_decide_eq_true (by kernel_rfl)) (by unfold Func.isWrapper; first | (rw [if_pos (by decide +kernel)]; kernel_rfl) | (rw [if_neg (by decide +kernel)]; exact ⟨rfl, rfl⟩))
    (fun os started H enc _ => tuneBest_lifted os started H enc)
#print axioms TuneBest_holds
end Go.Proofs.YtoeekjddeknmbaaGreat
