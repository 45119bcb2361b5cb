/-
  The statement TuneStillSaid: for every input the law TuneStill returns true, and each argument reads afterwards as it read before. No condition.
-/
import Derived.Test.YtoeekjddeknmbaaGreatTy
import Derived.Test.YtoeekjddeknmbaaGreatTuX6
import Derived.Test.YtoeekjddeknmbaaGreatRows
set_option linter.unusedSimpArgs false
set_option linter.unusedVariables false
namespace Go.Proofs.YtoeekjddeknmbaaGreat
open Go.AL
theorem tuneStill_typed (vs : List AVal) (h : tyVs T 4 Tryz.f6.params.toList vs) : Does Tryz.prog 6 vs [] (Is (.bool true) []) := by
  obtain ⟨a, _, rfl, ha, b, _, rfl, hb, c, _, rfl, hc, rfl⟩ := h
  obtain ⟨na, rfl, hla, hra⟩ := int_typed ha
  obtain ⟨xb, rfl, hxb⟩ := u8_typed hb
  obtain ⟨xc, rfl, hxc⟩ := ch_typed hc
  exact tuneStill_law na xb hxb xc hxc
set_option maxRecDepth 100000 in
theorem tuneStill_lifted (os : Os) (started : os.Started) (H : Type) (enc : TypeId × Value → H) :
    ReturnsInHanded {} Tryz.checked os 6 .any (Rows.tuneStillSpec.pre6 enc Tryz.prog Tryz.f6 Rows.tuneStillRow.domain false) (Rows.tuneStillSpec.post enc Tryz.prog Tryz.f6 false true false false) :=
  law_lifted (C := Tryz.checked) T_ok 4 4 started enc (by kernel_rfl) (by kernel_rfl) (by kernel_rfl) Tryz.func6
    (ChangeSpec.witness6 (enc := enc) (C := Tryz.checked) false ⟨#[], #[.int .i64 0, .int .u8 0, .agg #[.int .i64 0, .int .i64 0, .bool false, .bool false, .bool false]], []⟩ 8 (by kernel_rfl) (by kernel_rfl) (by kernel_rfl) (by kernel_rfl)) rfl
    (fun ds h => by match ds, h with | [a, b, c], _ => rfl) (by kernel_rfl) Tryz.underlying4 (by kernel_rfl) (by kernel_rfl) tuneStill_typed
theorem TuneStill_holds : Rows.TuneStillSaid :=
  OpenClaim.holds_of_wide 6 Tryz.f6 rfl rfl rfl rfl rfl rfl rfl ⟨rfl, rfl, rfl, rfl, rfl⟩ rfl rfl rfl rfl rfl (by kernel_rfl) Tryz.func6 (by kernel_rfl)
    (of_decide_eq_true (by kernel_rfl)) (by unfold Func.isWrapper; first | (rw [if_pos (by decide +kernel)]; kernel_rfl) | (rw [if_neg (by decide +kernel)]; exact ⟨rfl, rfl⟩))
    (fun os started H enc _ => tuneStill_lifted os started H enc)
#print axioms TuneStill_holds
end Go.Proofs.YtoeekjddeknmbaaGreat
