/-
  The statement MeterQuietSaid: for every input the law MeterQuiet returns true, and each argument reads afterwards as it read before. No condition.
-/
import Derived.Test.YtnkaagbepppodaaMeterQ
import Derived.Test.YtnkaagbepppodaaAlLaw
import Derived.Test.YtnkaagbepppodaaRows
set_option linter.unusedSimpArgs false
set_option linter.unusedVariables false
namespace Go.Proofs.Ytnkaagbepppodaa
open Go.AL
theorem meterQuiet_typed (vs : List AVal) (h : tyVs T 4 Try.f6.params.toList vs) : Does Try.prog 6 vs [] (Is (.bool true) []) := by
  obtain ⟨a, _, rfl, ha, b, _, rfl, hb, c, _, rfl, hc, rfl⟩ := h
  obtain ⟨l, hl, _⟩ := ha
  obtain ⟨_, rfl, hb⟩ := hb
  obtain ⟨_, _, rfl, ⟨x, rfl, _⟩, _, _, rfl, ⟨y, rfl, _⟩, rfl⟩ := hb
  obtain ⟨z, hz, _⟩ := hc
  cases hl
  cases hz
  exact quiet_law l x y z
set_option maxRecDepth 100000 in
theorem meterQuiet_lifted (os : Os) (started : os.Started) (H : Type) (enc : TypeId × Value → H) :
    ReturnsInHanded {} Try.checked os 6 .any (Rows.meterQuietSpec.pre6 enc Try.prog Try.f6 Rows.meterQuietRow.domain false) (Rows.meterQuietSpec.post enc Try.prog Try.f6 false true false false) :=
  law_lifted (C := Try.checked) T_ok 4 4 started enc (by kernel_rfl) (by kernel_rfl) (by kernel_rfl) Try.func6
    (ChangeSpec.witness6 (enc := enc) (C := Try.checked) false ⟨#[], #[.slice none 0 0, .agg #[.int .i64 0, .int .i64 0], .int .u8 0], []⟩ 8 (by kernel_rfl) (by kernel_rfl) (by kernel_rfl) (by kernel_rfl)) rfl
    (fun ds h => by match ds, h with | [a, b, c], _ => rfl) (by kernel_rfl) Try.underlying4 (by kernel_rfl) (by kernel_rfl) meterQuiet_typed
theorem MeterQuiet_holds : Rows.MeterQuietSaid :=
  OpenClaim.holds_of_wide 6 Try.f6 rfl rfl rfl rfl rfl rfl rfl ⟨rfl, rfl, rfl, rfl, rfl⟩ rfl rfl rfl rfl rfl (by kernel_rfl) Try.func6 (by kernel_rfl)
    (of_decide_eq_true (by kernel_rfl)) (by unfold Func.isWrapper; first | (rw [if_pos (by decide +kernel)]; kernel_rfl) | (rw [if_neg (by decide +kernel)]; exact ⟨rfl, rfl⟩))
    (fun os started H enc _ => meterQuiet_lifted os started H enc)
#print axioms MeterQuiet_holds
end Go.Proofs.Ytnkaagbepppodaa
