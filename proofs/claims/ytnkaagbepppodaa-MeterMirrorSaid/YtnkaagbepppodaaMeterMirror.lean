/-
  The statement MeterMirrorSaid: for every input the law MeterMirror returns true, and each argument reads afterwards as it read before. No condition.
-/
import Derived.Test.YtnkaagbepppodaaMeterM
import Derived.Test.YtnkaagbepppodaaAlLaw
import Derived.Test.YtnkaagbepppodaaRows
set_option linter.unusedSimpArgs false
set_option linter.unusedVariables false
namespace Go.Proofs.Ytnkaagbepppodaa
open Go.AL
theorem meterMirror_typed (vs : List AVal) (h : tyVs T 4 Try.f7.params.toList vs) : Does Try.prog 7 vs [] (Is (.bool true) []) := by
  obtain ⟨a, _, rfl, ha, b, _, rfl, hb, rfl⟩ := h
  obtain ⟨l, hl, _⟩ := ha
  obtain ⟨z, hz, hw⟩ := hb
  cases hl
  cases hz
  have hw : 0 ≤ z ∧ z ≤ 65535 := by simpa [Lit.wf, IntKind.min, IntKind.max, IntKind.signed, IntKind.bits] using hw
  exact mirror_law l z hw.1 hw.2
set_option maxRecDepth 100000 in
theorem meterMirror_lifted (os : Os) (started : os.Started) (H : Type) (enc : TypeId × Value → H) :
    ReturnsInHanded {} Try.checked os 7 .any (Rows.meterMirrorSpec.pre6 enc Try.prog Try.f7 Rows.meterMirrorRow.domain false) (Rows.meterMirrorSpec.post enc Try.prog Try.f7 false true false false) :=
  law_lifted (C := Try.checked) T_ok 4 4 started enc (by kernel_rfl) (by kernel_rfl) (by kernel_rfl) Try.func7
    (ChangeSpec.witness6 (enc := enc) (C := Try.checked) false ⟨#[], #[.slice none 0 0, .int .u16 0], []⟩ 8 (by kernel_rfl) (by kernel_rfl) (by kernel_rfl) (by kernel_rfl)) rfl
    (fun ds h => by match ds, h with | [a, b], _ => rfl) (by kernel_rfl) Try.underlying4 (by kernel_rfl) (by kernel_rfl) meterMirror_typed
theorem MeterMirror_holds : Rows.MeterMirrorSaid :=
  OpenClaim.holds_of_wide 7 Try.f7 rfl rfl rfl rfl rfl rfl rfl ⟨rfl, rfl, rfl, rfl, rfl⟩ rfl rfl rfl rfl rfl (by kernel_rfl) Try.func7 (by kernel_rfl)
    (of_decide_eq_true (by kernel_rfl)) (by unfold Func.isWrapper; first | (rw [if_pos (by decide +kernel)]; kernel_rfl) | (rw [if_neg (by decide +kernel)]; exact ⟨rfl, rfl⟩))
    (fun os started H enc _ => meterMirror_lifted os started H enc)
#print axioms MeterMirror_holds
end Go.Proofs.Ytnkaagbepppodaa
