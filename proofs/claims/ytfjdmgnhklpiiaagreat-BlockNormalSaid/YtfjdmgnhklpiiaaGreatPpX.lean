/- Bits, the highest first: the plain part. -/
import Derived.Test.YtfjdmgnhklpiiaaGreatTryTab
import Derived.Test.YtfjdmgnhklpiiaaGreatAl4
import Derived.Test.YtfjdmgnhklpiiaaGreatBaseX
set_option linter.unusedSimpArgs false
set_option linter.unusedVariables false
open Go Go.AL
namespace Go.Proofs.YtfjdmgnhklpiiaaGreat
def bitsOf (v : Nat) : Nat → List Bool
  | 0 => []
  | n + 1 => bitsOf (v / 2) n ++ [v % 2 == 1]
theorem bitsOf_len (v n : Nat) : (bitsOf v n).length = n := by
  induction n generalizing v with
  | zero => rfl
  | succ n ih => simp [bitsOf, ih]
def byteAt (bits : List Bool) (i : Nat) : Nat :=
  128 * (bits.getD (8 * i) false).toNat + 64 * (bits.getD (8 * i + 1) false).toNat + 32 * (bits.getD (8 * i + 2) false).toNat + 16 * (bits.getD (8 * i + 3) false).toNat +
  8 * (bits.getD (8 * i + 4) false).toNat + 4 * (bits.getD (8 * i + 5) false).toNat + 2 * (bits.getD (8 * i + 6) false).toNat + (bits.getD (8 * i + 7) false).toNat
def nby (n : Nat) : Nat := (n + 7) / 8
def pack (bits : List Bool) : List Int := (List.range (nby bits.length)).map fun i => (byteAt bits i : Int)
end Go.Proofs.YtfjdmgnhklpiiaaGreat
/- Small laws of bits and whole numbers. -/
set_option maxHeartbeats 4000000
set_option maxRecDepth 20000
set_option linter.unusedSimpArgs false
set_option linter.unusedVariables false
open Go Go.AL
namespace Go.Proofs.YtfjdmgnhklpiiaaGreat
theorem shr_nat (k : IntKind) (v i : Nat) (hi : i ≤ k.bits) : rI2 .shr k (v : Int) (i : Int) = ((v / 2 ^ i : Nat) : Int) := by
  show (v : Int).fdiv (2 ^ (min (i : Int).toNat k.bits)) = _
  rw [show min (i : Int).toNat k.bits = i by simp; omega, Int.fdiv_eq_ediv_of_nonneg _ (by exact Int.pow_nonneg (by decide))]
  simp
end Go.Proofs.YtfjdmgnhklpiiaaGreat
/- A Reader's contracts. -/
set_option maxHeartbeats 4000000
set_option maxRecDepth 20000
set_option linter.unusedSimpArgs false
set_option linter.unusedVariables false
open Go Go.AL
namespace Go.Proofs.YtfjdmgnhklpiiaaGreat
end Go.Proofs.YtfjdmgnhklpiiaaGreat
/- A Reader's contracts, 2. -/
set_option maxHeartbeats 4000000
set_option maxRecDepth 20000
set_option linter.unusedSimpArgs false
set_option linter.unusedVariables false
open Go Go.AL
namespace Go.Proofs.YtfjdmgnhklpiiaaGreat
end Go.Proofs.YtfjdmgnhklpiiaaGreat
