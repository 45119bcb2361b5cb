/- The bits that numbers, parts and blocks have. -/
import Derived.Test.YtfjdmgnhklpiiaaGreatTryTab
import Derived.Test.YtfjdmgnhklpiiaaGreatAl4
import Derived.Test.YtfjdmgnhklpiiaaGreatBaseX
import Derived.Test.YtfjdmgnhklpiiaaGreatRkX
import Derived.Test.YtfjdmgnhklpiiaaGreatPpX
set_option maxHeartbeats 4000000
set_option maxRecDepth 20000
set_option linter.unusedSimpArgs false
set_option linter.unusedVariables false
open Go Go.AL
namespace Go.Proofs.YtfjdmgnhklpiiaaGreat
def zb (n : Int) : List Bool := List.replicate n.toNat false ++ [true]
theorem zb_len (n : Int) : (zb n).length = n.toNat + 1 := by simp [zb]
def foldZ (n : Int) : Int := if n < 0 then -2 * n - 1 else 2 * n
theorem foldZ_range {n : Int} (h0 : -8589934592 ≤ n) (h1 : n < 8589934592) : 0 ≤ foldZ n ∧ foldZ n < 17179869184 := by unfold foldZ; split <;> omega
def rcode (n k : Int) : List Bool := if foldZ n / 2 ^ k.toNat < 24 then zb (foldZ n / 2 ^ k.toNat) ++ bitsOf (foldZ n % 2 ^ k.toNat).toNat k.toNat else zb 24 ++ bitsOf (foldZ n).toNat 34
theorem rcode_len (n k : Int) (h0 : -8589934592 ≤ n) (h1 : n < 8589934592) (h3 : k ≤ 24) : (rcode n k).length ≤ 59 := by
  obtain ⟨a, b⟩ := foldZ_range h0 h1
  unfold rcode
  split
  · rw [List.length_append, zb_len, bitsOf_len]; omega
  · rw [List.length_append, zb_len, bitsOf_len]; omega
theorem shr_pow (z : Int) (k : Nat) (hz : 0 ≤ z) (hk : k ≤ 64) : rI2 .shr .i64 z (k : Int) = z / 2 ^ k := by
  obtain ⟨v, rfl⟩ : ∃ v : Nat, z = v := ⟨z.toNat, by omega⟩
  rw [shr_nat .i64 v k (by simpa [IntKind.bits] using hk)]
  simp
def partL (l : List Int) (s i : Nat) : List Int := (l.drop (i * s)).take s
def rcodes (k : Int) (x : List Int) : List Bool := (x.map fun n => rcode n k).flatten
theorem rcodes_step (k : Int) (x : List Int) (j : Nat) (h : j < x.length) : rcodes k (x.take (j + 1)) = rcodes k (x.take j) ++ rcode (x.getD j 0) k := by
  unfold rcodes
  rw [List.take_add_one, List.map_append, List.flatten_append]
  simp [List.getD, h]
def pcode (k : Int) (x : List Int) : List Bool := bitsOf k.toNat 5 ++ rcodes k x
def pcodes (l ks : List Int) (s : Nat) : Nat → List Bool
  | 0 => []
  | i + 1 => pcodes l ks s i ++ pcode (ks.getD i 0) (partL l s i)
theorem rcodes_len (k : Int) (x : List Int) (hk : k ≤ 24) (hx : ∀ j, j < x.length → -8589934592 ≤ x.getD j 0 ∧ x.getD j 0 < 8589934592) : ∀ j, j ≤ x.length → (rcodes k (x.take j)).length ≤ 59 * j
  | 0, _ => by simp [rcodes]
  | j + 1, h => by
    rw [rcodes_step k x j (by omega), List.length_append]
    have := rcodes_len k x hk hx j (by omega)
    obtain ⟨a, b⟩ := hx j (by omega)
    have := rcode_len (x.getD j 0) k a b hk
    omega
theorem pcodes_len (l ks : List Int) (s : Nat) (hks : ∀ i, i < ks.length → ks.getD i 0 ≤ 24) (hfar : ∀ x ∈ l, -8589934592 ≤ x ∧ x < 8589934592) : ∀ i, i ≤ ks.length → (pcodes l ks s i).length ≤ i * (5 + 59 * s)
  | 0, _ => by simp [pcodes]
  | i + 1, h => by
    have ih := pcodes_len l ks s hks hfar i (by omega)
    rw [pcodes, List.length_append, pcode, List.length_append, bitsOf_len, Nat.succ_mul]
    have hx : (partL l s i).length ≤ s := by rw [partL, List.length_take]; omega
    have := rcodes_len (ks.getD i 0) (partL l s i) (hks i (by omega)) (fun j hj => hfar _ (by
      have : (partL l s i).getD j 0 ∈ partL l s i := mem_getD.2 ⟨j, hj, rfl⟩
      generalize (partL l s i).getD j 0 = y at *
      rw [partL] at this
      exact List.mem_of_mem_drop (List.mem_of_mem_take this))) (partL l s i).length (Nat.le_refl _)
    rw [List.take_length] at this
    have h2 : 59 * (partL l s i).length ≤ 59 * s := Nat.mul_le_mul_left _ hx
    omega
end Go.Proofs.YtfjdmgnhklpiiaaGreat
set_option maxHeartbeats 1000000
set_option linter.unusedSimpArgs false
set_option linter.unusedVariables false
open Go Go.AL
namespace Go.Proofs.YtfjdmgnhklpiiaaGreat
set_option maxRecDepth 100000 in
theorem awake10_run : (ex PP T M (fun _ => true) 400).F 6 [] [] = some (.bool true, []) := by kernel_rfl
theorem awake10 (h : Heap) : Does PP 6 [] h (Is (.bool true) h) := pure0 (ex_does P_ok 400 awake10_run) rfl rfl h
end Go.Proofs.YtfjdmgnhklpiiaaGreat
