/-
  Contracts of functions of the program, proved over the abstract machine of the Al texts.
-/
import Derived.Test.YtoeekjddeknmbaaGreatTryTab
import Derived.Test.YtoeekjddeknmbaaGreatAl4
import Derived.Test.YtoeekjddeknmbaaGreatBaseX
import Derived.Test.YtoeekjddeknmbaaGreatSlX
import Derived.Test.YtoeekjddeknmbaaGreatRkX
import Derived.Test.YtoeekjddeknmbaaGreatPpX
import Derived.Test.YtoeekjddeknmbaaGreatBsX1
import Derived.Test.YtoeekjddeknmbaaGreatBsX3
import Derived.Test.YtoeekjddeknmbaaGreatTkX3
import Derived.Test.YtoeekjddeknmbaaGreatPpZ
import Derived.Test.YtoeekjddeknmbaaGreatBsX2
import Derived.Test.YtoeekjddeknmbaaGreatBsX4
import Derived.Test.YtoeekjddeknmbaaGreatBsX5
import Derived.Test.YtoeekjddeknmbaaGreatBsX6
import Derived.Test.YtoeekjddeknmbaaGreatBsX8
import Derived.Test.YtoeekjddeknmbaaGreatPlX
import Derived.Test.YtoeekjddeknmbaaGreatSlW
import Derived.Test.YtoeekjddeknmbaaGreatTkX1
import Derived.Test.YtoeekjddeknmbaaGreatTkX6
set_option maxHeartbeats 4000000
set_option maxRecDepth 20000
set_option linter.unusedSimpArgs false
set_option linter.unusedVariables false
open Go Go.AL
namespace Go.Proofs.YtoeekjddeknmbaaGreat
end Go.Proofs.YtoeekjddeknmbaaGreat
set_option maxHeartbeats 4000000
set_option maxRecDepth 20000
set_option linter.unusedSimpArgs false
set_option linter.unusedVariables false
open Go Go.AL
namespace Go.Proofs.YtoeekjddeknmbaaGreat
end Go.Proofs.YtoeekjddeknmbaaGreat
set_option maxHeartbeats 4000000
set_option maxRecDepth 20000
set_option linter.unusedSimpArgs false
set_option linter.unusedVariables false
open Go Go.AL
namespace Go.Proofs.YtoeekjddeknmbaaGreat
theorem plain_da {kd vl sh : Int} {ix : List Int} {lg gn pt : Int} {rc da : List Int} {n d : Int} (hf : formE kd vl sh ix lg gn pt rc da n d = 0) (k2 : kd ≠ 2) (n2 : n ≤ 1024) : da.length ≤ 1024 := by
  obtain ⟨hkd, hdn⟩ := form_plain hf k2
  rcases hkd with h | h | h
  · subst h
    unfold formE at hf
    rw [if_pos rfl] at hf
    split at hf
    · rename_i hh; omega
    · exact absurd hf (by decide)
  · subst h
    unfold formE at hf
    rw [if_neg (by decide), if_pos rfl] at hf
    split at hf
    · rename_i hh; omega
    · exact absurd hf (by decide)
  · have := hdn h; omega
theorem plain_vd {kd vl : Int} {sh : Int} {ix : List Int} {lg gn : Int} {da : List Int} {n d : Int} (n1 : 1 ≤ n) (k2 : kd ≠ 2) (hlk : (outL kd vl sh ix lg gn da n d).any (lacksP d) = false) :
    (kd = 1 → -2 ^ (d - 1).toNat ≤ vl ∧ vl < 2 ^ (d - 1).toNat) ∧ (kd = 3 → ∀ i, i < da.length → -2 ^ (d - 1).toNat ≤ da.getD i 0 ∧ da.getD i 0 < 2 ^ (d - 1).toNat) := by
  rw [List.any_eq_false] at hlk
  refine ⟨fun h1 => ?_, fun h3 i hi => ?_⟩
  · subst h1
    exact lacks_no (d := d) (n := vl) (by
      have := hlk vl (by
        show vl ∈ List.replicate n.toNat vl
        exact List.mem_replicate.2 ⟨by omega, rfl⟩)
      simpa using this)
  · subst h3
    exact lacks_no (by
      have := hlk (da.getD i 0) (mem_getD.2 ⟨i, hi, rfl⟩)
      simpa using this)
theorem pbits_len (kd vl : Int) (da : List Int) (d : Int) : (pbits kd vl da d).length = 2 + (if kd = 1 then d.toNat else if kd = 3 then d.toNat * da.length else 0) := by
  rw [pbits, List.length_append, bitsOf_len]
  split
  · rw [sb_len]
  · split
    · rw [sbs_len]
    · rfl
theorem bput_any (x : BlkIn) (n d : Int) (hn : n ≤ 64) (hx : x.e n d = 0) (h1 : x.ix.length ≤ 9223372036854775807) (h2 : x.rc.length ≤ 9223372036854775807) (h3 : x.da.length ≤ 9223372036854775807) :
    Does PP 38 [.ptr 0 0, x.v, I n, I d] (wr []) (Is (.bool true) (wr (blkBits x d))) := by
  obtain ⟨kd, vl, sh, ix, lg, gn, pt, rc, da⟩ := x
  have hx1 : bsE kd vl sh ix lg gn pt rc da n d = 0 := hx
  obtain ⟨⟨n1, n2, d1, d2⟩, hf, hlk⟩ := bsE_ok hx1
  by_cases k2 : kd = 2
  · subst k2
    have hnm : nmE ix lg gn da d = 0 := by
      unfold bsE at hx1
      rw [if_neg (fun h => h ⟨n1, n2, d1, d2⟩), if_neg (fun h => h hf)] at hx1
      split at hx1
      · exact absurd hx1 (by decide)
      · rename_i hh
        exact Decidable.byContradiction fun h => hh ⟨rfl, h⟩
    obtain ⟨hE, hE2⟩ : onE lg gn da = 0 ∧ smE ix (pw d - 1) (onL lg gn da) = 0 := by
      unfold nmE at hnm
      by_cases h1 : onE lg gn da = 0
      · by_cases h2 : smE ix (pw d - 1) (onL lg gn da) = 0
        · exact ⟨h1, h2⟩
        · simp [h1, h2] at hnm
      · simp [h1] at hnm
    have := bPutT_spec vl sh ix lg gn pt rc da n d [] (by decide) n1 n2 d1 d2 h1 h2 h3 hf hE hE2 hlk
    exact this
  · have e : blkBits ⟨kd, vl, sh, ix, lg, gn, pt, rc, da⟩ d = pbits kd vl da d := if_neg k2
    rw [e]
    obtain ⟨hv, hd⟩ := plain_vd n1 k2 hlk
    have ho : outL kd vl sh ix lg gn da n d = pout kd vl da n := by rw [outL, if_neg k2]; rfl
    rw [ho] at hlk
    exact bPut_spec kd vl sh ix lg gn pt rc da n d [] _ (fun h => bsamples_err kd vl sh ix lg gn pt rc da n d h n1 hn d1 d2 h1 h2 h3 hf k2 hlk) (bput_spec kd vl sh ix lg gn pt rc da d [] (by decide) (form_plain hf k2).1 d1 d2 hv hd (plain_da hf k2 n2))
theorem blk_len (x : BlkIn) (n d : Int) (hx : x.e n d = 0) : 2 ≤ (blkBits x d).length ∧ (blkBits x d).length < 1000000 := by
  obtain ⟨kd, vl, sh, ix, lg, gn, pt, rc, da⟩ := x
  have hx1 : bsE kd vl sh ix lg gn pt rc da n d = 0 := hx
  obtain ⟨⟨n1, n2, d1, d2⟩, hf, hlk⟩ := bsE_ok hx1
  by_cases k2 : kd = 2
  · subst k2
    have e : blkBits ⟨2, vl, sh, ix, lg, gn, pt, rc, da⟩ d = nbits sh ix lg gn pt rc da := rfl
    rw [e]
    obtain ⟨f1, f2, f3, f4, f5, f6, f7⟩ := form_two hf d2 n2
    obtain ⟨_, g1, g2⟩ := form_two2 hf
    rw [← f7] at g1
    have ee : (nbits sh ix lg gn pt rc da).length = 12 + 7 * ix.length + (lagbits lg gn).length + (bitsOf pt.toNat 2 ++ pcodes da rc (da.length / 2 ^ pt.toNat) rc.length).length := by
      rw [nbits, nhead]
      simp only [List.length_append, bitsOf_len, sbs_len, show Int.toNat 7 = 7 from rfl]
      omega
    have hlb : (lagbits lg gn).length ≤ 13 := by unfold lagbits; split <;> simp [bitsOf_len]
    rw [List.length_append, bitsOf_len] at ee
    have g1' := g1
    unfold partsB at g1'
    simp only [Bool.and_eq_true, decide_eq_true_eq] at g1'
    obtain ⟨⟨w1, w2⟩, w3⟩ := g1'
    obtain ⟨_, _, p0, p3, _⟩ := whole_iff.1 w1
    rw [allP_iff] at w3
    have hks : ∀ i, i < rc.length → rc.getD i 0 ≤ 24 := fun i hi => by
      have := w3 i hi
      simp only [kP, Bool.or_eq_false_iff, decide_eq_false_iff_not] at this
      omega
    have hfar : ∀ x ∈ da, -8589934592 ≤ x ∧ x < 8589934592 := fun x hx => by
      rw [List.any_eq_false] at g2
      have := g2 x hx
      rw [farP, Bool.or_eq_true, decide_eq_true_eq, decide_eq_true_eq] at this
      omega
    have hrc8 : rc.length ≤ 8 := by
      have : ∀ k : Nat, k ≤ 3 → (2 : Int) ^ k ≤ 8 := by decide
      have := this pt.toNat (by omega)
      omega
    have h1 := pcodes_len da rc (da.length / 2 ^ pt.toNat) hks hfar rc.length (Nat.le_refl _)
    have hs1024 : da.length / 2 ^ pt.toNat ≤ 1024 := Nat.le_trans (Nat.div_le_self _ _) f6
    have h2 : rc.length * (5 + 59 * (da.length / 2 ^ pt.toNat)) ≤ 8 * (5 + 59 * 1024) := Nat.mul_le_mul (by omega) (by omega)
    have := f3.1
    omega
  · have e : blkBits ⟨kd, vl, sh, ix, lg, gn, pt, rc, da⟩ d = pbits kd vl da d := if_neg k2
    rw [e, pbits_len]
    have hda := plain_da hf k2 n2
    split
    · omega
    · split
      · have : d.toNat * da.length ≤ 26 * 1024 := Nat.mul_le_mul (by omega) hda
        omega
      · omega
end Go.Proofs.YtoeekjddeknmbaaGreat
