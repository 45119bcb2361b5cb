/-
  Contracts of functions of the program, proved over the abstract machine of the Al texts.
-/
import Derived.Test.YtfjdmgnhklpiiaaGreatTryTab
import Derived.Test.YtfjdmgnhklpiiaaGreatAl4
import Derived.Test.YtfjdmgnhklpiiaaGreatBaseX
import Derived.Test.YtfjdmgnhklpiiaaGreatRkX
import Derived.Test.YtfjdmgnhklpiiaaGreatPpX
import Derived.Test.YtfjdmgnhklpiiaaGreatPpY
import Derived.Test.YtfjdmgnhklpiiaaGreatBsX1
import Derived.Test.YtfjdmgnhklpiiaaGreatTkX1
import Derived.Test.YtfjdmgnhklpiiaaGreatTkX2
import Derived.Test.YtfjdmgnhklpiiaaGreatTkX3
import Derived.Test.YtfjdmgnhklpiiaaGreatSlX
import Derived.Test.YtfjdmgnhklpiiaaGreatBsX3
import Derived.Test.YtfjdmgnhklpiiaaGreatBsX4
import Derived.Test.YtfjdmgnhklpiiaaGreatBsX5
import Derived.Test.YtfjdmgnhklpiiaaGreatBsX6
import Derived.Test.YtfjdmgnhklpiiaaGreatBsX8
import Derived.Test.YtfjdmgnhklpiiaaGreatTkX5
import Derived.Test.YtfjdmgnhklpiiaaGreatTkX6
import Derived.Test.YtfjdmgnhklpiiaaGreatTkX7
set_option maxHeartbeats 4000000
set_option maxRecDepth 20000
set_option linter.unusedSimpArgs false
set_option linter.unusedVariables false
open Go Go.AL
namespace Go.Proofs.YtfjdmgnhklpiiaaGreat
theorem rSame_spec (kd vl sh : Int) (ix : List Int) (lg gn pt : Int) (rc da : List Int) (h : Heap) (h1 : ix.length ≤ 9223372036854775807) (h2 : rc.length ≤ 9223372036854775807) (h3 : da.length ≤ 9223372036854775807) :
    Does PP 12 [.agg [I kd, I vl, I sh, LI ix, I lg, I gn, I pt, LI rc, LI da], .agg [I kd, I vl, I sh, LI ix, I lg, I gn, I pt, LI rc, LI da]] h (Is (.bool true) h) := by
  have s1 := fun h => same_spec ix ix h h1 h1
  have s2 := fun h => same_spec rc rc h h2 h2
  have s3 := fun h => same_spec da da h h3 h3
  rw [decide_eq_true rfl] at s1 s2 s3
  refine pure0 ?_ rfl rfl h
  refine wlk Tryz.f12 ?_
  unhygienic intros
  (conv => cbv)
  repeat' (first | assumption | ((first | refine hk.callA (s1 _) ?_ | refine hk.calldA s1 ?_ | refine hk.callA (s2 _) ?_ | refine hk.calldA s2 ?_ | refine hk.callA (s3 _) ?_ | refine hk.calldA s3 ?_ | refine stp ?_ | refine stpB (fun _ => ?_) (fun _ => ?_)) <;> (conv => cbv)) | exact stpF | fail)
  all_goals exact hk.fin0 rfl rfl (Wk.refl _ _)
end Go.Proofs.YtfjdmgnhklpiiaaGreat
set_option maxHeartbeats 4000000
set_option maxRecDepth 20000
set_option linter.unusedSimpArgs false
set_option linter.unusedVariables false
open Go Go.AL
namespace Go.Proofs.YtfjdmgnhklpiiaaGreat
theorem bsL_len (kd vl sh : Int) (ix : List Int) (lg gn pt : Int) (rc da : List Int) (n d : Int) : (bsL kd vl sh ix lg gn pt rc da n d).length ≤ 1024 := by
  unfold bsL
  by_cases hE : bsE kd vl sh ix lg gn pt rc da n d = 0
  · rw [if_pos hE]
    obtain ⟨⟨n1, n2, d1, d2⟩, hf, hlk⟩ := bsE_ok hE
    unfold outL
    by_cases k2 : kd = 2
    · subst k2
      rw [if_pos rfl]
      obtain ⟨f1, f2, f3, f4, f5, f6, f7⟩ := form_two hf d2 n2
      obtain ⟨ho1, ho2⟩ := onL_small lg gn da
      have := smL_len ix (pw d - 1) (onL lg gn da)
      rw [nmL]; split <;> first | (simp; done) | (split <;> simp <;> omega) | (simp; omega)
    · rw [if_neg k2]
      by_cases k3 : kd = 3
      · rw [if_pos k3]
        have := (form_plain hf k2).2 k3
        omega
      · rw [if_neg k3, List.length_replicate]
        omega
  · rw [if_neg hE]; simp
theorem rput_any (x : BlkIn) (n d : Int) (hx : x.e n d = 0) (h2 : x.rc.length ≤ 9223372036854775807) (h : Heap) : Does PP 14 [x.v, I d] h (Is (.str (strB (blkBits x d))) h) := by
  obtain ⟨kd, vl, sh, ix, lg, gn, pt, rc, da⟩ := x
  have hx1 : bsE kd vl sh ix lg gn pt rc da n d = 0 := hx
  obtain ⟨⟨n1, n2, d1, d2⟩, hf, hlk⟩ := bsE_ok hx1
  by_cases k2 : kd = 2
  · subst k2
    have e : blkBits ⟨2, vl, sh, ix, lg, gn, pt, rc, da⟩ d = nbits sh ix lg gn pt rc da := rfl
    rw [e]
    exact rputT_spec vl sh ix lg gn pt rc da n d h hf d2 n1 n2 h2
  · have e : blkBits ⟨kd, vl, sh, ix, lg, gn, pt, rc, da⟩ d = pbits kd vl da d := if_neg k2
    rw [e]
    obtain ⟨hkd, hdn⟩ := form_plain hf k2
    rw [List.any_eq_false] at hlk
    refine rput_plain kd vl sh ix lg gn pt rc da d h hkd d1 d2 (fun h1 => ?_) (fun h3 i hi => ?_) ?_
    · subst h1
      exact lacks_no (d := d) (n := vl) (by
        have := hlk vl (by
          show vl ∈ List.replicate n.toNat vl
          exact List.mem_replicate.2 ⟨by omega, rfl⟩)
        simpa using this)
    · subst h3
      exact lacks_no (by
        have := hlk (da.getD i 0) (mem_getD.2 ⟨i, hi, rfl⟩)
        simpa using this)
    · rcases hkd with h | h | h
      · subst h
        unfold formE at hf
        rw [if_pos rfl] at hf
        split at hf
        · rename_i hh; omega
        · exact absurd hf (by decide)
      · subst h
        unfold formE at hf
        rw [if_neg (by decide), if_pos rfl] at hf
        split at hf
        · rename_i hh; omega
        · exact absurd hf (by decide)
      · have := hdn h; omega
end Go.Proofs.YtfjdmgnhklpiiaaGreat
