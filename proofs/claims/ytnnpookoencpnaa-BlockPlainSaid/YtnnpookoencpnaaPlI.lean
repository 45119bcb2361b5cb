/-
  Contracts of functions of the program, proved over the abstract machine of the Al texts.
-/
import Derived.Test.YtnnpookoencpnaaTryTab
import Derived.Test.YtnnpookoencpnaaAl4
import Derived.Test.YtnnpookoencpnaaBase
import Derived.Test.YtnnpookoencpnaaRkX
import Derived.Test.YtnnpookoencpnaaPpX
import Derived.Test.YtnnpookoencpnaaBsX3
import Derived.Test.YtnnpookoencpnaaBsX4
import Derived.Test.YtnnpookoencpnaaBsX8
import Derived.Test.YtnnpookoencpnaaPlX
import Derived.Test.YtnnpookoencpnaaPlY
import Derived.Test.YtnnpookoencpnaaPlF
import Derived.Test.YtnnpookoencpnaaPlG
import Derived.Test.YtnnpookoencpnaaPlH
set_option maxHeartbeats 4000000
set_option maxRecDepth 20000
set_option linter.unusedSimpArgs false
set_option linter.unusedVariables false
open Go Go.AL
namespace Go.Proofs.Ytnnpookoencpnaa
theorem form_raw (l : List Int) (n d : Int) (hn : n = (l.length : Nat)) : formE 3 0 0 [] 0 0 0 [] l n d = 0 := by
  rw [formE, if_neg (by decide), if_neg (by decide), if_pos rfl, if_pos ⟨by simp [bareP], rfl, hn.symm⟩]
theorem form_zero (n d : Int) : formE 0 0 0 [] 0 0 0 [] [] n d = 0 := by
  rw [formE, if_pos rfl, if_pos ⟨by simp [bareP], rfl, rfl⟩]
theorem form_const (v n d : Int) : formE 1 v 0 [] 0 0 0 [] [] n d = 0 := by
  rw [formE, if_neg (by decide), if_pos rfl, if_pos ⟨by simp [bareP], rfl⟩]
theorem has_range {d v : Int} (h : lacksP d v = false) : -2 ^ (d - 1).toNat ≤ v ∧ v < 2 ^ (d - 1).toNat := by
  rw [lacksP, Bool.or_eq_false_iff] at h
  have h1 := of_decide_eq_false h.1
  have h2 := of_decide_eq_false h.2
  unfold pw at h1 h2
  generalize (2 : Int) ^ (d - 1).toNat = w at *
  omega
theorem bits_of (K V : Int) (D : List Int) (n d : Int) (h : Heap) (h1 : 1 ≤ n) (h2 : n ≤ 64) (h3 : 8 ≤ d) (h4 : d ≤ 26) (hK : K = 0 ∨ K = 1 ∨ K = 3) (hf : formE K V 0 [] 0 0 0 [] D n d = 0) (hD : D.length ≤ 64)
    (hok : (pout K V D n).any (lacksP d) = false) (hv : K = 1 → lacksP d V = false) (hda : K = 3 → ∀ i, i < D.length → lacksP d (D.getD i 0) = false) :
    Does PP 22 [bv K V D, I n, I d] h (Is (I ((pbits K V D d).length : Nat)) h) := by
  have hse := fun h => bsamples_err K V 0 [] 0 0 0 [] D n d h h1 h2 h3 h4 (by simp) (by simp) (by omega) hf (by omega) hok
  have hpu := bput_spec K V 0 [] 0 0 0 [] D d [] (by simp) hK h3 h4 (fun e => has_range (hv e)) (fun e i hi => has_range (hda e i hi)) (by omega)
  rw [List.nil_append] at hpu
  have hput := bPut_spec K V 0 [] 0 0 0 [] D n d [] _ hse hpu
  have hl : (pbits K V D d).length < 1000000 ∧ pbits K V D d ≠ [] := by
    have hb := bitsOf_len K.toNat 2
    constructor
    · rw [pbits, List.length_append, hb]
      split
      · rw [sb_len]; omega
      · split
        · rw [sbs_len]
          have : d.toNat * D.length ≤ 26 * 64 := Nat.mul_le_mul (by omega) hD
          omega
        · simp
    · intro e
      have := congrArg List.length e
      rw [pbits, List.length_append, hb] at this
      simp at this
  exact bBits_spec K V 0 [] 0 0 0 [] D n d _ h hl.1 hl.2 hput
theorem pbits_len (K V : Int) (D : List Int) (d : Int) (hd : 0 ≤ d) : ((pbits K V D d).length : Int) = if K = 1 then 2 + d else if K = 3 then 2 + d * (D.length : Nat) else 2 := by
  rw [pbits, List.length_append, bitsOf_len]
  split
  · rw [sb_len]; omega
  · split
    · rw [sbs_len]
      push_cast
      rw [show ((d.toNat : Nat) : Int) = d by omega]
    · simp
theorem blockPlain_law (l : List Int) (hl : l.length ≤ 9223372036854775807) (d : Int) : Does PP 5 [LI l, I d] [] (Is (.bool true) []) := by
  by_cases h64 : 64 < l.length
  · exact plain_out l d hl h64
  by_cases hb : l.length = 0 ∨ ¬ (8 ≤ d ∧ d ≤ 26)
  · exact plain_range l d (by omega) hb
  have h3 : 8 ≤ d := by omega
  have h4 : d ≤ 26 := by omega
  by_cases hla : l.any (lacksP d) = true
  · exact plain_lack l d (by omega) (by omega) h3 h4 hla
  have hla : l.any (lacksP d) = false := by simpa using hla
  have he : chkE l d = 0 := by rw [chkE, if_neg (by omega), if_neg (by rw [hla]; decide)]
  have hpl := fun h => plain_ok l d h he
  obtain ⟨n, hn⟩ : ∃ n : Int, n = (l.length : Nat) := ⟨_, rfl⟩
  have hall0 : ∀ i, i < l.length → lacksP d (l.getD i 0) = false := fun i hi => by
    rw [List.any_eq_false] at hla
    simpa using hla (l.getD i 0) (mem_getD.2 ⟨i, hi, rfl⟩)
  obtain ⟨x0, hx0⟩ : ∃ x, x = l.getD 0 0 := ⟨_, rfl⟩
  simp only [plK, plV, plD] at hpl
  rw [← hx0] at hpl
  by_cases hany : l.any (fun n => decide (n ≠ x0)) = true
  · simp only [hany, if_true] at hpl
    have ho : pout 3 0 l n = l := rfl
    have hf := form_raw l n d hn
    have hq : ((pbits 3 0 l d).length : Int) = 2 + d * n := by
      rw [pbits_len 3 0 l d (by omega), if_neg (by decide), if_pos rfl, hn]
    have hbi := fun h => bits_of 3 0 l n d h (by omega) (by omega) h3 h4 (by omega) hf (by omega) (by rw [ho]; exact hla) (fun e => absurd e (by decide)) (fun _ => hall0)
    have hrb := fun h => rBits_spec 3 0 0 [] 0 0 0 [] l d h (by omega) h4 (by omega) (by omega)
    rw [if_neg (by decide), if_pos rfl, ← hn] at hrb
    rw [hq] at hbi
    refine plain_R l d n x0 (2 + d * n) (by rw [Int.mul_comm]) ?_ hn (by omega) (by omega) hx0 h3 h4 hla hpl (bsamples_raw 0 0 [] 0 0 0 [] l n d (by omega) (by omega) h3 h4 (by simp) (by simp) (by omega) hf hla) hbi hrb
    rw [List.any_eq_true] at hany
    obtain ⟨x, hx, hx2⟩ := hany
    obtain ⟨j, hj, e⟩ := mem_getD.1 hx
    exact ⟨j, by omega, by rw [e]; simpa using hx2⟩
  · have hany : l.any (fun n => decide (n ≠ x0)) = false := by simpa using hany
    simp only [hany, Bool.false_eq_true, if_false] at hpl
    have hall : ∀ j, j < l.length → l.getD j 0 = x0 := fun j hj => by
      rw [List.any_eq_false] at hany
      simpa using hany (l.getD j 0) (mem_getD.2 ⟨j, hj, rfl⟩)
    have hrep : l = List.replicate n.toNat x0 := by
      refine list_ext (by rw [List.length_replicate]; omega) fun j hj => ?_
      rw [hall j hj]
      simp [List.getD, show j < n.toNat by omega]
    have hlax : lacksP d x0 = false := by rw [hx0]; exact hall0 0 (by omega)
    by_cases hz : x0 = 0
    · simp only [hz, if_true] at hpl
      have ho : pout 0 0 [] n = List.replicate n.toNat 0 := rfl
      have hrep0 : List.replicate n.toNat (0 : Int) = l := by rw [hrep, hz]
      have hf := form_zero n d
      have hbi := fun h => bits_of 0 0 [] n d h (by omega) (by omega) h3 h4 (by omega) hf (by simp) (by rw [ho, hrep0]; exact hla) (fun e => absurd e (by decide)) (fun e => absurd e (by decide))
      have hrb := fun h => rBits_spec 0 0 0 [] 0 0 0 [] [] d h (by omega) h4 (by simp) (by omega)
      rw [if_neg (by decide), if_neg (by decide)] at hrb
      rw [pbits_len 0 0 [] d (by omega), if_neg (by decide), if_neg (by decide)] at hbi
      have hsa := bsamples_const 0 0 0 [] 0 0 0 [] [] n d (by omega) (by omega) h3 h4 (by simp) (by simp) (by simp) hf (by decide) (by decide) (by rw [hrep0]; exact hla)
      rw [hrep0] at hsa
      exact plain_Z l d n x0 2 rfl hall hz hn (by omega) (by omega) hx0 h3 h4 hla hpl hsa hbi hrb
    · simp only [hz, if_false] at hpl
      have ho : pout 1 x0 [] n = List.replicate n.toNat x0 := rfl
      have hf := form_const x0 n d
      have hbi := fun h => bits_of 1 x0 [] n d h (by omega) (by omega) h3 h4 (by omega) hf (by simp) (by rw [ho, ← hrep]; exact hla) (fun _ => hlax) (fun e => absurd e (by decide))
      have hrb := fun h => rBits_spec 1 x0 0 [] 0 0 0 [] [] d h (by omega) h4 (by simp) (by omega)
      rw [if_pos rfl] at hrb
      rw [pbits_len 1 x0 [] d (by omega), if_pos rfl] at hbi
      have hsa := bsamples_const 1 x0 0 [] 0 0 0 [] [] n d (by omega) (by omega) h3 h4 (by simp) (by simp) (by simp) hf (by decide) (by decide) (by rw [← hrep]; exact hla)
      rw [← hrep] at hsa
      exact plain_C l d n x0 (2 + d) rfl hall hz hn (by omega) (by omega) hx0 h3 h4 hla hpl hsa hbi hrb
end Go.Proofs.Ytnnpookoencpnaa
