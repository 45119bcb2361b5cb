/-
  Contracts of functions of the program, proved over the abstract machine of the Al texts.
-/
import Derived.Test.YtnnpookoencpnaaRkL
set_option linter.unusedSimpArgs false
set_option linter.unusedVariables false
open Go Go.AL
namespace Go.Proofs.Ytnnpookoencpnaa
/-! ### Marks: the plain part -/
/-- How many are less. -/
def cnt (S : List Int) (c : Int) : Nat := (S.filter (fun x => decide (x < c))).length
/-- An order's marks. -/
def mk : List Int → List Int
  | [] => []
  | c :: l => (cnt l c : Int) :: mk l
theorem mk_len : ∀ l : List Int, (mk l).length = l.length
  | [] => rfl
  | c :: l => by simp [mk, mk_len l]
theorem cnt_perm {S S' : List Int} (h : S.Perm S') (c : Int) : cnt S c = cnt S' c := (h.filter _).length_eq
theorem cnt_self (S : List Int) (c : Int) : cnt (c :: S) c = cnt S c := by simp [cnt]
abbrev Inc (S : List Int) : Prop := S.Pairwise (· < ·)
theorem cnt_at : ∀ {S : List Int}, Inc S → ∀ m, m < S.length → cnt S (S.getD m 0) = m
  | [], _, m, h => by simp at h
  | a :: t, hs, 0, _ => by
    have hs := List.pairwise_cons.1 hs
    have : t.filter (fun x => decide (x < a)) = [] := by
      rw [List.filter_eq_nil_iff]
      intro x hx
      have := hs.1 x hx
      simp; omega
    simp [cnt, this]
  | a :: t, hs, m + 1, h => by
    have hs := List.pairwise_cons.1 hs
    have hm : m < t.length := by simpa using h
    have h1 := cnt_at hs.2 m hm
    have h2 : a < t.getD m 0 := hs.1 _ (by simp [List.getD, hm])
    have e : (a :: t).getD (m + 1) 0 = t.getD m 0 := by simp [List.getD]
    rw [e]
    simp only [cnt] at h1 ⊢
    rw [List.filter_cons, if_pos (by simpa using h2), List.length_cons, h1]
theorem erase_perm : ∀ {S : List Int} {m : Nat}, m < S.length → (S.getD m 0 :: S.eraseIdx m).Perm S
  | [], m, h => by simp at h
  | a :: t, 0, _ => by simp
  | a :: t, m + 1, h => by
    have h1 := erase_perm (S := t) (m := m) (by simpa using h)
    rw [List.eraseIdx_cons_succ, show (a :: t).getD (m + 1) 0 = t.getD m 0 by simp [List.getD]]
    exact (List.Perm.swap _ _ _).trans (h1.cons a)
theorem erase_inc {S : List Int} (h : Inc S) (m : Nat) : Inc (S.eraseIdx m) := h.sublist (List.eraseIdx_sublist S m)
theorem erase_len {S : List Int} {m : Nat} (h : m < S.length) : (S.eraseIdx m).length = S.length - 1 := List.length_eraseIdx_of_lt h
theorem find_at {S : List Int} (hs : Inc S) {c : Int} (hc : c ∈ S) : cnt S c < S.length ∧ S.getD (cnt S c) 0 = c := by
  obtain ⟨m, hm, rfl⟩ := mem_getD.1 hc
  rw [cnt_at hs m hm]
  exact ⟨hm, rfl⟩
theorem ofGo_mk : ∀ (l S : List Int), Inc S → S.Perm l → ofGo S (mk l) = some l
  | [], S, _, _ => rfl
  | c :: l, S, hs, hp => by
    have hc : c ∈ S := hp.mem_iff.2 (by simp)
    obtain ⟨h1, h2⟩ := find_at hs hc
    have h3 : cnt S c = cnt l c := by rw [cnt_perm hp, cnt_self]
    rw [h3] at h1 h2
    have h4 : (S.eraseIdx (cnt l c)).Perm l := by
      have := (erase_perm h1).trans hp
      rw [h2] at this
      exact (List.perm_cons c).1 this
    simp only [mk, ofGo]
    rw [if_pos ⟨by omega, by omega⟩, Int.toNat_natCast, ofGo_mk l _ (erase_inc hs _) h4, h2]
    rfl
theorem mk_ofGo : ∀ (ms S l : List Int), Inc S → S.length = ms.length → ofGo S ms = some l → S.Perm l ∧ mk l = ms
  | [], S, l, hs, hl, h => by
    cases h
    have : S = [] := List.eq_nil_of_length_eq_zero hl
    subst this
    exact ⟨.refl _, rfl⟩
  | m :: ms, S, l, hs, hl, h => by
    simp only [ofGo] at h
    split at h
    · rename_i hm
      have hm2 : m.toNat < S.length := by omega
      cases h1 : ofGo (S.eraseIdx m.toNat) ms with
      | none => rw [h1] at h; cases h
      | some l' =>
        rw [h1] at h
        cases h
        obtain ⟨h2, h3⟩ := mk_ofGo ms (S.eraseIdx m.toNat) l' (erase_inc hs _) (by rw [erase_len hm2]; simp at hl; omega) h1
        refine ⟨(erase_perm hm2).symm.trans (h2.cons _), ?_⟩
        simp only [mk]
        rw [h3, ← cnt_perm h2]
        congr 1
        have h4 := cnt_at hs m.toNat hm2
        rw [← cnt_perm (erase_perm hm2), cnt_self] at h4
        rw [h4]
        omega
    · cases h
theorem rangeI_inc (n : Nat) : Inc (rangeI n) := by
  unfold rangeI Inc
  rw [List.pairwise_map]
  exact (List.pairwise_lt_range (n := n)).imp fun h => by omega
theorem at_uniq {S : List Int} (hs : Inc S) {c i : Int} (hc : c ∈ S) (h : IsAt S c i) : i.toNat = cnt S c ∧ i.toNat < S.length ∧ S.getD i.toNat 0 = c := by
  obtain ⟨m, hm, hg⟩ := mem_getD.1 hc
  have hcm := cnt_at hs m hm
  rw [hg] at hcm
  obtain ⟨h0, h1, h2, h3⟩ := h
  have : i.toNat = m := by
    rcases Nat.lt_trichotomy i.toNat m with h | h | h
    · have e1 := h3 i.toNat (Nat.le_refl _) (by omega)
      have e2 : S.getD i.toNat 0 < S.getD m 0 := by
        have := (List.pairwise_iff_getElem.1 hs) i.toNat m (by omega) hm h
        simpa [List.getD, hm, show i.toNat < S.length by omega] using this
      omega
    · exact h
    · have := h2 m h
      omega
  rw [this, hcm]
  exact ⟨rfl, hm, hg⟩
theorem inc_le {S : List Int} (hs : Inc S) : ∀ a b, a < b → b < S.length → S.getD a 0 ≤ S.getD b 0 := fun a b h1 h2 => by
  have := (List.pairwise_iff_getElem.1 hs) a b (by omega) h2 h1
  have : S.getD a 0 < S.getD b 0 := by simpa [List.getD, h2, show a < S.length by omega] using this
  omega
/-- Those of 0 to n - 1 that aren't told yet. -/
def free (n : Nat) (out : List Int) : List Int := (rangeI n).filter fun c => !decide (c ∈ out)
theorem free_inc (n : Nat) (out : List Int) : Inc (free n out) := (rangeI_inc n).sublist List.filter_sublist
theorem free_nil (n : Nat) : free n [] = rangeI n := by simp [free]
theorem eraseIdx_filter : ∀ {S : List Int}, Inc S → ∀ m, m < S.length → S.eraseIdx m = S.filter (fun x => !decide (x = S.getD m 0))
  | [], _, m, h => by simp at h
  | a :: t, hs, 0, _ => by
    have hs := List.pairwise_cons.1 hs
    have : t.filter (fun x => !decide (x = a)) = t := by
      rw [List.filter_eq_self]
      intro x hx
      have := hs.1 x hx
      simp; omega
    simp [this]
  | a :: t, hs, m + 1, h => by
    have hs := List.pairwise_cons.1 hs
    have hm : m < t.length := by simpa using h
    have h1 := eraseIdx_filter hs.2 m hm
    have h2 : a < t.getD m 0 := hs.1 _ (by simp [List.getD, hm])
    have e : (a :: t).getD (m + 1) 0 = t.getD m 0 := by simp [List.getD]
    have h3 : ¬ a = t.getD m 0 := by omega
    rw [e, List.eraseIdx_cons_succ, h1, List.filter_cons, if_pos (by simp only [h3, decide_false, Bool.not_false])]
theorem free_step (n : Nat) (out : List Int) (m : Nat) (h : m < (free n out).length) : (free n out).eraseIdx m = free n (out ++ [(free n out).getD m 0]) := by
  rw [eraseIdx_filter (free_inc n out) m h]
  obtain ⟨x, hx⟩ : ∃ x, x = (free n out).getD m 0 := ⟨_, rfl⟩
  rw [← hx]
  unfold free
  rw [List.filter_filter]
  congr 1
  funext c
  by_cases h1 : c = x <;> by_cases h2 : c ∈ out <;> simp [h1, h2]
/-- The free ones from c on. -/
def freeFrom (n : Nat) (out : List Int) (c : Nat) : List Int := ((rangeI n).drop c).filter fun c => !decide (c ∈ out)
theorem freeFrom_zero (n : Nat) (out : List Int) : freeFrom n out 0 = free n out := by simp [freeFrom, free]
theorem freeFrom_step (n : Nat) (out : List Int) (c : Nat) (h : c < n) : freeFrom n out c = if (c : Int) ∈ out then freeFrom n out (c + 1) else (c : Int) :: freeFrom n out (c + 1) := by
  unfold freeFrom
  rw [List.drop_eq_getElem_cons (by rw [rangeI_len]; exact h)]
  have : (rangeI n)[c]'(by rw [rangeI_len]; exact h) = (c : Int) := by
    have := rangeI_get n c h
    simpa [List.getD, rangeI_len, h] using this
  rw [this, List.filter_cons]
  by_cases h2 : (c : Int) ∈ out <;> simp [h2]
theorem freeFrom_end (n : Nat) (out : List Int) (c : Nat) (h : n ≤ c) : freeFrom n out c = [] := by
  unfold freeFrom
  rw [List.drop_eq_nil_of_le (by rw [rangeI_len]; exact h)]
  rfl
end Go.Proofs.Ytnnpookoencpnaa
