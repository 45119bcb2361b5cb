/- Heaps in a list: the plain part. -/
import Derived.Test.YtoeekjddeknmbaaGreatTkX3
import Derived.Test.YtoeekjddeknmbaaGreatBaseX
import Derived.Test.YtoeekjddeknmbaaGreatTryTab
import Derived.Test.YtoeekjddeknmbaaGreatAl4
set_option linter.unusedSimpArgs false
set_option linter.unusedVariables false
namespace Go.Proofs.YtoeekjddeknmbaaGreat
section
variable {α : Type} (lt : α → α → Bool) (d : α)
def swpL (l : List α) (i j : Nat) : List α := (l.set i (l.getD j d)).set j (l.getD i d)
theorem swpL_len (l : List α) (i j : Nat) : (swpL d l i j).length = l.length := by simp [swpL]
theorem swpL_get (l : List α) (i j k : Nat) (hi : i < l.length) (hj : j < l.length) : (swpL d l i j).getD k d = if k = j then l.getD i d else if k = i then l.getD j d else l.getD k d := by
 unfold swpL
 simp only [List.getD_eq_getElem?_getD, List.getElem?_set, List.length_set]
 have n1 : ∀ {a b : Nat}, ¬ a = b → ¬ b = a := fun h e => h e.symm
 by_cases h1 : k = j
 ·subst h1; simp [hj]
 ·by_cases h2 : k = i
  ·subst h2; simp [h1, n1 h1, hi]
  ·simp [h1, h2, n1 h1, n1 h2]
theorem swpL_perm (l : List α) (i j : Nat) (hi : i < l.length) (hj : j < l.length) : (swpL d l i j).Perm l := by
 have := List.set_set_perm hi hj
 unfold swpL
 rw [List.getD_eq_getElem?_getD, List.getD_eq_getElem?_getD, List.getElem?_eq_getElem hi, List.getElem?_eq_getElem hj]
 exact this
def HpP (l : List α) (n : Nat) : Prop := ∀ c, 0 < c → c < n → lt (l.getD c d) (l.getD ((c - 1) / 2) d) = false
def hupL : Nat → List α → Nat → List α
 | 0, l, _ => l
 | f + 1, l, j => if j = 0 then l else if lt (l.getD j d) (l.getD ((j - 1) / 2) d) = true then hupL f (swpL d l ((j - 1) / 2) j) ((j - 1) / 2) else l
def kid (l : List α) (n i : Nat) : Nat := if 2 * i + 2 < n ∧ lt (l.getD (2 * i + 2) d) (l.getD (2 * i + 1) d) = true then 2 * i + 2 else 2 * i + 1
def goesK (l : List α) (n i : Nat) : Bool := decide (2 * i + 1 < n) && lt (l.getD (kid lt d l n i) d) (l.getD i d)
def downL : Nat → List α → Nat → Nat → List α
 | 0, l, _, _ => l
 | f + 1, l, n, i => if goesK lt d l n i = true then downL f (swpL d l i (kid lt d l n i)) n (kid lt d l n i) else l
structure Ordr : Prop where
 asym : ∀ a b, lt a b = true → lt b a = false
 trans : ∀ a b c, lt b a = false → lt c b = false → lt c a = false
theorem hupL_len : ∀ (f : Nat) (l : List α) (j : Nat), (hupL lt d f l j).length = l.length
 | 0, l, j => rfl
 | f + 1, l, j => by
   simp only [hupL]
   split
   ·rfl
   ·split
    ·rw [hupL_len, swpL_len]
    ·rfl
theorem hupL_perm : ∀ (f : Nat) (l : List α) (j : Nat), j < l.length → (hupL lt d f l j).Perm l
 | 0, l, j, _ => .refl _
 | f + 1, l, j, h => by
   simp only [hupL]
   split
   ·exact .refl _
   ·split
    ·exact (hupL_perm f _ _ (by rw [swpL_len]; omega)).trans (swpL_perm d l _ _ (by omega) h)
    ·exact .refl _
theorem downL_len : ∀ (f : Nat) (l : List α) (n i : Nat), (downL lt d f l n i).length = l.length
 | 0, l, n, i => rfl
 | f + 1, l, n, i => by
   simp only [downL]
   split
   ·rw [downL_len, swpL_len]
   ·rfl
theorem kid_lt (l : List α) (n i : Nat) (h : goesK lt d l n i = true) : i < kid lt d l n i ∧ kid lt d l n i < n ∧ (kid lt d l n i - 1) / 2 = i := by
 simp only [goesK, Bool.and_eq_true, decide_eq_true_eq] at h
 obtain ⟨h1, _⟩ := h
 unfold kid
 split <;> omega
theorem downL_perm : ∀ (f : Nat) (l : List α) (n i : Nat), n ≤ l.length → i < n → (downL lt d f l n i).Perm l
 | 0, l, n, i, _, _ => .refl _
 | f + 1, l, n, i, h, hi => by
   simp only [downL]
   split
   ·rename_i hg
    obtain ⟨k1, k2, k3⟩ := kid_lt lt d l n i hg
    exact (downL_perm f _ n _ (by rw [swpL_len]; exact h) k2).trans (swpL_perm d l _ _ (by omega) (by omega))
   ·exact .refl _
variable {lt d}
theorem hupL_heap (ho : Ordr lt) : ∀ (f : Nat) (l : List α) (n j : Nat), j ≤ f → j < n → n ≤ l.length →
 (∀ c, 0 < c → c < n → c ≠ j → lt (l.getD c d) (l.getD ((c - 1) / 2) d) = false) →
 (∀ c, 0 < c → c < n → (c - 1) / 2 = j → 0 < j → lt (l.getD c d) (l.getD ((j - 1) / 2) d) = false) → HpP lt d (hupL lt d f l j) n
 | 0, l, n, j, hf, hj, hn, h1, h2 => fun c hc hcn => h1 c hc hcn (by omega)
 | f + 1, l, n, j, hf, hj, hn, h1, h2 => by
   simp only [hupL]
   split
   ·exact fun c hc hcn => h1 c hc hcn (by omega)
   rename_i hj0
   split
   ·rename_i hlt
    have hg := fun k => swpL_get d l ((j - 1) / 2) j k (by omega) (by omega)
    refine hupL_heap ho f _ n _ (by omega) (by omega) (by rw [swpL_len]; exact hn) (fun c hc hcn hne => ?_) (fun c hc hcn he h0 => ?_)
    ·rw [hg, hg]
     by_cases e1 : c = j
     ·subst e1
      rw [if_pos rfl, if_neg (by omega), if_pos rfl]
      exact ho.asym _ _ hlt
     ·rw [if_neg e1, if_neg hne]
      by_cases e2 : (c - 1) / 2 = j
      ·rw [if_pos e2]
       exact h2 c hc hcn e2 (by omega)
      ·rw [if_neg e2]
       by_cases e3 : (c - 1) / 2 = (j - 1) / 2
       ·rw [if_pos e3]
        have := h1 c hc hcn e1
        rw [e3] at this
        exact ho.trans _ _ _ (ho.asym _ _ hlt) this
       ·rw [if_neg e3]
        exact h1 c hc hcn e1
    ·rw [hg, hg]
     rw [if_neg (by omega : ¬ ((j - 1) / 2 - 1) / 2 = j), if_neg (by omega : ¬ ((j - 1) / 2 - 1) / 2 = (j - 1) / 2)]
     have hi := h1 ((j - 1) / 2) h0 (by omega) (by omega)
     by_cases e1 : c = j
     ·rw [if_pos e1]; exact hi
     ·rw [if_neg e1, if_neg (by omega)]
      have := h1 c hc hcn e1
      rw [he] at this
      exact ho.trans _ _ _ hi this
   ·rename_i hlt
    intro c hc hcn
    by_cases e1 : c = j
    ·subst e1; simpa using hlt
    ·exact h1 c hc hcn e1
theorem kid_min (ho : Ordr lt) (l : List α) (n i c : Nat) (hg : 2 * i + 1 < n) (hc : 0 < c) (hcn : c < n) (he : (c - 1) / 2 = i) : lt (l.getD c d) (l.getD (kid lt d l n i) d) = false := by
 have h0 : ∀ x, lt x x = false := fun x => by
  cases h : lt x x with
  | false => rfl
  | true => exact ho.asym _ _ h ▸ h ▸ rfl
 unfold kid
 split
 ·rename_i h
  by_cases e : c = 2 * i + 2
  ·subst e; exact h0 _
  ·have : c = 2 * i + 1 := by omega
   subst this
   exact ho.asym _ _ h.2
 ·rename_i h
  by_cases e : c = 2 * i + 1
  ·subst e; exact h0 _
  ·have : c = 2 * i + 2 := by omega
   subst this
   cases hh : lt (l.getD (2 * i + 2) d) (l.getD (2 * i + 1) d) with
   | false => rfl
   | true => exact absurd ⟨hcn, hh⟩ h
theorem heap_root (ho : Ordr lt) {l : List α} {n : Nat} (h : HpP lt d l n) : ∀ c, c < n → lt (l.getD c d) (l.getD 0 d) = false := by
 intro c
 induction c using Nat.strongRecOn with
 | ind c ih =>
   intro hc
   by_cases h0 : c = 0
   ·subst h0
    cases h : lt (l.getD 0 d) (l.getD 0 d) with
    | false => rfl
    | true => exact ho.asym _ _ h ▸ h ▸ rfl
   ·exact ho.trans _ _ _ (ih ((c - 1) / 2) (by omega) (by omega)) (h c (by omega) hc)
variable (lt d)
def pushL (l : List α) (x : α) : List α := hupL lt d l.length (l ++ [x]) l.length
variable {lt d}
theorem getD_append_left' (l : List α) (x : α) (c : Nat) (h : c < l.length) : (l ++ [x]).getD c d = l.getD c d := by
 rw [List.getD_eq_getElem?_getD, List.getElem?_append_left h, ← List.getD_eq_getElem?_getD]
theorem pushL_perm (l : List α) (x : α) : (pushL lt d l x).Perm (x :: l) :=
 (hupL_perm lt d _ _ _ (by simp)).trans (List.perm_append_comm (l₁ := l) (l₂ := [x]))
theorem pushL_len (l : List α) (x : α) : (pushL lt d l x).length = l.length + 1 := by rw [pushL, hupL_len]; simp
theorem pushL_heap (ho : Ordr lt) (l : List α) (x : α) (h : HpP lt d l l.length) : HpP lt d (pushL lt d l x) (l.length + 1) := by
 refine hupL_heap ho _ _ _ _ (Nat.le_refl _) (by omega) (by simp) (fun c hc hcn hne => ?_) (fun c hc hcn he h0 => ?_)
 ·rw [getD_append_left' _ _ _ (by omega), getD_append_left' _ _ _ (by omega)]
  exact h c hc (by omega)
 ·omega
theorem HpP.take {l : List α} {n : Nat} (h : HpP lt d l n) : HpP lt d (l.take n) n := fun c hc hcn => by
 have e : ∀ k, k < n → (l.take n).getD k d = l.getD k d := fun k hk => by
  rw [List.getD_eq_getElem?_getD, List.getElem?_take, if_pos hk, ← List.getD_eq_getElem?_getD]
 rw [e c hcn, e _ (by omega)]
 exact h c hc hcn
end
end Go.Proofs.YtoeekjddeknmbaaGreat
/- A list made a heap: the plain part. -/
set_option linter.unusedSimpArgs false
set_option linter.unusedVariables false
namespace Go.Proofs.YtoeekjddeknmbaaGreat
section
variable {α : Type} {lt : α → α → Bool} {d : α}
theorem downL_from (ho : Ordr lt) : ∀ (f : Nat) (l : List α) (n i k : Nat), n ≤ i + f → i < n → n ≤ l.length → k ≤ i →
 (∀ c, 0 < c → c < n → k ≤ (c - 1) / 2 → (c - 1) / 2 ≠ i → lt (l.getD c d) (l.getD ((c - 1) / 2) d) = false) →
 (∀ c, 0 < c → c < n → (c - 1) / 2 = i → 0 < i → k ≤ (i - 1) / 2 → lt (l.getD c d) (l.getD ((i - 1) / 2) d) = false) →
 ∀ c, 0 < c → c < n → k ≤ (c - 1) / 2 → lt ((downL lt d f l n i).getD c d) ((downL lt d f l n i).getD ((c - 1) / 2) d) = false
 | 0, l, n, i, k, hf, hi, hn, hk, h1, h2 => by omega
 | f + 1, l, n, i, k, hf, hi, hn, hk, h1, h2 => by
   simp only [downL]
   split
   ·rename_i hgo
    obtain ⟨k1, k2, k3⟩ := kid_lt lt d l n i hgo
    have hgo' := hgo
    simp only [goesK, Bool.and_eq_true, decide_eq_true_eq] at hgo'
    obtain ⟨g1, g2⟩ := hgo'
    have hmin := fun c => kid_min (d := d) ho l n i c g1
    obtain ⟨j, hj⟩ : ∃ j, j = kid lt d l n i := ⟨_, rfl⟩
    rw [← hj] at k1 k2 k3 g2 ⊢
    simp only [← hj] at hmin
    have hg := fun k => swpL_get d l i j k (by omega) (by omega)
    refine downL_from ho f _ n j k (by omega) k2 (by rw [swpL_len]; exact hn) (by omega) (fun c hc hcn hck hne => ?_) (fun c hc hcn he h0 hjk => ?_)
    ·rw [hg, hg, if_neg hne]
     by_cases e1 : c = j
     ·rw [if_pos e1, e1, k3, if_pos rfl]
      exact ho.asym _ _ g2
     ·rw [if_neg e1]
      by_cases e2 : c = i
      ·rw [if_pos e2, if_neg (by omega), e2]
       exact h2 j (by omega) k2 k3 (by omega) (by omega)
      ·rw [if_neg e2]
       by_cases e3 : (c - 1) / 2 = i
       ·rw [if_pos e3]; exact hmin c hc hcn e3
       ·rw [if_neg e3]; exact h1 c hc hcn hck e3
    ·rw [hg, hg, if_neg (by omega), if_neg (by omega), if_neg (by omega), k3, if_pos rfl]
     have := h1 c hc hcn (by omega) (by omega)
     rw [he] at this
     exact this
   ·rename_i hgo
    intro c hc hcn hck
    by_cases e : (c - 1) / 2 = i
    ·have g1 : 2 * i + 1 < n := by omega
     have hm := kid_min (d := d) ho l n i c g1 hc hcn e
     have hk : lt (l.getD (kid lt d l n i) d) (l.getD i d) = false := by
      cases h : lt (l.getD (kid lt d l n i) d) (l.getD i d) with
      | false => rfl
      | true => exact absurd (by rw [goesK, Bool.and_eq_true, decide_eq_true_eq]; exact ⟨g1, h⟩) hgo
     rw [e]
     exact ho.trans _ _ _ hk hm
    ·exact h1 c hc hcn hck e
variable (lt d)
def initL : Nat → List α → Nat → List α
 | 0, l, _ => l
 | i + 1, l, n => initL i (downL lt d n l n i) n
theorem initL_perm : ∀ (i : Nat) (l : List α) (n : Nat), n ≤ l.length → i ≤ n → (initL lt d i l n).Perm l
 | 0, l, n, _, _ => .refl _
 | i + 1, l, n, h, hi => by
   rw [initL]
   exact (initL_perm i _ n (by rw [downL_len]; exact h) (by omega)).trans (downL_perm lt d n l n i h (by omega))
variable {lt d}
theorem initL_heap (ho : Ordr lt) : ∀ (i : Nat) (l : List α) (n : Nat), n ≤ l.length → i ≤ n → (∀ c, 0 < c → c < n → i ≤ (c - 1) / 2 → lt (l.getD c d) (l.getD ((c - 1) / 2) d) = false) → HpP lt d (initL lt d i l n) n
 | 0, l, n, h, hi, h1 => fun c hc hcn => h1 c hc hcn (Nat.zero_le _)
 | i + 1, l, n, h, hi, h1 => by
   rw [initL]
   exact initL_heap ho i _ n (by rw [downL_len]; exact h) (by omega) (downL_from ho n l n i i (by omega) (by omega) h (Nat.le_refl _) (fun c hc hcn hck hne => h1 c hc hcn (by omega)) (fun c hc hcn he h0 hk => by omega))
theorem init_heap (ho : Ordr lt) (l : List α) : HpP lt d (initL lt d (l.length / 2) l l.length) l.length :=
 initL_heap ho _ l _ (Nat.le_refl _) (by omega) (fun c hc hcn hck => by omega)
end
end Go.Proofs.YtoeekjddeknmbaaGreat
set_option maxHeartbeats 4000000
set_option maxRecDepth 20000
set_option linter.unusedSimpArgs false
set_option linter.unusedVariables false
open Go Go.AL
namespace Go.Proofs.YtoeekjddeknmbaaGreat
abbrev trd (x : Int × Int) : AVal := .agg [I x.1, I x.2]
abbrev trdS : Sh := .rc [.int .i64, .int .i64]
abbrev HQr (g : Nat) (n : Int) (xs : List AVal) : Heap := [.box [.sl 1 g 0 n], .rw g (.gl trdS xs)]
def lessB (a b : Int × Int) : Bool := decide (a.2 < b.2) || (decide (a.2 = b.2) && decide (a.1 < b.1))
theorem tless_spec (a b : Int × Int) (h : Heap) : Does PP 171 [trd a, trd b] h (Is (.bool (lessB a b)) h) := by
 obtain ⟨r, hr⟩ : ∃ r, r = lessB a b := ⟨_, rfl⟩
 obtain ⟨a1, a2⟩ := a
 obtain ⟨b1, b2⟩ := b
 rw [← hr]
 have hr1 : a2 < b2 → r = true := fun h => by rw [hr, lessB]; simp [h]
 have hr2 : ¬ a2 < b2 → ¬ a2 = b2 → r = false := fun h h2 => by rw [hr, lessB]; simp [h, h2]
 have hr3 : a2 = b2 → r = decide (a1 < b1) := fun h => by rw [hr, lessB]; simp [h]
 clear hr
 refine pure0 ?_ rfl rfl h
 refine wlk Tryz.f171 ?_
 unhygienic intros
 (conv => cbv)
 repeat' (first | assumption | ((first | refine stp ?_ | refine stpB (fun _ => ?_) (fun _ => ?_)) <;> (conv => cbv)) | exact stpF | fail)
 all_goals first
  | exact hk.fin0 rfl rfl (Wk.of_eq (by rw [hr1 (by assumption)]))
  | exact hk.fin0 rfl rfl (Wk.of_eq (by rw [hr3 (by assumption), hk.c2_lss]))
  | exact hk.fin0 rfl rfl (Wk.of_eq (by rw [hr2 (by assumption) (by assumption)]))
end Go.Proofs.YtoeekjddeknmbaaGreat
set_option maxHeartbeats 4000000
set_option maxRecDepth 20000
set_option linter.unusedSimpArgs false
set_option linter.unusedVariables false
open Go Go.AL
namespace Go.Proofs.YtoeekjddeknmbaaGreat
theorem qlen_spec (g : Nat) (n : Int) (xs : List AVal) (hn : n = (xs.length : Nat)) : Does PP 168 [.sl 1 g 0 n] (HQr g n xs) (Is (I n) (HQr g n xs)) := by
 refine wlk Tryz.f168 ?_
 unhygienic intros
 have hbq : Nat.beq g g = true := Nat.beq_refl g
 conv at hbq => cbv
 have hs0 : sbt n 0 = n := by rw [hk.sb_eq]; omega
 (conv => cbv)
 repeat' (first | assumption | ((first | rw [hbq] | rw [hs0] | refine stp ?_ | refine stpB (fun _ => ?_) (fun _ => ?_)) <;> (conv => cbv)) | exact stpF | fail)
theorem qless_spec (g : Nat) (n i j : Int) (xs : List AVal) (hn : n = (xs.length : Nat)) (h0 : 0 ≤ i) (h1 : i < n) (h2 : 0 ≤ j) (h3 : j < n) (a b : Int × Int) (ha : xs.getD i.toNat .junk = trd a) (hb : xs.getD j.toNat .junk = trd b) :
 Does PP 169 [.sl 1 g 0 n, I i, I j] (HQr g n xs) (Is (.bool (lessB a b)) (HQr g n xs)) := by
 have hah := fun h => tless_spec a b h
 obtain ⟨a1, a2⟩ := a
 obtain ⟨b1, b2⟩ := b
 obtain ⟨r, hr⟩ : ∃ r, r = lessB (a1, a2) (b1, b2) := ⟨_, rfl⟩
 simp only [← hr] at hah
 rw [← hr]
 clear hr
 refine wlk Tryz.f169 ?_
 unhygienic intros
 have hbq : Nat.beq g g = true := Nat.beq_refl g
 conv at hbq => cbv
 have hs0 : sbt n 0 = n := by rw [hk.sb_eq]; omega
 have hai : ad 0 i = i := by rw [hk.ad_eq]; omega
 have haj : ad 0 j = j := by rw [hk.ad_eq]; omega
 have f1 : fi (fc (gtG xs i) 0) = a1 := by rw [hk.gtG_eq, ha, hk.fc_eq, hk.fi_eq]; rfl
 have f2 : fi (fc (gtG xs i) 1) = a2 := by rw [hk.gtG_eq, ha, hk.fc_eq, hk.fi_eq]; rfl
 have f3 : fi (fc (gtG xs j) 0) = b1 := by rw [hk.gtG_eq, hb, hk.fc_eq, hk.fi_eq]; rfl
 have f4 : fi (fc (gtG xs j) 1) = b2 := by rw [hk.gtG_eq, hb, hk.fc_eq, hk.fi_eq]; rfl
 have hlG : lnG xs = n := by rw [hk.lnG_eq]; omega
 (conv => cbv)
 repeat' (first | assumption | ((first | rw [hbq] | rw [hs0] | rw [hai] | rw [haj] | rw [hlG] | rw [f1] | rw [f2] | rw [f3] | rw [f4] | refine hk.idxI h0 h1 ?_ | refine hk.idxI h2 h3 ?_ | refine stp ?_ | refine stpB (fun _ => ?_) (fun _ => ?_)) <;> (conv => cbv)) | exact stpF | fail)
theorem qswap_spec (g : Nat) (n i j : Int) (xs : List AVal) (hn : n = (xs.length : Nat)) (h0 : 0 ≤ i) (h1 : i < n) (h2 : 0 ≤ j) (h3 : j < n) (a b : Int × Int) (ha : xs.getD i.toNat .junk = trd a) (hb : xs.getD j.toNat .junk = trd b) :
 Does PP 170 [.sl 1 g 0 n, I i, I j] (HQr g n xs) (Is (.tup []) (HQr g n ((xs.set i.toNat (trd b)).set j.toNat (trd a)))) := by
 obtain ⟨r, hr⟩ : ∃ r, r = (xs.set i.toNat (trd b)).set j.toNat (trd a) := ⟨_, rfl⟩
 rw [← hr]
 obtain ⟨a1, a2⟩ := a
 obtain ⟨b1, b2⟩ := b
 refine wlk Tryz.f170 ?_
 unhygienic intros
 have hbq : Nat.beq g g = true := Nat.beq_refl g
 conv at hbq => cbv
 have hs0 : sbt n 0 = n := by rw [hk.sb_eq]; omega
 have hai : ad 0 i = i := by rw [hk.ad_eq]; omega
 have haj : ad 0 j = j := by rw [hk.ad_eq]; omega
 have f1 : fi (fc (gtG xs i) 0) = a1 := by rw [hk.gtG_eq, ha, hk.fc_eq, hk.fi_eq]; rfl
 have f2 : fi (fc (gtG xs i) 1) = a2 := by rw [hk.gtG_eq, ha, hk.fc_eq, hk.fi_eq]; rfl
 have f3 : fi (fc (gtG xs j) 0) = b1 := by rw [hk.gtG_eq, hb, hk.fc_eq, hk.fi_eq]; rfl
 have f4 : fi (fc (gtG xs j) 1) = b2 := by rw [hk.gtG_eq, hb, hk.fc_eq, hk.fi_eq]; rfl
 have hlG : lnG xs = n := by rw [hk.lnG_eq]; omega
 have hst : stG (stG xs i (.agg [.int .i64 b1, .int .i64 b2])) j (.agg [.int .i64 a1, .int .i64 a2]) = r := by rw [hk.stG_eq, hk.stG_eq, hr]
 (conv => cbv)
 repeat' (first | assumption | ((first | rw [hbq] | rw [hs0] | rw [hai] | rw [haj] | rw [hlG] | rw [f1] | rw [f2] | rw [f3] | rw [f4] | refine hk.idxI h0 h1 ?_ | refine hk.idxI h2 h3 ?_ | rw [hst] | refine stp ?_ | refine stpB (fun _ => ?_) (fun _ => ?_)) <;> (conv => cbv)) | exact stpF | fail)
 all_goals skip
theorem qpush_spec (g : Nat) (n : Int) (c : Int × Int) (xs : List AVal) (hn : n = (xs.length : Nat)) (h1 : n ≤ 100000) : Does PP 173 [.ptr 0 0, .iface 154 (trd c)] (HQr g n xs) (Is (.tup []) (HQr (g + 1) (n + 1) (xs ++ [trd c]))) := by
 obtain ⟨r, hr⟩ : ∃ r, r = xs ++ [trd c] := ⟨_, rfl⟩
 obtain ⟨m, hm⟩ : ∃ m, m = n + 1 := ⟨_, rfl⟩
 rw [← hr, ← hm]
 obtain ⟨c1, c2'⟩ := c
 refine wlk Tryz.f173 ?_
 unhygienic intros
 have hbq : Nat.beq g g = true := Nat.beq_refl g
 conv at hbq => cbv
 have hs0 : sbt n 0 = n := by rw [hk.sb_eq]; omega
 have hlG : lnG xs = n := by rw [hk.lnG_eq]; omega
 have hl1 : ∀ x, lnG [x] = 1 := fun x => hk.lnG_eq _
 have had : ad n 1 = m := by rw [hk.ad_eq]; omega
 have hap : apG xs [.agg [.int .i64 c1, .int .i64 c2']] = r := by rw [hk.apG_eq]; exact hr.symm
 have hrl : lnG r = m := by rw [hk.lnG_eq, hr, List.length_append, List.length_singleton]; omega
 (conv => cbv)
 repeat' (first | assumption | ((first | rw [hbq] | rw [hs0] | rw [hl1] | rw [hap] | rw [hlG] | rw [had] | rw [hrl] | refine stp ?_ | refine stpB (fun _ => ?_) (fun _ => ?_)) <;> (conv => cbv)) | exact stpF | fail)
 all_goals first
  | exact hk.finI (fin_lowN 2 (Nat.le_refl 2) (Wk.refl _ _) rfl rfl ⟨rfl, rfl⟩)
  | skip
end Go.Proofs.YtoeekjddeknmbaaGreat
set_option maxHeartbeats 4000000
set_option maxRecDepth 20000
set_option linter.unusedSimpArgs false
set_option linter.unusedVariables false
open Go Go.AL
namespace Go.Proofs.YtoeekjddeknmbaaGreat
abbrev e00 : Int × Int := (0, 0)
abbrev QR : AVal := .iface 152 (.ptr 0 0)
theorem less_ordr : Ordr lessB := ⟨fun a b h => by simp only [lessB, Bool.or_eq_true, Bool.and_eq_true, decide_eq_true_eq, Bool.or_eq_false_iff, Bool.and_eq_false_iff, decide_eq_false_iff_not] at *; omega,
 fun a b c h1 h2 => by simp only [lessB, Bool.or_eq_false_iff, Bool.and_eq_false_iff, decide_eq_false_iff_not] at *; omega⟩
theorem maptrd_get (L : List (Int × Int)) (i : Nat) (h : i < L.length) : (L.map trd).getD i .junk = trd (L.getD i e00) := by simp [List.getD, h]
theorem lessXr (X : List (Int × Int) → List AVal) (hX : ∀ l, X l = l.map trd) (g : Nat) (n i j : Int) (L : List (Int × Int)) (hn : n = (L.length : Nat)) (h0 : 0 ≤ i) (h1 : i < n) (h2 : 0 ≤ j) (h3 : j < n) :
 Does PP 169 [.sl 1 g 0 n, I i, I j] (HQr g n (X L)) (Is (.bool (lessB (L.getD i.toNat e00) (L.getD j.toNat e00))) (HQr g n (X L))) :=
 qless_spec g n i j (X L) (by rw [hX, List.length_map]; exact hn) h0 h1 h2 h3 _ _ (by rw [hX]; exact maptrd_get L _ (by omega)) (by rw [hX]; exact maptrd_get L _ (by omega))
theorem swapXr (X : List (Int × Int) → List AVal) (hX : ∀ l, X l = l.map trd) (g : Nat) (n i j : Int) (L : List (Int × Int)) (hn : n = (L.length : Nat)) (h0 : 0 ≤ i) (h1 : i < n) (h2 : 0 ≤ j) (h3 : j < n) :
 Does PP 170 [.sl 1 g 0 n, I i, I j] (HQr g n (X L)) (Is (.tup []) (HQr g n (X (swpL e00 L i.toNat j.toNat)))) := by
 have := qswap_spec g n i j (X L) (by rw [hX, List.length_map]; exact hn) h0 h1 h2 h3 _ _ (by rw [hX]; exact maptrd_get L _ (by omega)) (by rw [hX]; exact maptrd_get L _ (by omega))
 rw [show X (swpL e00 L i.toNat j.toNat) = ((X L).set i.toNat (trd (L.getD j.toNat e00))).set j.toNat (trd (L.getD i.toNat e00)) by rw [hX, hX, swpL, List.map_set, List.map_set]]
 exact this
theorem qup_spec (X : List (Int × Int) → List AVal) (hX : ∀ l, X l = l.map trd) (g : Nat) (n j : Int) (L : List (Int × Int)) (hn : n = (L.length : Nat)) (hn2 : n ≤ 100000) (h0 : 0 ≤ j) (h1 : j < n) :
 Does PP 77 [QR, I j] (HQr g n (X L)) (Is (.tup []) (HQr g n (X (hupL lessB e00 j.toNat L j.toNat)))) := by
 obtain ⟨R, hR⟩ : ∃ R, R = hupL lessB e00 j.toNat L j.toNat := ⟨_, rfl⟩
 rw [← hR]
 have hls := fun (L : List (Int × Int)) (i j : Int) (hn : n = (L.length : Nat)) a b c d => lessXr X hX g n i j L hn a b c d
 have hsw := fun (L : List (Int × Int)) (i j : Int) (hn : n = (L.length : Nat)) a b c d => swapXr X hX g n i j L hn a b c d
 refine wlk Tryz.f77 ?_
 unhygienic intros
 (conv => cbv)
 repeat' (first | assumption | ((first | refine stp ?_ | refine stpB (fun _ => ?_) (fun _ => ?_)) <;> (conv => cbv)) | exact stpF | fail)
 refine hk.loopI (loop_rule (α := Int × List (Int × Int) × Nat) (fun x => [(0, .iface 152 (.ptr 0 0)), (1, .int .i64 x.1)]) (fun x => [.box [.sl 1 g 0 n], .rw g (.gl (.rc [.int .i64, .int .i64]) (X x.2.1))])
  (fun x => 0 ≤ x.1 ∧ x.1 < n ∧ n = (x.2.1.length : Nat) ∧ x.1.toNat ≤ x.2.2 ∧ hupL lessB e00 x.2.2 x.2.1 x.1.toNat = R) (fun x => x.1.toNat) (j, L, j.toNat) ⟨h0, h1, hn, Nat.le_refl _, hR.symm⟩ ?_ ?_)
 ·exact ghT
 intro ⟨i, l, f⟩ ⟨hi, hi2, hl, hf, hu⟩ Q' hb hx hr
 simp only at hi hi2 hl hf hu
 dsimp only
 by_cases hi0 : i = 0
 ·subst hi0
  have hq : i2 .quo .i64 (i2 .sub .i64 0 1) 2 = 0 := by rw [hk.i2_quo, hk.sub64 _ _ (by omega) (by omega)]; decide
  have e : l = R := by
   rw [← hu]
   cases f with
   | zero => rfl
   | succ f => rw [hupL]; rfl
  subst e
  (conv => cbv)
  repeat' (first | assumption | ((first | rw [hq] | refine hx _ _ ?_ | refine stp ?_ | refine stpB (fun _ => ?_) (fun _ => ?_)) <;> (conv => cbv)) | exact stpF | fail)
 ·obtain ⟨p, hp⟩ : ∃ p : Int, p = (i - 1) / 2 := ⟨_, rfl⟩
  have hp2 : 0 ≤ p ∧ p < i ∧ p.toNat = (i.toNat - 1) / 2 := by omega
  have hq : i2 .quo .i64 (i2 .sub .i64 i 1) 2 = p := by
   rw [hk.i2_quo, hk.sub64 _ _ (by omega) (by omega), Int.tdiv_eq_ediv_of_nonneg (by omega), ← hp]; exact wrap64 (by omega) (by omega)
  have hls := hls l i p hl (by omega) (by omega) (by omega) (by omega)
  have hsw := hsw l p i hl (by omega) (by omega) (by omega) (by omega)
  obtain ⟨b, hb0⟩ : ∃ b, b = lessB (l.getD i.toNat e00) (l.getD p.toNat e00) := ⟨_, rfl⟩
  obtain ⟨s, hs0⟩ : ∃ s, s = swpL e00 l p.toNat i.toNat := ⟨_, rfl⟩
  obtain ⟨f, rfl⟩ : ∃ f', f = f' + 1 := ⟨f - 1, by omega⟩
  rw [hupL, if_neg (show ¬ i.toNat = 0 by omega), ← hp2.2.2, ← hb0, ← hs0] at hu
  have hsl : n = (s.length : Nat) := by rw [hs0, swpL_len]; exact hl
  rw [← hb0] at hls
  rw [← hs0] at hsw
  cases b
  ·simp only [Bool.false_eq_true, if_false] at hu
   subst hu
   (conv => cbv)
   repeat' (first | assumption | ((first | rw [hq] | refine hk.callA hls ?_ | refine hx _ _ ?_ | refine stp ?_ | refine stpB (fun _ => ?_) (fun _ => ?_)) <;> (conv => cbv)) | exact stpF | fail)
  ·simp only [if_true] at hu
   (conv => cbv)
   repeat' (first | assumption | ((first | rw [hq] | refine hk.callA hls ?_ | refine hk.callA hsw ?_ | refine stp ?_ | refine stpB (fun _ => ?_) (fun _ => ?_)) <;> (conv => cbv)) | exact stpF | fail)
   refine hb (p, s, f) _ ⟨by simp only; omega, by simp only; omega, hsl, by simp only; omega, hu⟩ (by simp only; omega) ?_
   dsimp only
   refine Gh.tm ?_
   repeat' (first | exact Holds.nil _ _ | refine Holds.cons (Wk.refl _ _) ?_ | refine Holds.cons (Wk.of_eq ?_) ?_)
end Go.Proofs.YtoeekjddeknmbaaGreat
set_option maxHeartbeats 4000000
set_option maxRecDepth 20000
set_option linter.unusedSimpArgs false
set_option linter.unusedVariables false
open Go Go.AL
namespace Go.Proofs.YtoeekjddeknmbaaGreat
theorem qHpush_spec (X : List (Int × Int) → List AVal) (hX : ∀ l, X l = l.map trd) (g : Nat) (n : Int) (c : Int × Int) (L : List (Int × Int)) (hn : n = (L.length : Nat)) (h1 : n ≤ 1000) : Does PP 42 [QR, .iface 154 (trd c)] (HQr g n (X L)) (Is (.tup []) (HQr (g + 1) (n + 1) (X (pushL lessB e00 L c)))) := by
 have hpu := qpush_spec g n c (X L) (by rw [hX, List.length_map]; exact hn) (by omega)
 obtain ⟨m, hm⟩ : ∃ m, m = n + 1 := ⟨_, rfl⟩
 obtain ⟨s, hs⟩ : ∃ s, s = L ++ [c] := ⟨_, rfl⟩
 have hXs : X L ++ [trd c] = X s := by rw [hX, hX, hs, List.map_append]; rfl
 have hsl : m = (s.length : Nat) := by rw [hs, List.length_append, List.length_singleton]; omega
 have hle := qlen_spec (g + 1) m (X s) (by rw [hX, List.length_map]; exact hsl)
 have hup := qup_spec X hX (g + 1) m n s hsl (by omega) (by omega) (by omega)
 have hR : hupL lessB e00 n.toNat s n.toNat = pushL lessB e00 L c := by rw [pushL, ← hs, hn]; rfl
 rw [hR] at hup
 obtain ⟨R, hR0⟩ : ∃ R, R = pushL lessB e00 L c := ⟨_, rfl⟩
 rw [← hR0] at hup ⊢
 rw [← hm, hXs] at hpu
 rw [← hm]
 clear hX hXs
 obtain ⟨c1, c2'⟩ := c
 refine wlk Tryz.f42 ?_
 unhygienic intros
 have hsu : i2 .sub .i64 m 1 = n := by rw [hk.sub64 _ _ (by omega) (by omega)]; omega
 (conv => cbv)
 repeat' (first | assumption | ((first | rw [hsu] | refine hk.callA hpu ?_ | refine hk.callA hle ?_ | refine hk.callA hup ?_ | refine stp ?_ | refine stpB (fun _ => ?_) (fun _ => ?_)) <;> (conv => cbv)) | exact stpF | fail)
end Go.Proofs.YtoeekjddeknmbaaGreat
