/- Heaps in a list: the plain part. -/
import Derived.Test.YtnnpookoencpnabTryTab
import Derived.Test.YtnnpookoencpnabAl4
import Derived.Test.YtnnpookoencpnabBase
import Derived.Test.YtnnpookoencpnabRkX

set_option linter.unusedSimpArgs false
set_option linter.unusedVariables false
namespace Go.Proofs.Ytnnpookoencpnab
section
variable {α : Type} (lt : α → α → Bool) (d : α)
def swpL (l : List α) (i j : Nat) : List α := (l.set i (l.getD j d)).set j (l.getD i d)
theorem swpL_len (l : List α) (i j : Nat) : (swpL d l i j).length = l.length := by simp [swpL]
theorem swpL_get (l : List α) (i j k : Nat) (hi : i < l.length) (hj : j < l.length) : (swpL d l i j).getD k d = if k = j then l.getD i d else if k = i then l.getD j d else l.getD k d := by
  unfold swpL
  simp only [List.getD_eq_getElem?_getD, List.getElem?_set, List.length_set]
  have n1 : ∀ {a b : Nat}, ¬ a = b → ¬ b = a := fun h e => h e.symm
  by_cases h1 : k = j
  · subst h1; simp [hj]
  · by_cases h2 : k = i
    · subst h2; simp [h1, n1 h1, hi]
    · simp [h1, h2, n1 h1, n1 h2]
theorem swpL_perm (l : List α) (i j : Nat) (hi : i < l.length) (hj : j < l.length) : (swpL d l i j).Perm l := by
  have := List.set_set_perm hi hj
  unfold swpL
  rw [List.getD_eq_getElem?_getD, List.getD_eq_getElem?_getD, List.getElem?_eq_getElem hi, List.getElem?_eq_getElem hj]
  exact this
/-- No element is less than its parent. -/
def HpP (l : List α) (n : Nat) : Prop := ∀ c, 0 < c → c < n → lt (l.getD c d) (l.getD ((c - 1) / 2) d) = false
def upL : Nat → List α → Nat → List α
  | 0, l, _ => l
  | f + 1, l, j => if j = 0 then l else if lt (l.getD j d) (l.getD ((j - 1) / 2) d) = true then upL f (swpL d l ((j - 1) / 2) j) ((j - 1) / 2) else l
/-- The lesser child, one there is. -/
def kid (l : List α) (n i : Nat) : Nat := if 2 * i + 2 < n ∧ lt (l.getD (2 * i + 2) d) (l.getD (2 * i + 1) d) = true then 2 * i + 2 else 2 * i + 1
def goesK (l : List α) (n i : Nat) : Bool := decide (2 * i + 1 < n) && lt (l.getD (kid lt d l n i) d) (l.getD i d)
def downL : Nat → List α → Nat → Nat → List α
  | 0, l, _, _ => l
  | f + 1, l, n, i => if goesK lt d l n i = true then downL f (swpL d l i (kid lt d l n i)) n (kid lt d l n i) else l
/-- An order: what isn't less goes on. -/
structure Ordr : Prop where
  asym : ∀ a b, lt a b = true → lt b a = false
  trans : ∀ a b c, lt b a = false → lt c b = false → lt c a = false
theorem upL_len : ∀ (f : Nat) (l : List α) (j : Nat), (upL lt d f l j).length = l.length
  | 0, l, j => rfl
  | f + 1, l, j => by
    simp only [upL]
    split
    · rfl
    · split
      · rw [upL_len, swpL_len]
      · rfl
theorem upL_perm : ∀ (f : Nat) (l : List α) (j : Nat), j < l.length → (upL lt d f l j).Perm l
  | 0, l, j, _ => .refl _
  | f + 1, l, j, h => by
    simp only [upL]
    split
    · exact .refl _
    · split
      · exact (upL_perm f _ _ (by rw [swpL_len]; omega)).trans (swpL_perm d l _ _ (by omega) h)
      · exact .refl _
theorem downL_len : ∀ (f : Nat) (l : List α) (n i : Nat), (downL lt d f l n i).length = l.length
  | 0, l, n, i => rfl
  | f + 1, l, n, i => by
    simp only [downL]
    split
    · rw [downL_len, swpL_len]
    · rfl
theorem kid_lt (l : List α) (n i : Nat) (h : goesK lt d l n i = true) : i < kid lt d l n i ∧ kid lt d l n i < n ∧ (kid lt d l n i - 1) / 2 = i := by
  simp only [goesK, Bool.and_eq_true, decide_eq_true_eq] at h
  obtain ⟨h1, _⟩ := h
  unfold kid
  split <;> omega
theorem downL_perm : ∀ (f : Nat) (l : List α) (n i : Nat), n ≤ l.length → i < n → (downL lt d f l n i).Perm l
  | 0, l, n, i, _, _ => .refl _
  | f + 1, l, n, i, h, hi => by
    simp only [downL]
    split
    · rename_i hg
      obtain ⟨k1, k2, k3⟩ := kid_lt lt d l n i hg
      exact (downL_perm f _ n _ (by rw [swpL_len]; exact h) k2).trans (swpL_perm d l _ _ (by omega) (by omega))
    · exact .refl _
theorem downL_far : ∀ (f : Nat) (l : List α) (n i k : Nat), n ≤ l.length → i < n → n ≤ k → (downL lt d f l n i).getD k d = l.getD k d
  | 0, l, n, i, k, _, _, _ => rfl
  | f + 1, l, n, i, k, h, hi, hk => by
    simp only [downL]
    split
    · rename_i hg
      obtain ⟨k1, k2, k3⟩ := kid_lt lt d l n i hg
      rw [downL_far f _ n _ k (by rw [swpL_len]; exact h) k2 hk, swpL_get d _ _ _ _ (by omega) (by omega), if_neg (by omega), if_neg (by omega)]
    · rfl
variable {lt d}
theorem upL_heap (ho : Ordr lt) : ∀ (f : Nat) (l : List α) (n j : Nat), j ≤ f → j < n → n ≤ l.length →
    (∀ c, 0 < c → c < n → c ≠ j → lt (l.getD c d) (l.getD ((c - 1) / 2) d) = false) →
    (∀ c, 0 < c → c < n → (c - 1) / 2 = j → 0 < j → lt (l.getD c d) (l.getD ((j - 1) / 2) d) = false) → HpP lt d (upL lt d f l j) n
  | 0, l, n, j, hf, hj, hn, h1, h2 => fun c hc hcn => h1 c hc hcn (by omega)
  | f + 1, l, n, j, hf, hj, hn, h1, h2 => by
    simp only [upL]
    split
    · exact fun c hc hcn => h1 c hc hcn (by omega)
    rename_i hj0
    split
    · rename_i hlt
      have hg := fun k => swpL_get d l ((j - 1) / 2) j k (by omega) (by omega)
      refine upL_heap ho f _ n _ (by omega) (by omega) (by rw [swpL_len]; exact hn) (fun c hc hcn hne => ?_) (fun c hc hcn he h0 => ?_)
      · rw [hg, hg]
        by_cases e1 : c = j
        · subst e1
          rw [if_pos rfl, if_neg (by omega), if_pos rfl]
          exact ho.asym _ _ hlt
        · rw [if_neg e1, if_neg hne]
          by_cases e2 : (c - 1) / 2 = j
          · rw [if_pos e2]
            exact h2 c hc hcn e2 (by omega)
          · rw [if_neg e2]
            by_cases e3 : (c - 1) / 2 = (j - 1) / 2
            · rw [if_pos e3]
              have := h1 c hc hcn e1
              rw [e3] at this
              exact ho.trans _ _ _ (ho.asym _ _ hlt) this
            · rw [if_neg e3]
              exact h1 c hc hcn e1
      · rw [hg, hg]
        rw [if_neg (by omega : ¬ ((j - 1) / 2 - 1) / 2 = j), if_neg (by omega : ¬ ((j - 1) / 2 - 1) / 2 = (j - 1) / 2)]
        have hi := h1 ((j - 1) / 2) h0 (by omega) (by omega)
        by_cases e1 : c = j
        · rw [if_pos e1]; exact hi
        · rw [if_neg e1, if_neg (by omega)]
          have := h1 c hc hcn e1
          rw [he] at this
          exact ho.trans _ _ _ hi this
    · rename_i hlt
      intro c hc hcn
      by_cases e1 : c = j
      · subst e1; simpa using hlt
      · exact h1 c hc hcn e1
theorem kid_min (ho : Ordr lt) (l : List α) (n i c : Nat) (hg : 2 * i + 1 < n) (hc : 0 < c) (hcn : c < n) (he : (c - 1) / 2 = i) : lt (l.getD c d) (l.getD (kid lt d l n i) d) = false := by
  have h0 : ∀ x, lt x x = false := fun x => by
    cases h : lt x x with
    | false => rfl
    | true => exact ho.asym _ _ h ▸ h ▸ rfl
  unfold kid
  split
  · rename_i h
    by_cases e : c = 2 * i + 2
    · subst e; exact h0 _
    · have : c = 2 * i + 1 := by omega
      subst this
      exact ho.asym _ _ h.2
  · rename_i h
    by_cases e : c = 2 * i + 1
    · subst e; exact h0 _
    · have : c = 2 * i + 2 := by omega
      subst this
      cases hh : lt (l.getD (2 * i + 2) d) (l.getD (2 * i + 1) d) with
      | false => rfl
      | true => exact absurd ⟨hcn, hh⟩ h
theorem downL_heap (ho : Ordr lt) : ∀ (f : Nat) (l : List α) (n i : Nat), n ≤ i + f → i < n → n ≤ l.length →
    (∀ c, 0 < c → c < n → (c - 1) / 2 ≠ i → lt (l.getD c d) (l.getD ((c - 1) / 2) d) = false) →
    (∀ c, 0 < c → c < n → (c - 1) / 2 = i → 0 < i → lt (l.getD c d) (l.getD ((i - 1) / 2) d) = false) → HpP lt d (downL lt d f l n i) n
  | 0, l, n, i, hf, hi, hn, h1, h2 => by omega
  | f + 1, l, n, i, hf, hi, hn, h1, h2 => by
    simp only [downL]
    split
    · rename_i hgo
      obtain ⟨k1, k2, k3⟩ := kid_lt lt d l n i hgo
      have hgo' := hgo
      simp only [goesK, Bool.and_eq_true, decide_eq_true_eq] at hgo'
      obtain ⟨g1, g2⟩ := hgo'
      have hmin := fun c => kid_min (d := d) ho l n i c g1
      obtain ⟨j, hj⟩ : ∃ j, j = kid lt d l n i := ⟨_, rfl⟩
      rw [← hj] at k1 k2 k3 g2 ⊢
      simp only [← hj] at hmin
      have hg := fun k => swpL_get d l i j k (by omega) (by omega)
      refine downL_heap ho f _ n j (by omega) k2 (by rw [swpL_len]; exact hn) (fun c hc hcn hne => ?_) (fun c hc hcn he h0 => ?_)
      · rw [hg, hg, if_neg hne]
        by_cases e1 : c = j
        · rw [if_pos e1, e1, k3, if_pos rfl]
          exact ho.asym _ _ g2
        · rw [if_neg e1]
          by_cases e2 : c = i
          · rw [if_pos e2, if_neg (by omega), e2]
            exact h2 j (by omega) k2 k3 (by omega)
          · rw [if_neg e2]
            by_cases e3 : (c - 1) / 2 = i
            · rw [if_pos e3]; exact hmin c hc hcn e3
            · rw [if_neg e3]; exact h1 c hc hcn e3
      · rw [hg, hg, if_neg (by omega), if_neg (by omega), if_neg (by omega), k3, if_pos rfl]
        have := h1 c hc hcn (by omega)
        rw [he] at this
        exact this
    · rename_i hgo
      intro c hc hcn
      by_cases e : (c - 1) / 2 = i
      · have g1 : 2 * i + 1 < n := by omega
        have hm := kid_min (d := d) ho l n i c g1 hc hcn e
        have hk : lt (l.getD (kid lt d l n i) d) (l.getD i d) = false := by
          cases h : lt (l.getD (kid lt d l n i) d) (l.getD i d) with
          | false => rfl
          | true => exact absurd (by rw [goesK, Bool.and_eq_true, decide_eq_true_eq]; exact ⟨g1, h⟩) hgo
        rw [e]
        exact ho.trans _ _ _ hk hm
      · exact h1 c hc hcn e
theorem heap_root (ho : Ordr lt) {l : List α} {n : Nat} (h : HpP lt d l n) : ∀ c, c < n → lt (l.getD c d) (l.getD 0 d) = false := by
  intro c
  induction c using Nat.strongRecOn with
  | ind c ih =>
    intro hc
    by_cases h0 : c = 0
    · subst h0
      cases h : lt (l.getD 0 d) (l.getD 0 d) with
      | false => rfl
      | true => exact ho.asym _ _ h ▸ h ▸ rfl
    · exact ho.trans _ _ _ (ih ((c - 1) / 2) (by omega) (by omega)) (h c (by omega) hc)
variable (lt d)
/-- PUSH, POP. -/
def pushL (l : List α) (x : α) : List α := upL lt d l.length (l ++ [x]) l.length
def popL (l : List α) : List α := (downL lt d (l.length - 1) (swpL d l 0 (l.length - 1)) (l.length - 1) 0).take (l.length - 1)
variable {lt d}
theorem getD_append_left' (l : List α) (x : α) (c : Nat) (h : c < l.length) : (l ++ [x]).getD c d = l.getD c d := by
  rw [List.getD_eq_getElem?_getD, List.getElem?_append_left h, ← List.getD_eq_getElem?_getD]
theorem pushL_perm (l : List α) (x : α) : (pushL lt d l x).Perm (x :: l) :=
  (upL_perm lt d _ _ _ (by simp)).trans (List.perm_append_comm (l₁ := l) (l₂ := [x]))
theorem pushL_len (l : List α) (x : α) : (pushL lt d l x).length = l.length + 1 := by rw [pushL, upL_len]; simp
theorem pushL_heap (ho : Ordr lt) (l : List α) (x : α) (h : HpP lt d l l.length) : HpP lt d (pushL lt d l x) (l.length + 1) := by
  refine upL_heap ho _ _ _ _ (Nat.le_refl _) (by omega) (by simp) (fun c hc hcn hne => ?_) (fun c hc hcn he h0 => ?_)
  · rw [getD_append_left' _ _ _ (by omega), getD_append_left' _ _ _ (by omega)]
    exact h c hc (by omega)
  · omega
theorem popL_len (l : List α) : (popL lt d l).length = l.length - 1 := by
  rw [popL, List.length_take, downL_len, swpL_len]; omega
theorem HpP.take {l : List α} {n : Nat} (h : HpP lt d l n) : HpP lt d (l.take n) n := fun c hc hcn => by
  have e : ∀ k, k < n → (l.take n).getD k d = l.getD k d := fun k hk => by
    rw [List.getD_eq_getElem?_getD, List.getElem?_take, if_pos hk, ← List.getD_eq_getElem?_getD]
  rw [e c hcn, e _ (by omega)]
  exact h c hc hcn
theorem popL_heap (ho : Ordr lt) (l : List α) (h : HpP lt d l l.length) : HpP lt d (popL lt d l) (l.length - 1) := by
  by_cases h1 : l.length - 1 = 0
  · intro c hc hcn; omega
  refine HpP.take (downL_heap ho _ _ _ _ (by omega) (by omega) (by rw [swpL_len]; omega) (fun c hc hcn hne => ?_) (fun c hc hcn he h0 => by omega))
  rw [swpL_get d _ _ _ _ (by omega) (by omega), swpL_get d _ _ _ _ (by omega) (by omega), if_neg (by omega), if_neg (by omega), if_neg (by omega), if_neg hne]
  exact h c hc (by omega)
theorem popL_perm (l : List α) (h0 : 0 < l.length) : (l.getD 0 d :: popL lt d l).Perm l := by
  by_cases h1 : l.length = 1
  · match l, h1 with
    | [x], _ => simp [popL]
  have hd := downL_perm lt d (l.length - 1) (swpL d l 0 (l.length - 1)) (l.length - 1) 0 (by rw [swpL_len]; omega) (by omega)
  have hf := downL_far lt d (l.length - 1) (swpL d l 0 (l.length - 1)) (l.length - 1) 0 (l.length - 1) (by rw [swpL_len]; omega) (by omega) (Nat.le_refl _)
  rw [swpL_get d _ _ _ _ (by omega) (by omega), if_pos rfl] at hf
  have hl := downL_len lt d (l.length - 1) (swpL d l 0 (l.length - 1)) (l.length - 1) 0
  rw [swpL_len] at hl
  have hp := hd.trans (swpL_perm d l 0 (l.length - 1) (by omega) (by omega))
  unfold popL
  generalize downL lt d (l.length - 1) (swpL d l 0 (l.length - 1)) (l.length - 1) 0 = L at *
  have e : L = L.take (l.length - 1) ++ [l.getD 0 d] := by
    have e1 : L = L.take (l.length - 1) ++ L.drop (l.length - 1) := (List.take_append_drop _ _).symm
    have e2 : L.drop (l.length - 1) = [l.getD 0 d] := by
      rw [← hf]
      have h2 : l.length - 1 < L.length := by omega
      rw [List.drop_eq_getElem_cons h2, List.drop_eq_nil_of_le (by omega), List.getD_eq_getElem?_getD, List.getElem?_eq_getElem h2]
      rfl
    rw [e2] at e1
    exact e1
  have : (l.getD 0 d :: L.take (l.length - 1)).Perm L := by
    conv => rhs; rw [e]
    exact (List.perm_append_comm (l₁ := L.take (l.length - 1)) (l₂ := [l.getD 0 d])).symm
  exact this.trans hp
theorem popL_min (ho : Ordr lt) (l : List α) (h0 : 0 < l.length) (h : HpP lt d l l.length) : ∀ x ∈ l, lt x (l.getD 0 d) = false := fun x hx => by
  obtain ⟨c, hc, e⟩ := List.getElem_of_mem hx
  have := heap_root ho h c hc
  rw [List.getD_eq_getElem?_getD, List.getElem?_eq_getElem hc] at this
  rw [← e]; exact this
end
end Go.Proofs.Ytnnpookoencpnab
set_option maxHeartbeats 4000000
set_option maxRecDepth 20000
set_option linter.unusedSimpArgs false
set_option linter.unusedVariables false
open Go Go.AL
namespace Go.Proofs.Ytnnpookoencpnab
/-- The channels that are ready: a box with a row. -/
abbrev HQ (g : Nat) (n : Int) (L : List Int) : Heap := [.box [.sl 1 g 0 n], .rw g (.il .i64 L)]
theorem fin_ge {n0 : Nat} {R : AVal → Heap → Prop} {r : AVal} {h h' : Heap} (hg : GE h h') (hn : n0 ≤ h.length) (hh : rFin n0 R r h') : rFin n0 R r h := fun e0 e c hl hgood he hv hu hx => by
  obtain ⟨e1, w1, g1, h1, u1, x1⟩ := hg e hgood he
  obtain ⟨r', e2, a1, a2, a3, a4, a5, a6⟩ := hh e0 e1 c hl g1 h1 (hv.mono (Nat.le_refl _) x1) (hu.trans u1) (hx.trans (x1.le (by rw [he]; exact hn)))
  exact ⟨r', e2, a1, a2.trans w1, a3, a4, a5, a6⟩
def ltI (a b : Int) : Bool := decide (a < b)
theorem qlen_spec (g : Nat) (n : Int) (L : List Int) (hn : n = (L.length : Nat)) : Does PP 16 [.sl 1 g 0 n] (HQ g n L) (Is (I n) (HQ g n L)) := by
  refine doesF P_ok Try.f16 (by kernel_rfl) (by kernel_rfl) ?_
  intro i2 c2 u1 cv mx mn ad sbt bn bq ba lnI gtI apI sbI stI rpI lnG gtG apG sbG stG rpG fi fb fs fl fg fc sln sgt sap ssb sc b2s s2b nd call calld callv callvd loop rfun fin hk
  have hbq : Nat.beq g g = true := Nat.beq_refl g
  conv at hbq => cbv
  have hs0 : sbt n 0 = n := by rw [hk.sb_eq]; omega
  (conv => cbv)
  repeat' (first
    | assumption
    | (rw [hbq]; (conv => cbv))
    | (rw [hs0]; (conv => cbv))
    | (refine hk.brLssT (by omega) ?_; (conv => cbv))
    | (refine hk.brLssF (by omega) ?_; (conv => cbv))
    | (refine hk.brLeqT (by omega) ?_; (conv => cbv))
    | (refine hk.brLeqF (by omega) ?_; (conv => cbv))
    | (refine hk.brGtrT (by omega) ?_; (conv => cbv))
    | (refine hk.brGtrF (by omega) ?_; (conv => cbv))
    | (refine hk.brGeqT (by omega) ?_; (conv => cbv))
    | (refine hk.brGeqF (by omega) ?_; (conv => cbv))
    | (refine hk.brEqlT (by omega) ?_; (conv => cbv))
    | (refine hk.brEqlF (by omega) ?_; (conv => cbv))
    | (refine hk.brNeqT (by omega) ?_; (conv => cbv))
    | (refine hk.brNeqF (by omega) ?_; (conv => cbv))
    | (refine hk.brLss (fun _ => ?_) (fun _ => ?_) <;> (conv => cbv))
    | (refine hk.brLeq (fun _ => ?_) (fun _ => ?_) <;> (conv => cbv))
    | (refine hk.brGtr (fun _ => ?_) (fun _ => ?_) <;> (conv => cbv))
    | (refine hk.brGeq (fun _ => ?_) (fun _ => ?_) <;> (conv => cbv))
    | (refine hk.brEql (fun _ => ?_) (fun _ => ?_) <;> (conv => cbv))
    | (refine hk.brNeq (fun _ => ?_) (fun _ => ?_) <;> (conv => cbv))
    | (refine hk.brNotT ?_; (conv => cbv))
    | (refine hk.brNotF ?_; (conv => cbv))
    | (refine hk.brNotS _ (by simp [hk.c2_lss, hk.c2_leq, hk.c2_gtr, hk.c2_geq, hk.c2_eql, hk.c2_neq, hk.bn_eq, hk.bq_eq]; rfl) ?_; (conv => cbv))
    | (refine hk.brBqS _ (by simp [hk.c2_lss, hk.c2_leq, hk.c2_gtr, hk.c2_geq, hk.c2_eql, hk.c2_neq, hk.bn_eq, hk.bq_eq]; rfl) ?_; (conv => cbv))
    | (refine hk.idxI (by first | omega | assumption) (by first | omega | assumption) ?_; (conv => cbv))
    | (refine hk.nzI (by first | omega | assumption | decide) ?_; (conv => cbv))
    | (refine hk.ge0I (by first | omega | assumption) ?_; (conv => cbv))
    | (refine hk.needI (by first | (simp only [rNd, hk.sb_eq, hk.ad_eq]; omega) | (simp [rNd, hk.sb_eq, hk.ad_eq]; omega)) ?_; (conv => cbv))
    | (refine hk.callA (by assumption) ?_; (conv => cbv))
    | (refine hk.calldA (by assumption) ?_; (conv => cbv))
    | (rw [hk.sb0]; (conv => cbv))
    | (rw [hk.ad0]; (conv => cbv))
    | exact hk.finB (by first | rfl | (simp [hk.c2_lss, hk.c2_leq, hk.c2_gtr, hk.c2_geq, hk.c2_eql, hk.c2_neq, hk.bn_eq, hk.bq_eq]; done) | assumption)
    | exact hk.fin1 rfl)
theorem qless_spec (g : Nat) (n i j : Int) (L : List Int) (hn : n = (L.length : Nat)) (h0 : 0 ≤ i) (h1 : i < n) (h2 : 0 ≤ j) (h3 : j < n) : Does PP 82 [.sl 1 g 0 n, I i, I j] (HQ g n L) (Is (.bool (ltI (L.getD i.toNat 0) (L.getD j.toNat 0))) (HQ g n L)) := by
  obtain ⟨r, hr⟩ : ∃ r, r = ltI (L.getD i.toNat 0) (L.getD j.toNat 0) := ⟨_, rfl⟩
  rw [← hr]
  refine doesF P_ok Try.f82 (by kernel_rfl) (by kernel_rfl) ?_
  intro i2 c2 u1 cv mx mn ad sbt bn bq ba lnI gtI apI sbI stI rpI lnG gtG apG sbG stG rpG fi fb fs fl fg fc sln sgt sap ssb sc b2s s2b nd call calld callv callvd loop rfun fin hk
  have hbq : Nat.beq g g = true := Nat.beq_refl g
  conv at hbq => cbv
  have hs0 : sbt n 0 = n := by rw [hk.sb_eq]; omega
  have hln : lnI L = n := by rw [hk.lnI_eq]; omega
  have hgt := hk.gtI_eq L
  have hai : ad 0 i = i := by rw [hk.ad_eq]; omega
  have haj : ad 0 j = j := by rw [hk.ad_eq]; omega
  (conv => cbv)
  repeat' (first
    | assumption
    | (rw [hbq]; (conv => cbv))
    | (rw [hs0]; (conv => cbv))
    | (rw [hai]; (conv => cbv))
    | (rw [haj]; (conv => cbv))
    | (rw [hln]; (conv => cbv))
    | (refine hk.idxI h0 h1 ?_; (conv => cbv))
    | (refine hk.idxI h2 h3 ?_; (conv => cbv))
    | (refine hk.brLssT (by omega) ?_; (conv => cbv))
    | (refine hk.brLssF (by omega) ?_; (conv => cbv))
    | (refine hk.brLeqT (by omega) ?_; (conv => cbv))
    | (refine hk.brLeqF (by omega) ?_; (conv => cbv))
    | (refine hk.brGtrT (by omega) ?_; (conv => cbv))
    | (refine hk.brGtrF (by omega) ?_; (conv => cbv))
    | (refine hk.brGeqT (by omega) ?_; (conv => cbv))
    | (refine hk.brGeqF (by omega) ?_; (conv => cbv))
    | (refine hk.brEqlT (by omega) ?_; (conv => cbv))
    | (refine hk.brEqlF (by omega) ?_; (conv => cbv))
    | (refine hk.brNeqT (by omega) ?_; (conv => cbv))
    | (refine hk.brNeqF (by omega) ?_; (conv => cbv))
    | (refine hk.brLss (fun _ => ?_) (fun _ => ?_) <;> (conv => cbv))
    | (refine hk.brLeq (fun _ => ?_) (fun _ => ?_) <;> (conv => cbv))
    | (refine hk.brGtr (fun _ => ?_) (fun _ => ?_) <;> (conv => cbv))
    | (refine hk.brGeq (fun _ => ?_) (fun _ => ?_) <;> (conv => cbv))
    | (refine hk.brEql (fun _ => ?_) (fun _ => ?_) <;> (conv => cbv))
    | (refine hk.brNeq (fun _ => ?_) (fun _ => ?_) <;> (conv => cbv))
    | (refine hk.brNotT ?_; (conv => cbv))
    | (refine hk.brNotF ?_; (conv => cbv))
    | (refine hk.brNotS _ (by simp [hk.c2_lss, hk.c2_leq, hk.c2_gtr, hk.c2_geq, hk.c2_eql, hk.c2_neq, hk.bn_eq, hk.bq_eq]; rfl) ?_; (conv => cbv))
    | (refine hk.brBqS _ (by simp [hk.c2_lss, hk.c2_leq, hk.c2_gtr, hk.c2_geq, hk.c2_eql, hk.c2_neq, hk.bn_eq, hk.bq_eq]; rfl) ?_; (conv => cbv))
    | (refine hk.idxI (by first | omega | assumption) (by first | omega | assumption) ?_; (conv => cbv))
    | (refine hk.nzI (by first | omega | assumption | decide) ?_; (conv => cbv))
    | (refine hk.ge0I (by first | omega | assumption) ?_; (conv => cbv))
    | (refine hk.needI (by first | (simp only [rNd, hk.sb_eq, hk.ad_eq]; omega) | (simp [rNd, hk.sb_eq, hk.ad_eq]; omega)) ?_; (conv => cbv))
    | (refine hk.callA (by assumption) ?_; (conv => cbv))
    | (refine hk.calldA (by assumption) ?_; (conv => cbv))
    | (rw [hk.sb0]; (conv => cbv))
    | (rw [hk.ad0]; (conv => cbv))
    | exact hk.finB (by first | rfl | (simp [hk.c2_lss, hk.c2_leq, hk.c2_gtr, hk.c2_geq, hk.c2_eql, hk.c2_neq, hk.bn_eq, hk.bq_eq]; done) | assumption)
    | exact hk.fin1 rfl)
  exact hk.fin1 (congrArg _ (by rw [hk.c2_lss, hgt, hgt, hr]; rfl))
theorem qswap_spec (g : Nat) (n i j : Int) (L : List Int) (hn : n = (L.length : Nat)) (h0 : 0 ≤ i) (h1 : i < n) (h2 : 0 ≤ j) (h3 : j < n) : Does PP 85 [.sl 1 g 0 n, I i, I j] (HQ g n L) (Is (.tup []) (HQ g n (swpL 0 L i.toNat j.toNat))) := by
  obtain ⟨r, hr⟩ : ∃ r, r = swpL 0 L i.toNat j.toNat := ⟨_, rfl⟩
  rw [← hr]
  refine doesF P_ok Try.f85 (by kernel_rfl) (by kernel_rfl) ?_
  intro i2 c2 u1 cv mx mn ad sbt bn bq ba lnI gtI apI sbI stI rpI lnG gtG apG sbG stG rpG fi fb fs fl fg fc sln sgt sap ssb sc b2s s2b nd call calld callv callvd loop rfun fin hk
  have hbq : Nat.beq g g = true := Nat.beq_refl g
  conv at hbq => cbv
  have hs0 : sbt n 0 = n := by rw [hk.sb_eq]; omega
  have hln : lnI L = n := by rw [hk.lnI_eq]; omega
  have hgt := hk.gtI_eq L
  have hai : ad 0 i = i := by rw [hk.ad_eq]; omega
  have haj : ad 0 j = j := by rw [hk.ad_eq]; omega
  (conv => cbv)
  repeat' (first
    | assumption
    | (rw [hbq]; (conv => cbv))
    | (rw [hs0]; (conv => cbv))
    | (rw [hai]; (conv => cbv))
    | (rw [haj]; (conv => cbv))
    | (rw [hln]; (conv => cbv))
    | (refine hk.idxI h0 h1 ?_; (conv => cbv))
    | (refine hk.idxI h2 h3 ?_; (conv => cbv))
    | (refine hk.brLssT (by omega) ?_; (conv => cbv))
    | (refine hk.brLssF (by omega) ?_; (conv => cbv))
    | (refine hk.brLeqT (by omega) ?_; (conv => cbv))
    | (refine hk.brLeqF (by omega) ?_; (conv => cbv))
    | (refine hk.brGtrT (by omega) ?_; (conv => cbv))
    | (refine hk.brGtrF (by omega) ?_; (conv => cbv))
    | (refine hk.brGeqT (by omega) ?_; (conv => cbv))
    | (refine hk.brGeqF (by omega) ?_; (conv => cbv))
    | (refine hk.brEqlT (by omega) ?_; (conv => cbv))
    | (refine hk.brEqlF (by omega) ?_; (conv => cbv))
    | (refine hk.brNeqT (by omega) ?_; (conv => cbv))
    | (refine hk.brNeqF (by omega) ?_; (conv => cbv))
    | (refine hk.brLss (fun _ => ?_) (fun _ => ?_) <;> (conv => cbv))
    | (refine hk.brLeq (fun _ => ?_) (fun _ => ?_) <;> (conv => cbv))
    | (refine hk.brGtr (fun _ => ?_) (fun _ => ?_) <;> (conv => cbv))
    | (refine hk.brGeq (fun _ => ?_) (fun _ => ?_) <;> (conv => cbv))
    | (refine hk.brEql (fun _ => ?_) (fun _ => ?_) <;> (conv => cbv))
    | (refine hk.brNeq (fun _ => ?_) (fun _ => ?_) <;> (conv => cbv))
    | (refine hk.brNotT ?_; (conv => cbv))
    | (refine hk.brNotF ?_; (conv => cbv))
    | (refine hk.brNotS _ (by simp [hk.c2_lss, hk.c2_leq, hk.c2_gtr, hk.c2_geq, hk.c2_eql, hk.c2_neq, hk.bn_eq, hk.bq_eq]; rfl) ?_; (conv => cbv))
    | (refine hk.brBqS _ (by simp [hk.c2_lss, hk.c2_leq, hk.c2_gtr, hk.c2_geq, hk.c2_eql, hk.c2_neq, hk.bn_eq, hk.bq_eq]; rfl) ?_; (conv => cbv))
    | (refine hk.idxI (by first | omega | assumption) (by first | omega | assumption) ?_; (conv => cbv))
    | (refine hk.nzI (by first | omega | assumption | decide) ?_; (conv => cbv))
    | (refine hk.ge0I (by first | omega | assumption) ?_; (conv => cbv))
    | (refine hk.needI (by first | (simp only [rNd, hk.sb_eq, hk.ad_eq]; omega) | (simp [rNd, hk.sb_eq, hk.ad_eq]; omega)) ?_; (conv => cbv))
    | (refine hk.callA (by assumption) ?_; (conv => cbv))
    | (refine hk.calldA (by assumption) ?_; (conv => cbv))
    | (rw [hk.sb0]; (conv => cbv))
    | (rw [hk.ad0]; (conv => cbv))
    | exact hk.finB (by first | rfl | (simp [hk.c2_lss, hk.c2_leq, hk.c2_gtr, hk.c2_geq, hk.c2_eql, hk.c2_neq, hk.bn_eq, hk.bq_eq]; done) | assumption)
    | exact hk.fin1 rfl)
  have e : stI (stI L i (gtI L j)) j (gtI L i) = r := by rw [hk.stI_eq, hk.stI_eq, hgt, hgt, hr]; rfl
  rw [e]
  exact hk.fin1 rfl
theorem qpush_spec (g : Nat) (n c : Int) (L : List Int) (hn : n = (L.length : Nat)) (h1 : n ≤ 100000) : Does PP 84 [.ptr 0 0, .iface 3 (I c)] (HQ g n L) (Is (.tup []) (HQ (g + 1) (n + 1) (L ++ [c]))) := by
  obtain ⟨r, hr⟩ : ∃ r, r = L ++ [c] := ⟨_, rfl⟩
  obtain ⟨m, hm⟩ : ∃ m, m = n + 1 := ⟨_, rfl⟩
  rw [← hr, ← hm]
  refine doesF P_ok Try.f84 (by kernel_rfl) (by kernel_rfl) ?_
  intro i2 c2 u1 cv mx mn ad sbt bn bq ba lnI gtI apI sbI stI rpI lnG gtG apG sbG stG rpG fi fb fs fl fg fc sln sgt sap ssb sc b2s s2b nd call calld callv callvd loop rfun fin hk
  have hbq : Nat.beq g g = true := Nat.beq_refl g
  conv at hbq => cbv
  have hs0 : sbt n 0 = n := by rw [hk.sb_eq]; omega
  have hln : lnI L = n := by rw [hk.lnI_eq]; omega
  have hl1 : lnI [c] = 1 := hk.lnI_eq _
  have had : ad n 1 = m := by rw [hk.ad_eq]; omega
  have hap : apI L [c] = r := by rw [hk.apI_eq]; exact hr.symm
  have hrl : lnI r = m := by rw [hk.lnI_eq, hr, List.length_append, List.length_singleton]; omega
  (conv => cbv)
  repeat' (first
    | assumption
    | (rw [hbq]; (conv => cbv))
    | (rw [hs0]; (conv => cbv))
    | (rw [hl1]; (conv => cbv))
    | (rw [hap]; (conv => cbv))
    | (rw [hln]; (conv => cbv))
    | (rw [had]; (conv => cbv))
    | (rw [hrl]; (conv => cbv))
    | (refine hk.brLssT (by omega) ?_; (conv => cbv))
    | (refine hk.brLssF (by omega) ?_; (conv => cbv))
    | (refine hk.brLeqT (by omega) ?_; (conv => cbv))
    | (refine hk.brLeqF (by omega) ?_; (conv => cbv))
    | (refine hk.brGtrT (by omega) ?_; (conv => cbv))
    | (refine hk.brGtrF (by omega) ?_; (conv => cbv))
    | (refine hk.brGeqT (by omega) ?_; (conv => cbv))
    | (refine hk.brGeqF (by omega) ?_; (conv => cbv))
    | (refine hk.brEqlT (by omega) ?_; (conv => cbv))
    | (refine hk.brEqlF (by omega) ?_; (conv => cbv))
    | (refine hk.brNeqT (by omega) ?_; (conv => cbv))
    | (refine hk.brNeqF (by omega) ?_; (conv => cbv))
    | (refine hk.brLss (fun _ => ?_) (fun _ => ?_) <;> (conv => cbv))
    | (refine hk.brLeq (fun _ => ?_) (fun _ => ?_) <;> (conv => cbv))
    | (refine hk.brGtr (fun _ => ?_) (fun _ => ?_) <;> (conv => cbv))
    | (refine hk.brGeq (fun _ => ?_) (fun _ => ?_) <;> (conv => cbv))
    | (refine hk.brEql (fun _ => ?_) (fun _ => ?_) <;> (conv => cbv))
    | (refine hk.brNeq (fun _ => ?_) (fun _ => ?_) <;> (conv => cbv))
    | (refine hk.brNotT ?_; (conv => cbv))
    | (refine hk.brNotF ?_; (conv => cbv))
    | (refine hk.brNotS _ (by simp [hk.c2_lss, hk.c2_leq, hk.c2_gtr, hk.c2_geq, hk.c2_eql, hk.c2_neq, hk.bn_eq, hk.bq_eq]; rfl) ?_; (conv => cbv))
    | (refine hk.brBqS _ (by simp [hk.c2_lss, hk.c2_leq, hk.c2_gtr, hk.c2_geq, hk.c2_eql, hk.c2_neq, hk.bn_eq, hk.bq_eq]; rfl) ?_; (conv => cbv))
    | (refine hk.idxI (by first | omega | assumption) (by first | omega | assumption) ?_; (conv => cbv))
    | (refine hk.nzI (by first | omega | assumption | decide) ?_; (conv => cbv))
    | (refine hk.ge0I (by first | omega | assumption) ?_; (conv => cbv))
    | (refine hk.needI (by first | (simp only [rNd, hk.sb_eq, hk.ad_eq]; omega) | (simp [rNd, hk.sb_eq, hk.ad_eq]; omega)) ?_; (conv => cbv))
    | (refine hk.callA (by assumption) ?_; (conv => cbv))
    | (refine hk.calldA (by assumption) ?_; (conv => cbv))
    | (rw [hk.sb0]; (conv => cbv))
    | (rw [hk.ad0]; (conv => cbv))
    | exact hk.finB (by first | rfl | (simp [hk.c2_lss, hk.c2_leq, hk.c2_gtr, hk.c2_geq, hk.c2_eql, hk.c2_neq, hk.bn_eq, hk.bq_eq]; done) | assumption)
    | exact hk.fin1 rfl)
  exact hk.finI (fin_lowN 2 (Nat.le_refl 2) (Wk.refl _ _) rfl rfl ⟨rfl, rfl⟩)
theorem qpop_spec (g : Nat) (n : Int) (L : List Int) (hn : n = (L.length : Nat)) (h1 : 1 ≤ n) (h2 : n ≤ 100000) : Does PP 83 [.ptr 0 0] (HQ g n L) (Is (.iface 3 (I (L.getD (L.length - 1) 0))) (HQ (g + 1) (n - 1) (L.take (L.length - 1)))) := by
  obtain ⟨r, hr⟩ : ∃ r, r = L.getD (L.length - 1) 0 := ⟨_, rfl⟩
  obtain ⟨m, hm⟩ : ∃ m, m = n - 1 := ⟨_, rfl⟩
  rw [← hr, ← hm]
  have hpre : Does PP 83 [.ptr 0 0] (HQ g n L) (Is (.iface 3 (I r)) [.box [.sl 1 g 0 m], .rw g (.il .i64 L)]) := by
    refine doesF P_ok Try.f83 (by kernel_rfl) (by kernel_rfl) ?_
    intro i2 c2 u1 cv mx mn ad sbt bn bq ba lnI gtI apI sbI stI rpI lnG gtG apG sbG stG rpG fi fb fs fl fg fc sln sgt sap ssb sc b2s s2b nd call calld callv callvd loop rfun fin hk
    have hbq : Nat.beq g g = true := Nat.beq_refl g
    conv at hbq => cbv
    have hs0 : sbt n 0 = n := by rw [hk.sb_eq]; omega
    have hln : lnI L = n := by rw [hk.lnI_eq]; omega
    have hsu : i2 .sub .i64 n 1 = m := by rw [hm]; exact hk.sub64 _ _ (by omega) (by omega)
    have ham : ad 0 m = m := by rw [hk.ad_eq]; omega
    have hgt : gtI L m = r := by rw [hk.gtI_eq, hr]; congr 1; omega
    (conv => cbv)
    repeat' (first
      | assumption
      | (rw [hbq]; (conv => cbv))
      | (rw [hs0]; (conv => cbv))
      | (rw [hsu]; (conv => cbv))
      | (rw [ham]; (conv => cbv))
      | (rw [hgt]; (conv => cbv))
      | (rw [hln]; (conv => cbv))
      | (refine hk.idxI (by omega) (by omega : m < n) ?_; (conv => cbv))
      | (refine hk.brLssT (by omega) ?_; (conv => cbv))
      | (refine hk.brLssF (by omega) ?_; (conv => cbv))
      | (refine hk.brLeqT (by omega) ?_; (conv => cbv))
      | (refine hk.brLeqF (by omega) ?_; (conv => cbv))
      | (refine hk.brGtrT (by omega) ?_; (conv => cbv))
      | (refine hk.brGtrF (by omega) ?_; (conv => cbv))
      | (refine hk.brGeqT (by omega) ?_; (conv => cbv))
      | (refine hk.brGeqF (by omega) ?_; (conv => cbv))
      | (refine hk.brEqlT (by omega) ?_; (conv => cbv))
      | (refine hk.brEqlF (by omega) ?_; (conv => cbv))
      | (refine hk.brNeqT (by omega) ?_; (conv => cbv))
      | (refine hk.brNeqF (by omega) ?_; (conv => cbv))
      | (refine hk.brLss (fun _ => ?_) (fun _ => ?_) <;> (conv => cbv))
      | (refine hk.brLeq (fun _ => ?_) (fun _ => ?_) <;> (conv => cbv))
      | (refine hk.brGtr (fun _ => ?_) (fun _ => ?_) <;> (conv => cbv))
      | (refine hk.brGeq (fun _ => ?_) (fun _ => ?_) <;> (conv => cbv))
      | (refine hk.brEql (fun _ => ?_) (fun _ => ?_) <;> (conv => cbv))
      | (refine hk.brNeq (fun _ => ?_) (fun _ => ?_) <;> (conv => cbv))
      | (refine hk.brNotT ?_; (conv => cbv))
      | (refine hk.brNotF ?_; (conv => cbv))
      | (refine hk.brNotS _ (by simp [hk.c2_lss, hk.c2_leq, hk.c2_gtr, hk.c2_geq, hk.c2_eql, hk.c2_neq, hk.bn_eq, hk.bq_eq]; rfl) ?_; (conv => cbv))
      | (refine hk.brBqS _ (by simp [hk.c2_lss, hk.c2_leq, hk.c2_gtr, hk.c2_geq, hk.c2_eql, hk.c2_neq, hk.bn_eq, hk.bq_eq]; rfl) ?_; (conv => cbv))
      | (refine hk.idxI (by first | omega | assumption) (by first | omega | assumption) ?_; (conv => cbv))
      | (refine hk.nzI (by first | omega | assumption | decide) ?_; (conv => cbv))
      | (refine hk.ge0I (by first | omega | assumption) ?_; (conv => cbv))
      | (refine hk.needI (by first | (simp only [rNd, hk.sb_eq, hk.ad_eq]; omega) | (simp [rNd, hk.sb_eq, hk.ad_eq]; omega)) ?_; (conv => cbv))
      | (refine hk.callA (by assumption) ?_; (conv => cbv))
      | (refine hk.calldA (by assumption) ?_; (conv => cbv))
      | (rw [hk.sb0]; (conv => cbv))
      | (rw [hk.ad0]; (conv => cbv))
      | exact hk.finB (by first | rfl | (simp [hk.c2_lss, hk.c2_leq, hk.c2_gtr, hk.c2_geq, hk.c2_eql, hk.c2_neq, hk.bn_eq, hk.bq_eq]; done) | assumption)
      | exact hk.fin1 rfl)
  refine hpre.fin (fun r' h' ⟨e1, e2⟩ => ?_)
  subst e1
  subst e2
  refine fin_ge (GE.cut 0 0 1 g (L.length - 1) [.sl 1 g 0 m] (.il .i64 L) (.il .i64 (L.take (L.length - 1))) rfl (by rw [hm, show n - 1 = ((L.length - 1 : Nat) : Int) by omega]; rfl) rfl (by simp [LX.n, LX.toL]) rfl (fun x hx => ?_) (fun _ => trivial)) (Nat.le_refl 2) (fin_same ⟨rfl, ?_⟩)
  · simp only [LX.at_, LX.toL, List.getD_eq_getElem?_getD, List.getElem?_map, List.getElem?_take, if_pos hx]
  · rw [hm, show n - 1 = ((L.length - 1 : Nat) : Int) by omega]; rfl
end Go.Proofs.Ytnnpookoencpnab
set_option maxHeartbeats 4000000
set_option maxRecDepth 20000
set_option linter.unusedSimpArgs false
set_option linter.unusedVariables false
open Go Go.AL
namespace Go.Proofs.Ytnnpookoencpnab
theorem ltI_ordr : Ordr ltI := ⟨fun a b h => by simp only [ltI, decide_eq_true_eq, decide_eq_false_iff_not] at *; omega, fun a b c h1 h2 => by simp only [ltI, decide_eq_false_iff_not] at *; omega⟩
abbrev QI : AVal := .iface 39 (.ptr 0 0)
theorem up_spec (g : Nat) (n j : Int) (L : List Int) (hn : n = (L.length : Nat)) (hn2 : n ≤ 100000) (h0 : 0 ≤ j) (h1 : j < n) :
    Does PP 42 [QI, I j] (HQ g n L) (Is (.tup []) (HQ g n (upL ltI 0 j.toNat L j.toNat))) := by
  obtain ⟨R, hR⟩ : ∃ R, R = upL ltI 0 j.toNat L j.toNat := ⟨_, rfl⟩
  rw [← hR]
  have hls := fun (L : List Int) (i j : Int) (hn : n = (L.length : Nat)) a b c d => qless_spec g n i j L hn a b c d
  have hsw := fun (L : List Int) (i j : Int) (hn : n = (L.length : Nat)) a b c d => qswap_spec g n i j L hn a b c d
  refine doesF P_ok Try.f42 (by kernel_rfl) (by kernel_rfl) ?_
  intro i2 c2 u1 cv mx mn ad sbt bn bq ba lnI gtI apI sbI stI rpI lnG gtG apG sbG stG rpG fi fb fs fl fg fc sln sgt sap ssb sc b2s s2b nd call calld callv callvd loop rfun fin hk
  (conv => cbv)
  repeat' (first
    | assumption
    | (refine hk.brLssT (by omega) ?_; (conv => cbv))
    | (refine hk.brLssF (by omega) ?_; (conv => cbv))
    | (refine hk.brLeqT (by omega) ?_; (conv => cbv))
    | (refine hk.brLeqF (by omega) ?_; (conv => cbv))
    | (refine hk.brGtrT (by omega) ?_; (conv => cbv))
    | (refine hk.brGtrF (by omega) ?_; (conv => cbv))
    | (refine hk.brGeqT (by omega) ?_; (conv => cbv))
    | (refine hk.brGeqF (by omega) ?_; (conv => cbv))
    | (refine hk.brEqlT (by omega) ?_; (conv => cbv))
    | (refine hk.brEqlF (by omega) ?_; (conv => cbv))
    | (refine hk.brNeqT (by omega) ?_; (conv => cbv))
    | (refine hk.brNeqF (by omega) ?_; (conv => cbv))
    | (refine hk.brLss (fun _ => ?_) (fun _ => ?_) <;> (conv => cbv))
    | (refine hk.brLeq (fun _ => ?_) (fun _ => ?_) <;> (conv => cbv))
    | (refine hk.brGtr (fun _ => ?_) (fun _ => ?_) <;> (conv => cbv))
    | (refine hk.brGeq (fun _ => ?_) (fun _ => ?_) <;> (conv => cbv))
    | (refine hk.brEql (fun _ => ?_) (fun _ => ?_) <;> (conv => cbv))
    | (refine hk.brNeq (fun _ => ?_) (fun _ => ?_) <;> (conv => cbv))
    | (refine hk.brNotT ?_; (conv => cbv))
    | (refine hk.brNotF ?_; (conv => cbv))
    | (refine hk.brNotS _ (by simp [hk.c2_lss, hk.c2_leq, hk.c2_gtr, hk.c2_geq, hk.c2_eql, hk.c2_neq, hk.bn_eq, hk.bq_eq]; rfl) ?_; (conv => cbv))
    | (refine hk.brBqS _ (by simp [hk.c2_lss, hk.c2_leq, hk.c2_gtr, hk.c2_geq, hk.c2_eql, hk.c2_neq, hk.bn_eq, hk.bq_eq]; rfl) ?_; (conv => cbv))
    | (refine hk.idxI (by first | omega | assumption) (by first | omega | assumption) ?_; (conv => cbv))
    | (refine hk.nzI (by first | omega | assumption | decide) ?_; (conv => cbv))
    | (refine hk.ge0I (by first | omega | assumption) ?_; (conv => cbv))
    | (refine hk.needI (by first | (simp only [rNd, hk.sb_eq, hk.ad_eq]; omega) | (simp [rNd, hk.sb_eq, hk.ad_eq]; omega)) ?_; (conv => cbv))
    | (refine hk.callA (by assumption) ?_; (conv => cbv))
    | (refine hk.calldA (by assumption) ?_; (conv => cbv))
    | (rw [hk.sb0]; (conv => cbv))
    | (rw [hk.ad0]; (conv => cbv))
    | exact hk.finB (by first | rfl | (simp [hk.c2_lss, hk.c2_leq, hk.c2_gtr, hk.c2_geq, hk.c2_eql, hk.c2_neq, hk.bn_eq, hk.bq_eq]; done) | assumption)
    | exact hk.fin1 rfl)
  refine hk.loopI (loop_rule (α := Int × List Int × Nat) (fun x => [(0, .iface 39 (.ptr 0 0)), (1, .int .i64 x.1)]) (fun x => [.box [.sl 1 g 0 n], .rw g (.il .i64 x.2.1)])
    (fun x => 0 ≤ x.1 ∧ x.1 < n ∧ n = (x.2.1.length : Nat) ∧ x.1.toNat ≤ x.2.2 ∧ upL ltI 0 x.2.2 x.2.1 x.1.toNat = R) (fun x => x.1.toNat) (j, L, j.toNat) ⟨h0, h1, hn, Nat.le_refl _, hR.symm⟩ ?_ ?_)
  · exact Gh.tm (by repeat (first | exact Holds.nil _ _ | refine Holds.cons (Wk.refl _ _) ?_))
  intro ⟨i, l, f⟩ ⟨hi, hi2, hl, hf, hu⟩ Q' hb hx hr
  simp only at hi hi2 hl hf hu
  dsimp only
  by_cases hi0 : i = 0
  · subst hi0
    have hq : i2 .quo .i64 (i2 .sub .i64 0 1) 2 = 0 := by rw [hk.i2_quo, hk.sub64 _ _ (by omega) (by omega)]; decide
    have e : l = R := by
      rw [← hu]
      cases f with
      | zero => rfl
      | succ f => rw [upL]; rfl
    subst e
    (conv => cbv)
    repeat' (first
      | assumption
      | (rw [hq]; (conv => cbv))
      | (refine hx _ _ ?_; (conv => cbv))
      | (refine hk.brLssT (by omega) ?_; (conv => cbv))
      | (refine hk.brLssF (by omega) ?_; (conv => cbv))
      | (refine hk.brLeqT (by omega) ?_; (conv => cbv))
      | (refine hk.brLeqF (by omega) ?_; (conv => cbv))
      | (refine hk.brGtrT (by omega) ?_; (conv => cbv))
      | (refine hk.brGtrF (by omega) ?_; (conv => cbv))
      | (refine hk.brGeqT (by omega) ?_; (conv => cbv))
      | (refine hk.brGeqF (by omega) ?_; (conv => cbv))
      | (refine hk.brEqlT (by omega) ?_; (conv => cbv))
      | (refine hk.brEqlF (by omega) ?_; (conv => cbv))
      | (refine hk.brNeqT (by omega) ?_; (conv => cbv))
      | (refine hk.brNeqF (by omega) ?_; (conv => cbv))
      | (refine hk.brLss (fun _ => ?_) (fun _ => ?_) <;> (conv => cbv))
      | (refine hk.brLeq (fun _ => ?_) (fun _ => ?_) <;> (conv => cbv))
      | (refine hk.brGtr (fun _ => ?_) (fun _ => ?_) <;> (conv => cbv))
      | (refine hk.brGeq (fun _ => ?_) (fun _ => ?_) <;> (conv => cbv))
      | (refine hk.brEql (fun _ => ?_) (fun _ => ?_) <;> (conv => cbv))
      | (refine hk.brNeq (fun _ => ?_) (fun _ => ?_) <;> (conv => cbv))
      | (refine hk.brNotT ?_; (conv => cbv))
      | (refine hk.brNotF ?_; (conv => cbv))
      | (refine hk.brNotS _ (by simp [hk.c2_lss, hk.c2_leq, hk.c2_gtr, hk.c2_geq, hk.c2_eql, hk.c2_neq, hk.bn_eq, hk.bq_eq]; rfl) ?_; (conv => cbv))
      | (refine hk.brBqS _ (by simp [hk.c2_lss, hk.c2_leq, hk.c2_gtr, hk.c2_geq, hk.c2_eql, hk.c2_neq, hk.bn_eq, hk.bq_eq]; rfl) ?_; (conv => cbv))
      | (refine hk.idxI (by first | omega | assumption) (by first | omega | assumption) ?_; (conv => cbv))
      | (refine hk.nzI (by first | omega | assumption | decide) ?_; (conv => cbv))
      | (refine hk.ge0I (by first | omega | assumption) ?_; (conv => cbv))
      | (refine hk.needI (by first | (simp only [rNd, hk.sb_eq, hk.ad_eq]; omega) | (simp [rNd, hk.sb_eq, hk.ad_eq]; omega)) ?_; (conv => cbv))
      | (refine hk.callA (by assumption) ?_; (conv => cbv))
      | (refine hk.calldA (by assumption) ?_; (conv => cbv))
      | (rw [hk.sb0]; (conv => cbv))
      | (rw [hk.ad0]; (conv => cbv))
      | exact hk.finB (by first | rfl | (simp [hk.c2_lss, hk.c2_leq, hk.c2_gtr, hk.c2_geq, hk.c2_eql, hk.c2_neq, hk.bn_eq, hk.bq_eq]; done) | assumption)
      | exact hk.fin1 rfl)
  · obtain ⟨p, hp⟩ : ∃ p : Int, p = (i - 1) / 2 := ⟨_, rfl⟩
    have hp2 : 0 ≤ p ∧ p < i ∧ p.toNat = (i.toNat - 1) / 2 := by omega
    have hq : i2 .quo .i64 (i2 .sub .i64 i 1) 2 = p := by
      rw [hk.i2_quo, hk.sub64 _ _ (by omega) (by omega), Int.tdiv_eq_ediv_of_nonneg (by omega), ← hp]; exact wrap64 (by omega) (by omega)
    have hls := hls l i p hl (by omega) (by omega) (by omega) (by omega)
    have hsw := hsw l p i hl (by omega) (by omega) (by omega) (by omega)
    obtain ⟨b, hb0⟩ : ∃ b, b = ltI (l.getD i.toNat 0) (l.getD p.toNat 0) := ⟨_, rfl⟩
    obtain ⟨s, hs0⟩ : ∃ s, s = swpL 0 l p.toNat i.toNat := ⟨_, rfl⟩
    obtain ⟨f, rfl⟩ : ∃ f', f = f' + 1 := ⟨f - 1, by omega⟩
    rw [upL, if_neg (show ¬ i.toNat = 0 by omega), ← hp2.2.2, ← hb0, ← hs0] at hu
    have hsl : n = (s.length : Nat) := by rw [hs0, swpL_len]; exact hl
    rw [← hb0] at hls
    rw [← hs0] at hsw
    cases b
    · simp only [Bool.false_eq_true, if_false] at hu
      subst hu
      (conv => cbv)
      repeat' (first
        | assumption
        | (rw [hq]; (conv => cbv))
        | (refine hk.callA hls ?_; (conv => cbv))
        | (refine hx _ _ ?_; (conv => cbv))
        | (refine hk.brLssT (by omega) ?_; (conv => cbv))
        | (refine hk.brLssF (by omega) ?_; (conv => cbv))
        | (refine hk.brLeqT (by omega) ?_; (conv => cbv))
        | (refine hk.brLeqF (by omega) ?_; (conv => cbv))
        | (refine hk.brGtrT (by omega) ?_; (conv => cbv))
        | (refine hk.brGtrF (by omega) ?_; (conv => cbv))
        | (refine hk.brGeqT (by omega) ?_; (conv => cbv))
        | (refine hk.brGeqF (by omega) ?_; (conv => cbv))
        | (refine hk.brEqlT (by omega) ?_; (conv => cbv))
        | (refine hk.brEqlF (by omega) ?_; (conv => cbv))
        | (refine hk.brNeqT (by omega) ?_; (conv => cbv))
        | (refine hk.brNeqF (by omega) ?_; (conv => cbv))
        | (refine hk.brLss (fun _ => ?_) (fun _ => ?_) <;> (conv => cbv))
        | (refine hk.brLeq (fun _ => ?_) (fun _ => ?_) <;> (conv => cbv))
        | (refine hk.brGtr (fun _ => ?_) (fun _ => ?_) <;> (conv => cbv))
        | (refine hk.brGeq (fun _ => ?_) (fun _ => ?_) <;> (conv => cbv))
        | (refine hk.brEql (fun _ => ?_) (fun _ => ?_) <;> (conv => cbv))
        | (refine hk.brNeq (fun _ => ?_) (fun _ => ?_) <;> (conv => cbv))
        | (refine hk.brNotT ?_; (conv => cbv))
        | (refine hk.brNotF ?_; (conv => cbv))
        | (refine hk.brNotS _ (by simp [hk.c2_lss, hk.c2_leq, hk.c2_gtr, hk.c2_geq, hk.c2_eql, hk.c2_neq, hk.bn_eq, hk.bq_eq]; rfl) ?_; (conv => cbv))
        | (refine hk.brBqS _ (by simp [hk.c2_lss, hk.c2_leq, hk.c2_gtr, hk.c2_geq, hk.c2_eql, hk.c2_neq, hk.bn_eq, hk.bq_eq]; rfl) ?_; (conv => cbv))
        | (refine hk.idxI (by first | omega | assumption) (by first | omega | assumption) ?_; (conv => cbv))
        | (refine hk.nzI (by first | omega | assumption | decide) ?_; (conv => cbv))
        | (refine hk.ge0I (by first | omega | assumption) ?_; (conv => cbv))
        | (refine hk.needI (by first | (simp only [rNd, hk.sb_eq, hk.ad_eq]; omega) | (simp [rNd, hk.sb_eq, hk.ad_eq]; omega)) ?_; (conv => cbv))
        | (refine hk.callA (by assumption) ?_; (conv => cbv))
        | (refine hk.calldA (by assumption) ?_; (conv => cbv))
        | (rw [hk.sb0]; (conv => cbv))
        | (rw [hk.ad0]; (conv => cbv))
        | exact hk.finB (by first | rfl | (simp [hk.c2_lss, hk.c2_leq, hk.c2_gtr, hk.c2_geq, hk.c2_eql, hk.c2_neq, hk.bn_eq, hk.bq_eq]; done) | assumption)
        | exact hk.fin1 rfl)
    · simp only [if_true] at hu
      (conv => cbv)
      repeat' (first
        | assumption
        | (rw [hq]; (conv => cbv))
        | (refine hk.callA hls ?_; (conv => cbv))
        | (refine hk.callA hsw ?_; (conv => cbv))
        | (refine hk.brLssT (by omega) ?_; (conv => cbv))
        | (refine hk.brLssF (by omega) ?_; (conv => cbv))
        | (refine hk.brLeqT (by omega) ?_; (conv => cbv))
        | (refine hk.brLeqF (by omega) ?_; (conv => cbv))
        | (refine hk.brGtrT (by omega) ?_; (conv => cbv))
        | (refine hk.brGtrF (by omega) ?_; (conv => cbv))
        | (refine hk.brGeqT (by omega) ?_; (conv => cbv))
        | (refine hk.brGeqF (by omega) ?_; (conv => cbv))
        | (refine hk.brEqlT (by omega) ?_; (conv => cbv))
        | (refine hk.brEqlF (by omega) ?_; (conv => cbv))
        | (refine hk.brNeqT (by omega) ?_; (conv => cbv))
        | (refine hk.brNeqF (by omega) ?_; (conv => cbv))
        | (refine hk.brLss (fun _ => ?_) (fun _ => ?_) <;> (conv => cbv))
        | (refine hk.brLeq (fun _ => ?_) (fun _ => ?_) <;> (conv => cbv))
        | (refine hk.brGtr (fun _ => ?_) (fun _ => ?_) <;> (conv => cbv))
        | (refine hk.brGeq (fun _ => ?_) (fun _ => ?_) <;> (conv => cbv))
        | (refine hk.brEql (fun _ => ?_) (fun _ => ?_) <;> (conv => cbv))
        | (refine hk.brNeq (fun _ => ?_) (fun _ => ?_) <;> (conv => cbv))
        | (refine hk.brNotT ?_; (conv => cbv))
        | (refine hk.brNotF ?_; (conv => cbv))
        | (refine hk.brNotS _ (by simp [hk.c2_lss, hk.c2_leq, hk.c2_gtr, hk.c2_geq, hk.c2_eql, hk.c2_neq, hk.bn_eq, hk.bq_eq]; rfl) ?_; (conv => cbv))
        | (refine hk.brBqS _ (by simp [hk.c2_lss, hk.c2_leq, hk.c2_gtr, hk.c2_geq, hk.c2_eql, hk.c2_neq, hk.bn_eq, hk.bq_eq]; rfl) ?_; (conv => cbv))
        | (refine hk.idxI (by first | omega | assumption) (by first | omega | assumption) ?_; (conv => cbv))
        | (refine hk.nzI (by first | omega | assumption | decide) ?_; (conv => cbv))
        | (refine hk.ge0I (by first | omega | assumption) ?_; (conv => cbv))
        | (refine hk.needI (by first | (simp only [rNd, hk.sb_eq, hk.ad_eq]; omega) | (simp [rNd, hk.sb_eq, hk.ad_eq]; omega)) ?_; (conv => cbv))
        | (refine hk.callA (by assumption) ?_; (conv => cbv))
        | (refine hk.calldA (by assumption) ?_; (conv => cbv))
        | (rw [hk.sb0]; (conv => cbv))
        | (rw [hk.ad0]; (conv => cbv))
        | exact hk.finB (by first | rfl | (simp [hk.c2_lss, hk.c2_leq, hk.c2_gtr, hk.c2_geq, hk.c2_eql, hk.c2_neq, hk.bn_eq, hk.bq_eq]; done) | assumption)
        | exact hk.fin1 rfl)
      refine hb (p, s, f) _ ⟨by simp only; omega, by simp only; omega, hsl, by simp only; omega, hu⟩ (by simp only; omega) ?_
      dsimp only
      refine Gh.tm ?_
      repeat' (first | exact Holds.nil _ _ | refine Holds.cons (Wk.refl _ _) ?_ | refine Holds.cons (Wk.of_eq ?_) ?_)
end Go.Proofs.Ytnnpookoencpnab
