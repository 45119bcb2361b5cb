/-
  Contracts of functions of the program, proved over the abstract machine of the Al texts.
-/
import Derived.Test.YtnnpookoencpnaaRkB
set_option maxHeartbeats 4000000
set_option maxRecDepth 20000
set_option linter.unusedSimpArgs false
set_option linter.unusedVariables false
open Go Go.AL
namespace Go.Proofs.Ytnnpookoencpnaa
/-! ### Sorting by insertion: the plain part -/
structure OJ (l L : List Int) (i : Int) : Prop where
  len : L.length = l.length
  perm : L.Perm l
  i1 : 1 ≤ i
  srt : ∀ a b, a < b → b < i.toNat → L.getD a 0 ≤ L.getD b 0
structure IJ (l L : List Int) (i j : Int) : Prop where
  len : L.length = l.length
  perm : L.Perm l
  j0 : 0 ≤ j
  ji : j ≤ i
  il : i.toNat < l.length
  srt : ∀ a b, a < b → b ≤ i.toNat → a ≠ j.toNat → b ≠ j.toNat → L.getD a 0 ≤ L.getD b 0
  low : ∀ b, j.toNat < b → b ≤ i.toNat → L.getD j.toNat 0 ≤ L.getD b 0
theorem OJ.start (l : List Int) : OJ l l 1 := ⟨rfl, .refl _, Int.le_refl _, fun a b h1 h2 => by simp at h2; omega⟩
theorem OJ.inner {l L : List Int} {i : Int} (h : OJ l L i) (hi : i.toNat < l.length) : IJ l L i i :=
  ⟨h.len, h.perm, by have := h.i1; omega, Int.le_refl _, hi, fun a b h1 h2 h3 h4 => h.srt a b h1 (by omega), fun b h1 h2 => by omega⟩
def swp (L : List Int) (j : Int) : List Int := (L.set j.toNat (L.getD (j - 1).toNat 0)).set (j - 1).toNat (L.getD j.toNat 0)
theorem swp_get {L : List Int} {j : Int} (hj : 0 < j) (hl : j.toNat < L.length) (a : Nat) : (swp L j).getD a 0 = if a = j.toNat then L.getD (j - 1).toNat 0 else if a = (j - 1).toNat then L.getD j.toNat 0 else L.getD a 0 := by
  unfold swp
  simp only [List.getD, List.getElem?_set, List.length_set]
  by_cases h1 : a = j.toNat
  · subst h1
    rw [if_neg (by omega), if_pos rfl, if_pos hl, if_pos rfl]
    rfl
  · by_cases h2 : a = (j - 1).toNat
    · subst h2
      rw [if_pos rfl, if_pos (by omega), if_neg h1, if_pos rfl]
      rfl
    · rw [if_neg (Ne.symm h2), if_neg (Ne.symm h1), if_neg h1, if_neg h2]
theorem swp_perm {L : List Int} {j : Int} (hj : 0 < j) (hl : j.toNat < L.length) : (swp L j).Perm L := by
  have h2 : (j - 1).toNat < L.length := by omega
  have := List.set_set_perm (i := j.toNat) (j := (j - 1).toNat) hl h2
  unfold swp
  have h3 : j.toNat - 1 < L.length := by omega
  simpa [List.getD, hl, h2, h3] using this
theorem IJ.step {l L : List Int} {i j : Int} (h : IJ l L i j) (hj : 0 < j) (hlt : L.getD j.toNat 0 < L.getD (j - 1).toNat 0) : IJ l (swp L j) i (j - 1) := by
  have hl : j.toNat < L.length := by have := h.il; have := h.ji; have := h.len; omega
  have g := swp_get hj hl
  refine ⟨by have := h.len; simp [swp, this], (swp_perm hj hl).trans h.perm, by omega, by have := h.ji; omega, h.il, fun a b h1 h2 h3 h4 => ?_, fun b h1 h2 => ?_⟩
  · rw [g, g]
    by_cases ha : a = j.toNat
    · subst ha
      rw [if_pos rfl, if_neg (by omega), if_neg h4]
      exact h.srt _ b (by omega) h2 (by omega) (by omega)
    · rw [if_neg ha, if_neg h3]
      by_cases hb : b = j.toNat
      · subst hb
        rw [if_pos rfl]
        exact h.srt a _ (by omega) (by have := h.ji; omega) ha (by omega)
      · rw [if_neg hb, if_neg h4]
        exact h.srt a b h1 h2 ha hb
  · rw [g, g, if_neg (by omega), if_pos rfl]
    by_cases hb : b = j.toNat
    · rw [if_pos hb]; omega
    · rw [if_neg hb, if_neg (by omega)]
      exact h.low b (by omega) h2
theorem IJ.stop {l L : List Int} {i j : Int} (h : IJ l L i j) (he : j ≤ 0 ∨ ¬ L.getD j.toNat 0 < L.getD (j - 1).toNat 0) : OJ l L (i + 1) := by
  have := h.j0
  have := h.ji
  refine ⟨h.len, h.perm, by omega, fun a b h1 h2 => ?_⟩
  by_cases ha : a = j.toNat
  · subst ha; exact h.low b h1 (by omega)
  · by_cases hb : b = j.toNat
    · subst hb
      rcases he with he | he
      · omega
      · by_cases h3 : a = (j - 1).toNat
        · subst h3; omega
        · have := h.srt a (j - 1).toNat (by omega) (by omega) ha (by omega)
          omega
    · exact h.srt a b h1 (by omega) ha hb
/-- Sorted, and the same numbers. -/
structure SortOf (l L : List Int) : Prop where
  perm : L.Perm l
  srt : ∀ a b, a < b → b < l.length → L.getD a 0 ≤ L.getD b 0
theorem OJ.done {l L : List Int} {i : Int} (h : OJ l L i) (hi : l.length ≤ i.toNat) : SortOf l L := ⟨h.perm, fun a b h1 h2 => h.srt a b h1 (by omega)⟩
/-! ### The code -/
theorem nan135_spec (n : Int) (h : Heap) : Does PP 135 [I n] h (Is (.bool false) h) := by
  refine doesF P_ok Try.f135 (by kernel_rfl) (by kernel_rfl) ?_
  intro i2 c2 u1 cv mx mn ad sbt bn bq ba lnI gtI apI sbI stI rpI lnG gtG apG sbG stG rpG fi fb fs fl fg fc sln sgt sap ssb sc b2s s2b nd call calld callv callvd loop rfun fin hk
  cbv
  exact hk.fin1 (congrArg _ (by rw [hk.c2_neq]; simp))
theorem less_spec (a b : Int) (h : Heap) : Does PP 109 [I a, I b] h (Is (.bool (decide (a < b))) h) := by
  obtain ⟨r, hr0⟩ : ∃ r, r = decide (a < b) := ⟨_, rfl⟩
  rw [← hr0]
  refine doesF P_ok Try.f109 (by kernel_rfl) (by kernel_rfl) ?_
  intro i2 c2 u1 cv mx mn ad sbt bn bq ba lnI gtI apI sbI stI rpI lnG gtG apG sbG stG rpG fi fb fs fl fg fc sln sgt sap ssb sc b2s s2b nd call calld callv callvd loop rfun fin hk
  have hbf : bn false = true := by rw [hk.bn_eq]; rfl
  cbv
  refine hk.call1 (nan135_spec a h) ?_
  cbv
  exact hk.fin1 (congrArg _ (by rw [hr0, hk.c2_lss]))
theorem insert_spec (l : List Int) (g : Nat) (n : Int) (hn : n = l.length) (hn12 : n ≤ 12) : Does PP 147 [.sl 0 g 0 n, I 0, I n] [.rw g (.il .i64 l)] (fun r h => ∃ L, SortOf l L ∧ r = .tup [] ∧ h = [.rw g (.il .i64 L)]) := by
  refine doesF P_ok Try.f147 (by kernel_rfl) (by kernel_rfl) ?_
  intro i2 c2 u1 cv mx mn ad sbt bn bq ba lnI gtI apI sbI stI rpI lnG gtG apG sbG stG rpG fi fb fs fl fg fc sln sgt sap ssb sc b2s s2b nd call calld callv callvd loop rfun fin hk
  have hln : ∀ i : Int, 0 ≤ i → i < n → i.toNat < l.length := fun i h1 h2 => by omega
  have hln2 : ∀ i : Int, ¬ i < n → l.length ≤ i.toNat := fun i h1 => by omega
  have hn0 : 0 ≤ n := by omega
  clear hn
  have hbq : Nat.beq g g = true := Nat.beq_refl g
  cbv at hbq
  have h01 : i2 .add .i64 0 1 = 1 := hk.add64 0 1 (by omega) (by omega)
  cbv
  rw [h01]
  refine hk.loopI (loop_rule (α := List Int × Int) (fun x => [(0, .sl 0 g 0 n), (1, .int .i64 0), (2, .int .i64 n), (6, .int .i64 x.2)]) (fun x => [.rw g (.il .i64 x.1)])
    (fun x => OJ l x.1 x.2) (fun x => (n - x.2).toNat) (l, 1) (OJ.start l) ?_ ?_)
  · exact Gh.tm (by repeat (first | exact Holds.nil _ _ | refine Holds.cons (Wk.refl _ _) ?_))
  intro ⟨L, i⟩ hJ Q' hb hx hr
  simp only at hJ
  have hi1 := hJ.i1
  cbv
  split
  · rename_i hlt
    rw [hk.c2_lss, decide_eq_true_eq] at hlt
    cbv
    refine hk.loopI (loop_rule (α := List Int × Int) (fun x => [(0, .sl 0 g 0 n), (1, .int .i64 0), (2, .int .i64 n), (6, .int .i64 i), (7, .int .i64 x.2)]) (fun x => [.rw g (.il .i64 x.1)])
      (fun x => IJ l x.1 i x.2) (fun x => x.2.toNat) (L, i) (hJ.inner (hln i (by omega) hlt)) ?_ ?_)
    · exact Gh.tm (by repeat (first | exact Holds.nil _ _ | refine Holds.cons (Wk.refl _ _) ?_))
    intro ⟨K, j⟩ hK Q2 hb2 hx2 hr2
    simp only at hK
    have hj0 := hK.j0
    have hji := hK.ji
    obtain ⟨jm, hjm⟩ : ∃ jm, jm = j - 1 := ⟨_, rfl⟩
    have hsub := hk.sub64 j 1 (by omega) (by omega)
    rw [← hjm] at hsub
    have hjl : j < n := by omega
    cbv
    split
    · rename_i hgt
      rw [hk.c2_gtr, decide_eq_true_eq] at hgt
      cbv
      repeat (rw [hbq]; cbv)
      have hadz : ∀ x, ad 0 x = x := fun x => by rw [hk.ad_eq]; omega
      have hj1 : nd (.idx j (sbt n 0)) := hk.idx hj0 (by rw [hk.sb_eq]; omega)
      have hj2 : nd (.idx jm (sbt n 0)) := hk.idx (by omega) (by rw [hk.sb_eq]; omega)
      refine ⟨hj1, ?_⟩
      cbv
      repeat (rw [hbq]; cbv)
      rw [hsub]
      refine ⟨hj2, ?_⟩
      cbv
      repeat (rw [hbq]; cbv)
      rw [hadz, hadz]
      have hgj := hk.gtI_eq K j
      have hgj1 := hk.gtI_eq K jm
      obtain ⟨t, ht⟩ : ∃ t, t = decide (gtI K j < gtI K jm) := ⟨_, rfl⟩
      refine hk.calld1 (r := .bool t) (by rw [ht]; exact less_spec _ _ _) ?_
      rw [hgj, hgj1] at ht
      cases t
      · have ht := of_decide_eq_false ht.symm
        cbv
        refine hx2 _ _ ?_
        cbv
        refine hb (K, i + 1) _ (hK.stop (.inr (by rw [← hjm]; exact ht))) (by simp only; omega) ?_
        refine Gh.tm ?_
        repeat' (first | exact Holds.nil _ _ | refine Holds.cons (Wk.refl _ _) ?_ | refine Holds.cons (Wk.of_eq ?_) ?_)
        all_goals first
          | (rw [← hk.add64 i 1 (by omega) (by omega)]; rfl)
          | rfl
          | skip
      · have ht := of_decide_eq_true ht.symm
        have hsw : stI (stI K j (gtI K jm)) jm (gtI K j) = swp K j := by
          rw [hk.stI_eq, hk.stI_eq, hgj, hgj1, hjm]
          rfl
        cbv
        repeat (rw [hbq]; cbv)
        rw [hsub, hadz, hadz, hsw]
        refine ⟨hj2, hj1, hj1, hj2, hb2 (swp K j, jm) _ (by simp only; rw [hjm]; exact hK.step hgt (by rw [← hjm]; exact ht)) (by simp only; omega) ?_⟩
        refine Gh.tm ?_
        repeat' (first | exact Holds.nil _ _ | refine Holds.cons (Wk.refl _ _) ?_ | refine Holds.cons (Wk.of_eq ?_) ?_)
    · rename_i hgt
      rw [hk.c2_gtr, decide_eq_false_iff_not] at hgt
      cbv
      refine hx2 _ _ ?_
      cbv
      refine hb (K, i + 1) _ (hK.stop (.inl (by omega))) (by simp only; omega) ?_
      refine Gh.tm ?_
      repeat' (first | exact Holds.nil _ _ | refine Holds.cons (Wk.refl _ _) ?_ | refine Holds.cons (Wk.of_eq ?_) ?_)
      all_goals first
        | (rw [← hk.add64 i 1 (by omega) (by omega)]; rfl)
        | rfl
        | skip
  · rename_i hge
    rw [hk.c2_lss, decide_eq_false_iff_not] at hge
    refine hx _ _ ?_
    cbv
    exact hk.finI (fin_same ⟨L, hJ.done (hln2 i hge), rfl, rfl⟩)
/-- How many bits a small number has. -/
def lenf (n : Nat) : Int := if n = 0 then 0 else if n = 1 then 1 else if n < 4 then 2 else if n < 8 then 3 else 4
theorem len_run : ∀ n : Nat, n < 13 → (ex PP T M (fun _ => true) 60).F 113 [.int .u64 n] [] = some (.int .i64 (lenf n), [])
  | 0, _ => by kernel_rfl
  | 1, _ => by kernel_rfl
  | 2, _ => by kernel_rfl
  | 3, _ => by kernel_rfl
  | 4, _ => by kernel_rfl
  | 5, _ => by kernel_rfl
  | 6, _ => by kernel_rfl
  | 7, _ => by kernel_rfl
  | 8, _ => by kernel_rfl
  | 9, _ => by kernel_rfl
  | 10, _ => by kernel_rfl
  | 11, _ => by kernel_rfl
  | 12, _ => by kernel_rfl
  | n + 13, h => by omega
theorem len_spec (n : Int) (h0 : 0 ≤ n) (h1 : n ≤ 12) (h : Heap) : Does PP 113 [.int .u64 n] h (Is (I (lenf n.toNat)) h) := by
  have := pure0 (ex_does P_ok 60 (len_run n.toNat (by omega))) rfl rfl h
  rwa [show ((n.toNat : Nat) : Int) = n by omega] at this
theorem pdq_spec (l : List Int) (g : Nat) (n m : Int) (hn : n = l.length) (hn12 : n ≤ 12) : Does PP 134 [.sl 0 g 0 n, I 0, I n, I m] [.rw g (.il .i64 l)] (fun r h => ∃ L, SortOf l L ∧ r = .tup [] ∧ h = [.rw g (.il .i64 L)]) := by
  have hins := insert_spec l g n hn hn12
  refine doesF P_ok Try.f134 (by kernel_rfl) (by kernel_rfl) ?_
  intro i2 c2 u1 cv mx mn ad sbt bn bq ba lnI gtI apI sbI stI rpI lnG gtG apG sbG stG rpG fi fb fs fl fg fc sln sgt sap ssb sc b2s s2b nd call calld callv callvd loop rfun fin hk
  have hn0 : 0 ≤ n := by omega
  clear hn
  have hsub := hk.sub64 n 0 (by omega) (by omega)
  have hle : c2 .leq (i2 .sub .i64 n 0) 12 = true := by rw [hsub, hk.c2_leq, decide_eq_true_eq]; omega
  cbv
  refine hk.loopI (loop_rule (α := Unit) (fun _ => [(0, .sl 0 g 0 n), (1, .int .i64 0), (2, .int .i64 n), (3, .int .i64 m), (8, .bool true), (9, .bool true)]) (fun _ => [.rw g (.il .i64 l)]) (fun _ => True) (fun _ => 0) () trivial ?_ ?_)
  · exact Gh.tm (by repeat (first | exact Holds.nil _ _ | refine Holds.cons (Wk.refl _ _) ?_))
  intro _ _ Q' hb hx hr
  cbv
  rw [hle]
  cbv
  refine hk.callI hins fun r h ⟨L, h1, h2, h3⟩ => ?_
  subst h2
  subst h3
  cbv
  refine hr _ ?_
  cbv
  exact hk.finI (fin_same ⟨L, h1, rfl, rfl⟩)
theorem wrap_u64 (n : Int) (h0 : 0 ≤ n) (h1 : n < 18446744073709551616) : IntKind.wrap .u64 n = n := by
  have : IntKind.wrap .u64 n = n % 18446744073709551616 := rfl
  rw [this]; omega
theorem sort_spec (l : List Int) (g : Nat) (n : Int) (hn : n = l.length) (hn12 : n ≤ 12) : Does PP 107 [.sl 0 g 0 n] [.rw g (.il .i64 l)] (fun r h => ∃ L, SortOf l L ∧ r = .tup [] ∧ h = [.rw g (.il .i64 L)]) := by
  have hpdq := fun m => pdq_spec l g n m hn hn12
  refine doesF P_ok Try.f107 (by kernel_rfl) (by kernel_rfl) ?_
  intro i2 c2 u1 cv mx mn ad sbt bn bq ba lnI gtI apI sbI stI rpI lnG gtG apG sbG stG rpG fi fb fs fl fg fc sln sgt sap ssb sc b2s s2b nd call calld callv callvd loop rfun fin hk
  have hn0 : 0 ≤ n := by omega
  clear hn
  have hbq : Nat.beq g g = true := Nat.beq_refl g
  cbv at hbq
  cbv
  repeat (rw [hbq]; cbv)
  have hs0 : sbt n 0 = n := by rw [hk.sb_eq]; omega
  have hcv : cv .u64 n = n := by rw [hk.cv_eq]; exact wrap_u64 n hn0 (by omega)
  rw [hs0, hcv]
  obtain ⟨m, hm⟩ : ∃ m, m = lenf n.toNat := ⟨_, rfl⟩
  have hlen := len_spec n hn0 hn12 [.rw g (.il .i64 l)]
  rw [← hm] at hlen
  refine hk.call1 hlen ?_
  cbv
  refine hk.callI (hpdq m) fun r h ⟨L, h1, h2, h3⟩ => ?_
  subst h2
  subst h3
  cbv
  exact hk.finI (fin_same ⟨L, h1, rfl, rfl⟩)
end Go.Proofs.Ytnnpookoencpnaa
