/-
  Contracts of functions of the program, proved over the abstract machine of the Al texts.
-/
import Derived.Test.YtnnpookoencpnaaRkD
set_option maxHeartbeats 4000000
set_option maxRecDepth 20000
set_option linter.unusedSimpArgs false
set_option linter.unusedVariables false
open Go Go.AL
namespace Go.Proofs.Ytnnpookoencpnaa
theorem rz_sl (i g : Nat) (q : LX) (lo hi : Int) : rz i g q (.sl i g lo hi) = .ls (subR q lo hi) .any := by simp [rz]
theorem collect_spec (l : List Int) (n : Nat) (z : Int) (hn : l.length = n + 1) (hz : z = ((n + 1 : Nat) : Int)) (hl8 : l.length ≤ 8) : Does PP 106 [.clo (.func 108) [] [.ptr 0 0]] [.box [LI l]]
    (Is (.sl 4 (n + 1) 0 z) [.box [LI l], .box [.sl 4 (n + 1) 0 z], .dead 0, .tok 0, .rw (n + 1) (.il .i64 l)]) := by
  have hseq := appendSeq_spec l n z hn hz hl8
  refine doesF P_ok Try.f106 (by kernel_rfl) (by kernel_rfl) ?_
  intro i2 c2 u1 cv mx mn ad sbt bn bq ba lnI gtI apI sbI stI rpI lnG gtG apG sbG stG rpG fi fb fs fl fg fc sln sgt sap ssb sc b2s s2b nd call calld callv callvd loop rfun fin hk
  clear hn hz
  cbv
  refine hk.callI hseq fun r h ⟨e1, e2⟩ => ?_
  subst e1
  subst e2
  cbv
  exact hk.fin1 rfl
theorem sorted_spec (l : List Int) (h1 : 1 ≤ l.length) (hl8 : l.length ≤ 8) : Does PP 67 [.clo (.func 108) [] [.ptr 0 0]] [.box [LI l]] (fun r h => ∃ L, SortOf l L ∧ r = LI L ∧ h = [.box [LI l]]) := by
  obtain ⟨n, hn⟩ : ∃ n, l.length = n + 1 := ⟨l.length - 1, by omega⟩
  obtain ⟨z, hz⟩ : ∃ z : Int, z = ((n + 1 : Nat) : Int) := ⟨_, rfl⟩
  have hcol := collect_spec l n z hn hz hl8
  have hsort : Does PP 107 [.sl 4 (n + 1) 0 z] [.box [LI l], .box [.sl 4 (n + 1) 0 z], .dead 0, .tok 0, .rw (n + 1) (.il .i64 l)] (fun r h => ∃ L, SortOf l L ∧ r = .tup [] ∧ h = [.box [LI l], .box [.sl 4 (n + 1) 0 z], .dead 0, .tok 0, .rw (n + 1) (.il .i64 L)]) := by
    refine ((sort_spec l (n + 1) z (by omega) (by omega)).ren [4] [.box [LI l], .box [.sl 4 (n + 1) 0 z], .dead 0, .tok 0, .rw (n + 1) (.il .i64 l)] rfl (by decide) (fun x hx => by rw [List.mem_singleton.1 hx]; show 4 < 5; decide) (by repeat (first | exact trivial | refine ⟨rfl, ?_⟩)) rfl rfl (fun r h ⟨L, h1, h2, h3⟩ => by subst h3; rfl)).mono ?_
    rintro r h ⟨r2, h2, ⟨L, k1, k2, k3⟩, k4, k5⟩
    subst k2
    subst k3
    exact ⟨L, k1, k4, k5⟩
  have hsub : ∀ L, SortOf l L → rSub L 0 z = L := fun L hS => by
    have := hS.perm.length_eq
    unfold rSub
    simp only [Int.toNat_zero, List.drop_zero]
    rw [show (z - 0).toNat = L.length by omega, List.take_length]
  refine doesF P_ok Try.f67 (by kernel_rfl) (by kernel_rfl) ?_
  intro i2 c2 u1 cv mx mn ad sbt bn bq ba lnI gtI apI sbI stI rpI lnG gtG apG sbG stG rpG fi fb fs fl fg fc sln sgt sap ssb sc b2s s2b nd call calld callv callvd loop rfun fin hk
  clear hn hz
  cbv
  refine hk.callI hcol fun r h ⟨e1, e2⟩ => ?_
  subst e1
  subst e2
  cbv
  refine hk.callI hsort fun r h ⟨L, hS, e1, e2⟩ => ?_
  subst e1
  subst e2
  cbv
  refine hk.finI (fin_rz 4 (n + 1) (.il .i64 L) rfl rfl ?_)
  have e : rz 4 (n + 1) (.il .i64 L) (.sl 4 (n + 1) 0 z) = LI L := by
    rw [rz_sl]
    show AVal.ls (.il .i64 (rSub L 0 z)) .any = _
    rw [hsub L hS]
  show rFin _ _ (rz 4 (n + 1) (.il .i64 L) (.sl 4 (n + 1) 0 z)) _
  rw [e]
  exact fin_low (.refl _ _) rfl rfl ⟨L, hS, rfl, rfl⟩
/-- A run's result that is numbers. -/
def isL (m : List Int) : Option (AVal × Heap) → Bool
  | some (.ls (.il .i64 l) _, _) => intsB l m
  | _ => false
theorem isL_ok {m : List Int} {x : Option (AVal × Heap)} (h : isL m x = true) : ∃ c h', x = some (.ls (.il .i64 m) c, h') := by
  unfold isL at h
  split at h
  · rename_i l c h'
    rw [intsB_eq h]
    exact ⟨c, h', rfl⟩
  · cases h
/-- 0 to n - 1, for few. -/
theorem first_run : ∀ n : Nat, 1 ≤ n → n ≤ 8 → isL (rangeI n) ((ex PP T M (fun _ => false) 60).F 69 [I n] []) = true
  | 1, _, _ => by kernel_rfl
  | 2, _, _ => by kernel_rfl
  | 3, _, _ => by kernel_rfl
  | 4, _, _ => by kernel_rfl
  | 5, _, _ => by kernel_rfl
  | 6, _, _ => by kernel_rfl
  | 7, _, _ => by kernel_rfl
  | 8, _, _ => by kernel_rfl
  | n + 9, _, h => by omega
theorem first_spec (n : Nat) (h1 : 1 ≤ n) (h8 : n ≤ 8) (z : Int) (hz : z = n) (h : Heap) : Does PP 69 [I z] h (Is (LI (rangeI n)) h) := by
  obtain ⟨c, h', he⟩ := isL_ok (first_run n h1 h8)
  refine pure0 ?_ rfl rfl h
  subst hz
  exact (ex_does P_ok 60 he).fin fun r h2 ⟨e1, e2⟩ => by
    subst e1
    subst e2
    exact fin_low (.any _ _ _) rfl rfl ⟨rfl, rfl⟩
theorem equal_spec (a b : List Int) (h : Heap) (ha : a.length ≤ 9223372036854775807) (hb : b.length ≤ 9223372036854775807) : Does PP 66 [LI a, LI b] h (Is (.bool (decide (a = b))) h) := by
  obtain ⟨r, hr0⟩ : ∃ r, r = decide (a = b) := ⟨_, rfl⟩
  rw [← hr0]
  refine doesF P_ok Try.f66 (by kernel_rfl) (by kernel_rfl) ?_
  intro i2 c2 u1 cv mx mn ad sbt bn bq ba lnI gtI apI sbI stI rpI lnG gtG apG sbG stG rpG fi fb fs fl fg fc sln sgt sap ssb sc b2s s2b nd call calld callv callvd loop rfun fin hk
  have hn := hk.lnI_nn a
  have hl := hk.lnI_le a 9223372036854775807 (by omega)
  have hlen : lnI a = lnI b ↔ a.length = b.length := by rw [hk.lnI_eq, hk.lnI_eq]; omega
  cbv
  split
  · rename_i h1
    rw [hk.c2_neq, decide_eq_true_eq, ne_eq, hlen] at h1
    cbv
    exact hk.fin1 (congrArg _ (by rw [hr0, eq_comm, decide_eq_false_iff_not]; exact fun e => h1 (congrArg List.length e)))
  · rename_i h1
    rw [hk.c2_neq, decide_eq_false_iff_not, ne_eq, Classical.not_not] at h1
    have h2 := hlen.1 h1
    cbv
    refine hk.loopI (loop_rule (α := Int) (fun i => [(0, .ls (.il .i64 a) .any), (1, .ls (.il .i64 b) .any), (4, .bool false), (12, .int .i64 (lnI a)), (13, .int .i64 i)]) (fun i => h)
      (fun i => 0 ≤ i ∧ i ≤ lnI a ∧ ∀ j, j < i.toNat → a.getD j 0 = b.getD j 0) (fun i => (lnI a - i).toNat) 0 ⟨by omega, by omega, upto_zero⟩ ?_ ?_)
    · exact Gh.tm (by repeat (first | exact Holds.nil _ _ | refine Holds.cons (Wk.refl _ _) ?_))
    intro i ⟨hi, hi2, hi3⟩ Q' hb hx hr
    cbv
    split
    · rename_i hlt
      rw [hk.c2_lss, decide_eq_true_eq] at hlt
      refine ⟨hk.idx hi hlt, hk.idx hi (show i < lnI b by omega), ?_⟩
      have hil := hk.lt_lnI a i hi hlt
      have hga := hk.gtI_eq a i
      have hgb := hk.gtI_eq b i
      cbv
      split
      · rename_i he
        rw [hk.c2_neq, decide_eq_true_eq, hga, hgb] at he
        refine hr _ ?_
        cbv
        exact hk.fin1 (congrArg _ (by rw [hr0, eq_comm, decide_eq_false_iff_not]; intro e; exact he (by rw [e])))
      · rename_i he
        rw [hk.c2_neq, decide_eq_false_iff_not, hga, hgb, ne_eq, Classical.not_not] at he
        refine hb (i + 1) _ ⟨by omega, by omega, upto_step hi hi3 he⟩ (by omega) ?_
        refine Gh.tm ?_
        repeat' (first | exact Holds.nil _ _ | refine Holds.cons (Wk.refl _ _) ?_ | refine Holds.cons (Wk.of_eq ?_) ?_)
        all_goals first
          | (rw [← hk.add64 i 1 (by omega) (by omega)]; rfl)
          | rfl
          | skip
    · rename_i hge
      rw [hk.c2_lss, decide_eq_false_iff_not] at hge
      have hlen := hk.lnI_toNat a
      refine hx _ _ ?_
      cbv
      exact hk.fin1 (congrArg _ (by
        rw [hr0, eq_comm, decide_eq_true_eq]
        exact list_ext h2 fun j hj => hi3 j (by omega)))
theorem vals_spec (l : List Int) : Does PP 68 [LI l] [] (Is (.clo (.func 108) [] [.ptr 0 0]) [.box [LI l]]) := by
  refine doesF P_ok Try.f68 (by kernel_rfl) (by kernel_rfl) ?_
  intro i2 c2 u1 cv mx mn ad sbt bn bq ba lnI gtI apI sbI stI rpI lnG gtG apG sbG stG rpG fi fb fs fl fg fc sln sgt sap ssb sc b2s s2b nd call calld callv callvd loop rfun fin hk
  cbv
  exact hk.fin1 rfl
theorem perm_of_subset : ∀ (a b : List Int), a.Nodup → (∀ x ∈ a, x ∈ b) → b.length ≤ a.length → a.Perm b
  | [], b, _, _, h => by
    have : b = [] := List.eq_nil_of_length_eq_zero (by simpa using h)
    subst this; exact .refl _
  | x :: a, b, hn, hs, h => by
    have hx := hs x (by simp)
    have hp := List.perm_cons_erase hx
    have hl := hp.length_eq
    rw [List.nodup_cons] at hn
    have := perm_of_subset a (b.erase x) hn.2 (fun y hy => (List.mem_erase_of_ne (fun e => hn.1 (by rw [← e]; exact hy))).2 (hs y (by simp [hy]))) (by simp at hl h; omega)
    exact (this.cons x).trans hp.symm
theorem rangeI_nodup (n : Nat) : (rangeI n).Nodup := by
  unfold rangeI List.Nodup
  rw [List.pairwise_map]
  exact (List.nodup_range (n := n)).imp fun h => by omega
theorem rangeI_sorted (n : Nat) : (rangeI n).Pairwise (· ≤ ·) := by
  unfold rangeI
  rw [List.pairwise_map]
  exact (List.pairwise_lt_range (n := n)).imp fun h => by omega
theorem order_perm {l : List Int} (h : ∀ i : Nat, i < l.length → (i : Int) ∈ l) : (rangeI l.length).Perm l :=
  perm_of_subset _ _ (rangeI_nodup _) (fun x hx => by
    obtain ⟨h0, h1⟩ := mem_rangeI.1 hx
    have := h x.toNat (by omega)
    rwa [show ((x.toNat : Nat) : Int) = x by omega] at this) (by rw [rangeI_len]; exact Nat.le_refl _)
theorem SortOf.pairwise {l L : List Int} (h : SortOf l L) : L.Pairwise (· ≤ ·) := by
  rw [List.pairwise_iff_getElem]
  intro i j hi hj hij
  have hl := h.perm.length_eq
  have := h.srt i j hij (by omega)
  simpa [List.getD, hi, hj] using this
/-- Whether numbers are an order, by sorting. -/
theorem order_sorted {l L : List Int} (h : SortOf l L) (h1 : 1 ≤ l.length) (h8 : l.length ≤ 8) : L = rangeI l.length ↔ Order l := by
  constructor
  · intro e
    refine ⟨h1, h8, fun i hi => h.perm.mem_iff.1 ?_⟩
    rw [e]
    exact mem_rangeI.2 ⟨by omega, by omega⟩
  · intro ho
    exact List.Perm.eq_of_pairwise (fun a b _ _ h1 h2 => Int.le_antisymm h1 h2) h.pairwise (rangeI_sorted _) (h.perm.trans (order_perm ho.2.2).symm)
theorem good_spec (l : List Int) (h : Heap) (hl : l.length ≤ 9223372036854775807) : Does PP 27 [LI l] h (Is (.bool (orderB l)) h) := by
  obtain ⟨b, hb0⟩ : ∃ b, b = orderB l := ⟨_, rfl⟩
  have hbt : b = true ↔ Order l := by rw [hb0]; exact orderB_iff l
  rw [← hb0]
  refine pure0 ?_ rfl rfl h
  refine doesF P_ok Try.f27 (by kernel_rfl) (by kernel_rfl) ?_
  intro i2 c2 u1 cv mx mn ad sbt bn bq ba lnI gtI apI sbI stI rpI lnG gtG apG sbG stG rpG fi fb fs fl fg fc sln sgt sap ssb sc b2s s2b nd call calld callv callvd loop rfun fin hk
  have hlen := hk.lnI_eq l
  obtain ⟨t, ht⟩ : ∃ t, t = (decide (1 ≤ lnI l) && decide (lnI l ≤ 8)) := ⟨_, rfl⟩
  have hcount := count_spec (lnI l) []
  rw [← ht] at hcount
  have ht2 : t = true ↔ 1 ≤ l.length ∧ l.length ≤ 8 := by rw [ht, hlen]; simp; omega
  have hfirst : t = true → ∀ h, Does PP 69 [I (lnI l)] h (Is (LI (rangeI l.length)) h) := fun h h' => first_spec _ (ht2.1 h).1 (ht2.1 h).2 _ hlen h'
  have hvals := vals_spec l
  have hsorted : t = true → _ := fun h => sorted_spec l (ht2.1 h).1 (ht2.1 h).2
  have hord : t = true → ∀ L, SortOf l L → (L = rangeI l.length ↔ b = true) := fun h L hS => by rw [hbt]; exact order_sorted hS (ht2.1 h).1 (ht2.1 h).2
  have heq : t = true → ∀ L, SortOf l L → ∀ h, Does PP 66 [LI L, LI (rangeI l.length)] h (Is (.bool b) h) := fun h L hS hp => by
    have h1 := equal_spec L (rangeI l.length) hp (by have := hS.perm.length_eq; omega) (by rw [rangeI_len]; omega)
    have h2 : decide (L = rangeI l.length) = b := by rw [Bool.eq_iff_iff, decide_eq_true_eq]; exact hord h L hS
    rwa [h2] at h1
  obtain ⟨m, hm⟩ : ∃ m, m = rangeI l.length := ⟨_, rfl⟩
  rw [← hm] at hfirst heq
  have hbf : t = false → b = false := fun h => by
    rw [Bool.eq_false_iff, ne_eq, hbt]
    intro ho
    rw [ht2.2 ⟨ho.1, ho.2.1⟩] at h
    cases h
  clear hbt ht ht2 hlen hord hb0
  cbv
  refine hk.call1 hcount ?_
  cases t
  · have hb := hbf rfl
    subst hb
    cbv
    exact hk.fin1 rfl
  · have hfirst := hfirst rfl
    have hsorted := hsorted rfl
    have heq := heq rfl
    cbv
    refine hk.callI hvals fun r h ⟨e1, e2⟩ => ?_
    subst e1
    subst e2
    cbv
    refine hk.callI hsorted fun r h ⟨L, hS, e1, e2⟩ => ?_
    subst e1
    subst e2
    have heq := heq L hS
    cbv
    refine hk.call1 (hfirst _) ?_
    cbv
    refine hk.call1 (heq _) ?_
    cbv
    exact hk.fin0 rfl rfl (.refl _ _)
end Go.Proofs.Ytnnpookoencpnaa
