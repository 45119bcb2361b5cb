/-
  Contracts of functions of the program, proved over the abstract machine of the Al texts.
-/
import Derived.Test.YtnnpookoencpnaaRkG
set_option maxHeartbeats 4000000
set_option maxRecDepth 20000
set_option linter.unusedSimpArgs false
set_option linter.unusedVariables false
open Go Go.AL
namespace Go.Proofs.Ytnnpookoencpnaa
/-! ### ContainsFunc -/
def findI (g : Int → Bool) (l : List Int) : Int := match l.findIdx? g with | some i => (i : Int) | none => -1
theorem find_some {l : List Int} {g : Int → Bool} {i : Int} (h0 : 0 ≤ i) (h4 : i.toNat < l.length) (h2 : ∀ j, j < i.toNat → g (l.getD j 0) = false) (h3 : g (l.getD i.toNat 0) = true) : i = findI g l := by
  have hf : l.findIdx? g = some i.toNat := by
    rw [List.findIdx?_eq_some_iff_getElem]
    refine ⟨h4, ?_, fun j hj => ?_⟩
    · rw [List.getD_eq_getElem?_getD, List.getElem?_eq_getElem h4] at h3
      exact h3
    · have := h2 j hj
      rw [List.getD_eq_getElem?_getD, List.getElem?_eq_getElem (by omega)] at this
      simpa using this
  unfold findI
  rw [hf]
  exact (Int.toNat_of_nonneg h0).symm
theorem find_none {l : List Int} {g : Int → Bool} {i : Int} (h1 : l.length ≤ i.toNat) (h2 : ∀ j, j < i.toNat → g (l.getD j 0) = false) : -1 = findI g l := by
  have hf : l.findIdx? g = none := by
    rw [List.findIdx?_eq_none_iff]
    intro x hx
    obtain ⟨j, hj, rfl⟩ := List.mem_iff_getElem.1 hx
    have := h2 j (by omega)
    rw [List.getD_eq_getElem?_getD, List.getElem?_eq_getElem (by omega)] at this
    simpa using this
  unfold findI
  rw [hf]
theorem find_any (g : Int → Bool) (l : List Int) : decide (findI g l ≥ 0) = l.any g := by
  unfold findI
  cases h : l.findIdx? g with
  | none =>
    rw [List.findIdx?_eq_none_iff] at h
    have : l.any g = false := by rw [List.any_eq_false]; intro x hx; rw [h x hx]; simp
    rw [this]; rfl
  | some i =>
    rw [List.findIdx?_eq_some_iff_getElem] at h
    obtain ⟨h1, h2, _⟩ := h
    have : l.any g = true := List.any_eq_true.2 ⟨l[i], List.getElem_mem h1, h2⟩
    rw [this]
    simp
theorem index_spec (l : List Int) (fid : Nat) (caps : List AVal) (g : Int → Bool) (h : Heap) (hl : l.length ≤ 9223372036854775807) (hg : ∀ n, Does PP fid (.int .i64 n :: caps) h (Is (.bool (g n)) h)) :
   Does PP 98 [LI l, .clo (.func fid) [] caps] h (Is (I (findI g l)) h) := by
  obtain ⟨r, hr0⟩ : ∃ r, r = findI g l := ⟨_, rfl⟩
  rw [← hr0]
  refine doesF P_ok Try.f98 (by kernel_rfl) (by kernel_rfl) ?_
  intro i2 c2 u1 cv mx mn ad sbt bn bq ba lnI gtI apI sbI stI rpI lnG gtG apG sbG stG rpG fi fb fs fl fg fc sln sgt sap ssb sc b2s s2b nd call calld callv callvd loop rfun fin hk
  have hn := hk.lnI_nn l
  have hl := hk.lnI_le l 9223372036854775807 (by omega)
  cbv
  refine hk.loopI (loop_rule (α := Int) (fun i => [(1, .clo (.func fid) [] caps), (0, .ls (.il .i64 l) .any), (7, .int .i64 (lnI l)), (8, .int .i64 i)]) (fun i => h)
    (fun i => 0 ≤ i ∧ i ≤ lnI l ∧ ∀ j, j < i.toNat → g (l.getD j 0) = false) (fun i => (lnI l - i).toNat) 0 ⟨by omega, by omega, upto_zero⟩ ?_ ?_)
  · exact Gh.tm (by repeat (first | exact Holds.nil _ _ | refine Holds.cons (Wk.refl _ _) ?_))
  intro i ⟨hi, hi2, hi3⟩ Q' hb hx hr
  cbv
  split
  · rename_i hlt
    rw [hk.c2_lss, decide_eq_true_eq] at hlt
    refine ⟨hk.idx hi hlt, hk.call1 (hg _) ?_⟩
    cbv
    split
    · rename_i hgt
      have hgt : g (gtI l i) = true := hgt
      rw [hk.gtI_eq] at hgt
      refine hr _ ?_
      cbv
      exact hk.fin1 (congrArg _ (by rw [hr0]; exact find_some hi (hk.lt_lnI l i hi hlt) hi3 hgt))
    · rename_i hgf
      have hgf : g (gtI l i) = false := hgf
      rw [hk.gtI_eq] at hgf
      refine hb (i + 1) _ ⟨by omega, by omega, upto_step hi hi3 hgf⟩ (by omega) ?_
      refine Gh.tm ?_
      repeat' (first | exact Holds.nil _ _ | refine Holds.cons (Wk.refl _ _) ?_ | refine Holds.cons (Wk.of_eq ?_) ?_)
      all_goals first
        | (rw [← hk.add64 i 1 (by omega) (by omega)]; rfl)
        | rfl
        | skip
  · rename_i hge
    rw [hk.c2_lss, decide_eq_false_iff_not] at hge
    refine hx _ _ ?_
    cbv
    exact hk.fin1 (congrArg _ (by rw [hr0]; exact find_none (by rw [← hk.lnI_toNat l]; omega) hi3))
theorem contains_spec (l : List Int) (fid : Nat) (caps : List AVal) (g : Int → Bool) (h : Heap) (hl : l.length ≤ 9223372036854775807) (hg : ∀ n, Does PP fid (.int .i64 n :: caps) h (Is (.bool (g n)) h)) :
   Does PP 53 [LI l, .clo (.func fid) [] caps] h (Is (.bool (l.any g)) h) := by
  obtain ⟨r, hr0⟩ : ∃ r, r = findI g l := ⟨_, rfl⟩
  obtain ⟨b, hb0⟩ : ∃ b, b = l.any g := ⟨_, rfl⟩
  rw [← hb0]
  refine doesF P_ok Try.f53 (by kernel_rfl) (by kernel_rfl) ?_
  intro i2 c2 u1 cv mx mn ad sbt bn bq ba lnI gtI apI sbI stI rpI lnG gtG apG sbG stG rpG fi fb fs fl fg fc sln sgt sap ssb sc b2s s2b nd call calld callv callvd loop rfun fin hk
  cbv
  refine hk.call1 (r := .int .i64 r) (by rw [hr0]; exact index_spec l fid caps g h hl hg) ?_
  cbv
  refine hk.fin1 ?_
  show AVal.bool (c2 .geq r 0) = _
  rw [hk.c2_geq, hr0, find_any, hb0]
/-! ### Masters -/
def wrongm (ms : List Int) (m : Int) : Bool := decide (m < -1) || decide (m ≥ ms.length)
/-- The closure of right: m < -1 or m >= len(masters). -/
theorem wrongm_spec (ms : List Int) (m : Int) : Does PP 111 [I m, .ptr 0 0] [.box [LI ms]] (Is (.bool (wrongm ms m)) [.box [LI ms]]) := by
  obtain ⟨r, hr0⟩ : ∃ r, r = wrongm ms m := ⟨_, rfl⟩
  rw [← hr0]
  refine doesF P_ok Try.f111 (by kernel_rfl) (by kernel_rfl) ?_
  intro i2 c2 u1 cv mx mn ad sbt bn bq ba lnI gtI apI sbI stI rpI lnG gtG apG sbG stG rpG fi fb fs fl fg fc sln sgt sap ssb sc b2s s2b nd call calld callv callvd loop rfun fin hk
  have hr1 : r = (c2 .lss m (-1) || c2 .geq m (lnI ms)) := by rw [hr0, hk.lnI_eq, hk.c2_lss, hk.c2_geq]; rfl
  clear hr0
  cbv
  split
  · rename_i h1
    cbv
    exact hk.fin1 (congrArg _ (by rw [hr1, h1]; rfl))
  · rename_i h1
    cbv
    exact hk.fin1 (congrArg _ (by rw [hr1, h1]; rfl))
def Right (ms : List Int) : Prop := 1 ≤ ms.length ∧ ms.length ≤ 8 ∧ ∀ m ∈ ms, -1 ≤ m ∧ m < ms.length
open Classical in
noncomputable def rightB (ms : List Int) : Bool := decide (Right ms)
theorem rightB_iff (ms : List Int) : rightB ms = true ↔ Right ms := by simp [rightB]
theorem right_spec (ms : List Int) (h : Heap) (hl : ms.length ≤ 9223372036854775807) : Does PP 72 [LI ms] h (Is (.bool (rightB ms)) h) := by
  obtain ⟨r, hr0⟩ : ∃ r, r = rightB ms := ⟨_, rfl⟩
  have hrt : r = true ↔ Right ms := by rw [hr0]; exact rightB_iff ms
  rw [← hr0]
  refine pure0 ?_ rfl rfl h
  refine doesF P_ok Try.f72 (by kernel_rfl) (by kernel_rfl) ?_
  intro i2 c2 u1 cv mx mn ad sbt bn bq ba lnI gtI apI sbI stI rpI lnG gtG apG sbG stG rpG fi fb fs fl fg fc sln sgt sap ssb sc b2s s2b nd call calld callv callvd loop rfun fin hk
  obtain ⟨t, ht⟩ : ∃ t, t = (decide (1 ≤ lnI ms) && decide (lnI ms ≤ 8)) := ⟨_, rfl⟩
  have hcount := count_spec (lnI ms) [.box [LI ms]]
  rw [← ht] at hcount
  have ht2 : t = true ↔ 1 ≤ ms.length ∧ ms.length ≤ 8 := by rw [ht, hk.lnI_eq]; simp; omega
  have hcont := contains_spec ms 111 [.ptr 0 0] (wrongm ms) [.box [LI ms]] hl (wrongm_spec ms)
  obtain ⟨u, hu⟩ : ∃ u, u = ms.any (wrongm ms) := ⟨_, rfl⟩
  rw [← hu] at hcont
  have hr1 : r = (t && !u) := by
    rw [Bool.eq_iff_iff, hrt, Bool.and_eq_true, ht2, Bool.not_eq_true', hu, List.any_eq_false]
    simp only [Right, wrongm, Bool.or_eq_true, decide_eq_true_eq]
    constructor
    · rintro ⟨h1, h2, h3⟩
      exact ⟨⟨h1, h2⟩, fun x hx => by have := h3 x hx; omega⟩
    · rintro ⟨⟨h1, h2⟩, h3⟩
      exact ⟨h1, h2, fun x hx => by have := h3 x hx; omega⟩
  have hnu : bn u = !u := hk.bn_eq u
  clear hrt ht2 ht hu hr0
  cbv
  refine hk.call1 hcount ?_
  cases t
  · cbv
    exact hk.fin0 rfl rfl (Wk.of_eq (by rw [hr1]; rfl))
  · cbv
    refine hk.call1 hcont ?_
    cbv
    exact hk.fin0 rfl rfl (Wk.of_eq (by rw [hnu, hr1]; rfl))
end Go.Proofs.Ytnnpookoencpnaa
