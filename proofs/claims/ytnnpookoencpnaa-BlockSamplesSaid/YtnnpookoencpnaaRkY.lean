/-
  Contracts of functions of the program, proved over the abstract machine of the Al texts.
-/
import Derived.Test.YtnnpookoencpnaaTryTab
import Derived.Test.YtnnpookoencpnaaAl4
import Derived.Test.YtnnpookoencpnaaBase
import Derived.Test.YtnnpookoencpnaaRkX
set_option maxHeartbeats 4000000
set_option maxRecDepth 20000
set_option linter.unusedSimpArgs false
set_option linter.unusedVariables false
open Go Go.AL
namespace Go.Proofs.Ytnnpookoencpnaa
theorem Order.inj {l : List Int} (h : Order l) : ∀ i j, i < l.length → j < l.length → l.getD i 0 = l.getD j 0 → i = j := by
  have hn : l.Nodup := ((order_perm h.2.2).nodup_iff).1 (rangeI_nodup _)
  unfold List.Nodup at hn
  rw [List.pairwise_iff_getElem] at hn
  intro i j hi hj he
  rcases Nat.lt_trichotomy i j with h1 | h1 | h1
  · exact absurd (by simpa [List.getD, hi, hj] using he) (hn i j hi hj h1)
  · exact h1
  · exact absurd (by simpa [List.getD, hi, hj] using he.symm) (hn j i hj hi h1)
theorem Order.bounds {l : List Int} (h : Order l) : ∀ i, i < l.length → 0 ≤ l.getD i 0 ∧ l.getD i 0 < l.length := fun i hi => by
  have h1 : l.getD i 0 ∈ l := mem_getD.2 ⟨i, hi, rfl⟩
  exact mem_rangeI.1 ((order_perm h.2.2).mem_iff.2 h1)
theorem plc_get {l : List Int} (h : Order l) : ∀ k, k ≤ l.length → ∀ i, i < k → (plc l k).getD (l.getD i 0).toNat 0 = i
  | 0, _, i, hi => by omega
  | k + 1, hk, i, hi => by
    have hb := h.bounds k (by omega)
    have hbi := h.bounds i (by omega)
    simp only [plc, List.getD, List.getElem?_set, plc_len]
    by_cases e : i = k
    · subst e
      rw [if_pos rfl, if_pos (by simp only [List.getD] at hb; omega)]
      rfl
    · rw [if_neg (fun he => e ?_)]
      · have := plc_get h k (by omega) i (by omega)
        simpa [List.getD] using this
      · refine (h.inj k i (by omega) (by omega) ?_).symm
        simp only [List.getD] at hb hbi ⊢
        omega
theorem places_len (l : List Int) : (places l).length = l.length := plc_len l _
theorem places_order {l : List Int} (h : Order l) : Order (places l) := by
  refine ⟨by rw [places_len]; exact h.1, by rw [places_len]; exact h.2.1, fun i hi => ?_⟩
  rw [places_len] at hi
  have hb := h.bounds i hi
  exact mem_getD.2 ⟨(l.getD i 0).toNat, by rw [places_len]; omega, plc_get h l.length (Nat.le_refl _) i hi⟩
theorem places_back {l : List Int} (h : Order l) : places (places l) = l := by
  refine list_ext (by rw [places_len, places_len]) fun j hj => ?_
  rw [places_len, places_len] at hj
  have hb := h.bounds j hj
  have h1 := plc_get h l.length (Nat.le_refl _) j hj
  have h2 := plc_get (places_order h) (places l).length (Nat.le_refl _) (l.getD j 0).toNat (by rw [places_len]; omega)
  unfold places at h1 h2 ⊢
  rw [h1] at h2
  simp only [Int.toNat_natCast] at h2
  rw [h2]
  omega
set_option maxRecDepth 100000 in
theorem awake12_run : (ex PP T M (fun _ => true) 400).F 24 [] [] = some (.bool true, []) := by kernel_rfl
theorem awake12 (h : Heap) : Does PP 24 [] h (Is (.bool true) h) := pure0 (ex_does P_ok 400 awake12_run) rfl rfl h
theorem places_law (l : List Int) (hl : l.length ≤ 9223372036854775807) : Does PP 6 [LI l] [] (Is (.bool true) []) := by
  obtain ⟨b, hb0⟩ : ∃ b, b = orderB l := ⟨_, rfl⟩
  have hbt : b = true → Order l := fun h => (orderB_iff l).1 (by rw [← hb0]; exact h)
  have hgood := refGood_spec l [] hl
  rw [← hb0] at hgood
  obtain ⟨p, hp⟩ : ∃ p, p = places l := ⟨_, rfl⟩
  have h1 : b = true → Does PP 26 [LI l] [] (Is (LI p) []) := fun h => by rw [hp]; exact places_spec l [] (hbt h).2.1 (hbt h).bounds
  have hpl : p.length = l.length := by rw [hp, places_len]
  have h2 : b = true → Does PP 27 [LI p] [] (Is (.bool true) []) := fun h => by
    have := good_spec p [] (by omega)
    rwa [hp, (orderB_iff _).2 (places_order (hbt h)), ← hp] at this
  have h3 : b = true → Does PP 26 [LI p] [] (Is (LI l) []) := fun h => by
    have hb := (places_order (hbt h)).bounds
    have := places_spec p [] (by have := (hbt h).2.1; omega) (by rw [hp]; exact hb)
    rwa [hp, places_back (hbt h), ← hp] at this
  have h4 : Does PP 16 [LI l, LI l] [] (Is (.bool true) []) := by
    have := same_spec l l [] hl hl
    rwa [decide_eq_true (rfl : l = l)] at this
  refine doesF P_ok Try.f6 (by kernel_rfl) (by kernel_rfl) ?_
  intro i2 c2 u1 cv mx mn ad sbt bn bq ba lnI gtI apI sbI stI rpI lnG gtG apG sbG stG rpG fi fb fs fl fg fc sln sgt sap ssb sc b2s s2b nd call calld callv callvd loop rfun fin hk
  have hnt : bn true = false := by rw [hk.bn_eq]; rfl
  have hnf : bn false = true := by rw [hk.bn_eq]; rfl
  have hll : c2 .eql (lnI p) (lnI l) = true := by rw [hk.c2_eql, decide_eq_true_eq, hk.lnI_eq, hk.lnI_eq, hpl]
  clear hp hb0
  cbv
  refine hk.call1 (awake12 _) ?_
  cbv
  rw [hnt]
  cbv
  refine hk.call1 hgood ?_
  cases b
  · cbv
    rw [hnf]
    cbv
    refine hk.call1 (awake12 _) ?_
    cbv
    exact hk.fin1 rfl
  · have h1 := h1 rfl
    have h2 := h2 rfl
    have h3 := h3 rfl
    cbv
    rw [hnt]
    cbv
    refine hk.call1 h1 ?_
    cbv
    refine hk.call1 h2 ?_
    cbv
    rw [hll]
    cbv
    refine hk.call1 h3 ?_
    cbv
    refine hk.call1 h4 ?_
    cbv
    exact hk.fin1 rfl
end Go.Proofs.Ytnnpookoencpnaa
set_option maxHeartbeats 4000000
set_option maxRecDepth 20000
set_option linter.unusedSimpArgs false
set_option linter.unusedVariables false
open Go Go.AL
namespace Go.Proofs.Ytnnpookoencpnaa
/-! ### ContainsFunc -/
def findI (g : Int → Bool) (l : List Int) : Int := match l.findIdx? g with | some i => (i : Int) | none => -1
theorem find_some {l : List Int} {g : Int → Bool} {i : Int} (h0 : 0 ≤ i) (h4 : i.toNat < l.length) (h2 : ∀ j, j < i.toNat → g (l.getD j 0) = false) (h3 : g (l.getD i.toNat 0) = true) : i = findI g l := by
  have hf : l.findIdx? g = some i.toNat := by
    rw [List.findIdx?_eq_some_iff_getElem]
    refine ⟨h4, ?_, fun j hj => ?_⟩
    · rw [List.getD_eq_getElem?_getD, List.getElem?_eq_getElem h4] at h3
      exact h3
    · have := h2 j hj
      rw [List.getD_eq_getElem?_getD, List.getElem?_eq_getElem (by omega)] at this
      simpa using this
  unfold findI
  rw [hf]
  exact (Int.toNat_of_nonneg h0).symm
theorem find_none {l : List Int} {g : Int → Bool} {i : Int} (h1 : l.length ≤ i.toNat) (h2 : ∀ j, j < i.toNat → g (l.getD j 0) = false) : -1 = findI g l := by
  have hf : l.findIdx? g = none := by
    rw [List.findIdx?_eq_none_iff]
    intro x hx
    obtain ⟨j, hj, rfl⟩ := List.mem_iff_getElem.1 hx
    have := h2 j (by omega)
    rw [List.getD_eq_getElem?_getD, List.getElem?_eq_getElem (by omega)] at this
    simpa using this
  unfold findI
  rw [hf]
theorem find_any (g : Int → Bool) (l : List Int) : decide (findI g l ≥ 0) = l.any g := by
  unfold findI
  cases h : l.findIdx? g with
  | none =>
    rw [List.findIdx?_eq_none_iff] at h
    have : l.any g = false := by rw [List.any_eq_false]; intro x hx; rw [h x hx]; simp
    rw [this]; rfl
  | some i =>
    rw [List.findIdx?_eq_some_iff_getElem] at h
    obtain ⟨h1, h2, _⟩ := h
    have : l.any g = true := List.any_eq_true.2 ⟨l[i], List.getElem_mem h1, h2⟩
    rw [this]
    simp
theorem index_spec (l : List Int) (fid : Nat) (caps : List AVal) (g : Int → Bool) (h : Heap) (hl : l.length ≤ 9223372036854775807) (hg : ∀ n, Does PP fid (.int .i64 n :: caps) h (Is (.bool (g n)) h)) :
   Does PP 98 [LI l, .clo (.func fid) [] caps] h (Is (I (findI g l)) h) := by
  obtain ⟨r, hr0⟩ : ∃ r, r = findI g l := ⟨_, rfl⟩
  rw [← hr0]
  refine doesF P_ok Try.f98 (by kernel_rfl) (by kernel_rfl) ?_
  intro i2 c2 u1 cv mx mn ad sbt bn bq ba lnI gtI apI sbI stI rpI lnG gtG apG sbG stG rpG fi fb fs fl fg fc sln sgt sap ssb sc b2s s2b nd call calld callv callvd loop rfun fin hk
  have hn := hk.lnI_nn l
  have hl := hk.lnI_le l 9223372036854775807 (by omega)
  cbv
  refine hk.loopI (loop_rule (α := Int) (fun i => [(1, .clo (.func fid) [] caps), (0, .ls (.il .i64 l) .any), (7, .int .i64 (lnI l)), (8, .int .i64 i)]) (fun i => h)
    (fun i => 0 ≤ i ∧ i ≤ lnI l ∧ ∀ j, j < i.toNat → g (l.getD j 0) = false) (fun i => (lnI l - i).toNat) 0 ⟨by omega, by omega, upto_zero⟩ ?_ ?_)
  · exact Gh.tm (by repeat (first | exact Holds.nil _ _ | refine Holds.cons (Wk.refl _ _) ?_))
  intro i ⟨hi, hi2, hi3⟩ Q' hb hx hr
  cbv
  split
  · rename_i hlt
    rw [hk.c2_lss, decide_eq_true_eq] at hlt
    refine ⟨hk.idx hi hlt, hk.call1 (hg _) ?_⟩
    cbv
    split
    · rename_i hgt
      have hgt : g (gtI l i) = true := hgt
      rw [hk.gtI_eq] at hgt
      refine hr _ ?_
      cbv
      exact hk.fin1 (congrArg _ (by rw [hr0]; exact find_some hi (hk.lt_lnI l i hi hlt) hi3 hgt))
    · rename_i hgf
      have hgf : g (gtI l i) = false := hgf
      rw [hk.gtI_eq] at hgf
      refine hb (i + 1) _ ⟨by omega, by omega, upto_step hi hi3 hgf⟩ (by omega) ?_
      refine Gh.tm ?_
      repeat' (first | exact Holds.nil _ _ | refine Holds.cons (Wk.refl _ _) ?_ | refine Holds.cons (Wk.of_eq ?_) ?_)
      all_goals first
        | (rw [← hk.add64 i 1 (by omega) (by omega)]; rfl)
        | rfl
        | skip
  · rename_i hge
    rw [hk.c2_lss, decide_eq_false_iff_not] at hge
    refine hx _ _ ?_
    cbv
    exact hk.fin1 (congrArg _ (by rw [hr0]; exact find_none (by rw [← hk.lnI_toNat l]; omega) hi3))
theorem contains_spec (l : List Int) (fid : Nat) (caps : List AVal) (g : Int → Bool) (h : Heap) (hl : l.length ≤ 9223372036854775807) (hg : ∀ n, Does PP fid (.int .i64 n :: caps) h (Is (.bool (g n)) h)) :
   Does PP 53 [LI l, .clo (.func fid) [] caps] h (Is (.bool (l.any g)) h) := by
  obtain ⟨r, hr0⟩ : ∃ r, r = findI g l := ⟨_, rfl⟩
  obtain ⟨b, hb0⟩ : ∃ b, b = l.any g := ⟨_, rfl⟩
  rw [← hb0]
  refine doesF P_ok Try.f53 (by kernel_rfl) (by kernel_rfl) ?_
  intro i2 c2 u1 cv mx mn ad sbt bn bq ba lnI gtI apI sbI stI rpI lnG gtG apG sbG stG rpG fi fb fs fl fg fc sln sgt sap ssb sc b2s s2b nd call calld callv callvd loop rfun fin hk
  cbv
  refine hk.call1 (r := .int .i64 r) (by rw [hr0]; exact index_spec l fid caps g h hl hg) ?_
  cbv
  refine hk.fin1 ?_
  show AVal.bool (c2 .geq r 0) = _
  rw [hk.c2_geq, hr0, find_any, hb0]
/-! ### Masters -/
def wrongm (ms : List Int) (m : Int) : Bool := decide (m < -1) || decide (m ≥ ms.length)
/-- The closure of right: m < -1 or m >= len(masters). -/
theorem wrongm_spec (ms : List Int) (m : Int) : Does PP 111 [I m, .ptr 0 0] [.box [LI ms]] (Is (.bool (wrongm ms m)) [.box [LI ms]]) := by
  obtain ⟨r, hr0⟩ : ∃ r, r = wrongm ms m := ⟨_, rfl⟩
  rw [← hr0]
  refine doesF P_ok Try.f111 (by kernel_rfl) (by kernel_rfl) ?_
  intro i2 c2 u1 cv mx mn ad sbt bn bq ba lnI gtI apI sbI stI rpI lnG gtG apG sbG stG rpG fi fb fs fl fg fc sln sgt sap ssb sc b2s s2b nd call calld callv callvd loop rfun fin hk
  have hr1 : r = (c2 .lss m (-1) || c2 .geq m (lnI ms)) := by rw [hr0, hk.lnI_eq, hk.c2_lss, hk.c2_geq]; rfl
  clear hr0
  cbv
  split
  · rename_i h1
    cbv
    exact hk.fin1 (congrArg _ (by rw [hr1, h1]; rfl))
  · rename_i h1
    cbv
    exact hk.fin1 (congrArg _ (by rw [hr1, h1]; rfl))
def Right (ms : List Int) : Prop := 1 ≤ ms.length ∧ ms.length ≤ 8 ∧ ∀ m ∈ ms, -1 ≤ m ∧ m < ms.length
open Classical in
noncomputable def rightB (ms : List Int) : Bool := decide (Right ms)
theorem rightB_iff (ms : List Int) : rightB ms = true ↔ Right ms := by simp [rightB]
theorem right_spec (ms : List Int) (h : Heap) (hl : ms.length ≤ 9223372036854775807) : Does PP 72 [LI ms] h (Is (.bool (rightB ms)) h) := by
  obtain ⟨r, hr0⟩ : ∃ r, r = rightB ms := ⟨_, rfl⟩
  have hrt : r = true ↔ Right ms := by rw [hr0]; exact rightB_iff ms
  rw [← hr0]
  refine pure0 ?_ rfl rfl h
  refine doesF P_ok Try.f72 (by kernel_rfl) (by kernel_rfl) ?_
  intro i2 c2 u1 cv mx mn ad sbt bn bq ba lnI gtI apI sbI stI rpI lnG gtG apG sbG stG rpG fi fb fs fl fg fc sln sgt sap ssb sc b2s s2b nd call calld callv callvd loop rfun fin hk
  obtain ⟨t, ht⟩ : ∃ t, t = (decide (1 ≤ lnI ms) && decide (lnI ms ≤ 8)) := ⟨_, rfl⟩
  have hcount := count_spec (lnI ms) [.box [LI ms]]
  rw [← ht] at hcount
  have ht2 : t = true ↔ 1 ≤ ms.length ∧ ms.length ≤ 8 := by rw [ht, hk.lnI_eq]; simp; omega
  have hcont := contains_spec ms 111 [.ptr 0 0] (wrongm ms) [.box [LI ms]] hl (wrongm_spec ms)
  obtain ⟨u, hu⟩ : ∃ u, u = ms.any (wrongm ms) := ⟨_, rfl⟩
  rw [← hu] at hcont
  have hr1 : r = (t && !u) := by
    rw [Bool.eq_iff_iff, hrt, Bool.and_eq_true, ht2, Bool.not_eq_true', hu, List.any_eq_false]
    simp only [Right, wrongm, Bool.or_eq_true, decide_eq_true_eq]
    constructor
    · rintro ⟨h1, h2, h3⟩
      exact ⟨⟨h1, h2⟩, fun x hx => by have := h3 x hx; omega⟩
    · rintro ⟨⟨h1, h2⟩, h3⟩
      exact ⟨h1, h2, fun x hx => by have := h3 x hx; omega⟩
  have hnu : bn u = !u := hk.bn_eq u
  clear hrt ht2 ht hu hr0
  cbv
  refine hk.call1 hcount ?_
  cases t
  · cbv
    exact hk.fin0 rfl rfl (Wk.of_eq (by rw [hr1]; rfl))
  · cbv
    refine hk.call1 hcont ?_
    cbv
    exact hk.fin0 rfl rfl (Wk.of_eq (by rw [hnu, hr1]; rfl))
end Go.Proofs.Ytnnpookoencpnaa
set_option maxHeartbeats 4000000
set_option maxRecDepth 20000
set_option linter.unusedSimpArgs false
set_option linter.unusedVariables false
open Go Go.AL
namespace Go.Proofs.Ytnnpookoencpnaa
/-- A list is an order that goes with masters. -/
def GoesP (l ms : List Int) : Prop := Order l ∧ l.length = ms.length ∧ ∀ i, i < l.length → ms.getD (l.getD i 0).toNat 0 = -1 ∨ ms.getD (l.getD i 0).toNat 0 ∈ l.take i
open Classical in
noncomputable def goesB (l ms : List Int) : Bool := decide (GoesP l ms)
theorem goesB_iff (l ms : List Int) : goesB l ms = true ↔ GoesP l ms := by simp [goesB]
theorem Order.place {l : List Int} (h : Order l) (c : Int) (h0 : 0 ≤ c) (h1 : c < l.length) : ∃ i, i < l.length ∧ l.getD i 0 = c ∧ (places l).getD c.toNat 0 = i := by
  obtain ⟨i, hi, he⟩ := mem_getD.1 (h.2.2 c.toNat (by omega))
  rw [show ((c.toNat : Nat) : Int) = c by omega] at he
  refine ⟨i, hi, he, ?_⟩
  have := plc_get h l.length (Nat.le_refl _) i hi
  rwa [he] at this
theorem mem_take {l : List Int} {x : Int} {n : Nat} (hn : n ≤ l.length) : x ∈ l.take n ↔ ∃ i, i < n ∧ l.getD i 0 = x := by
  rw [mem_getD]
  constructor
  · rintro ⟨i, h1, h2⟩
    rw [List.length_take] at h1
    refine ⟨i, by omega, ?_⟩
    rw [List.getD_eq_getElem?_getD, List.getElem?_take, if_pos (by omega)] at h2
    rw [List.getD_eq_getElem?_getD]; exact h2
  · rintro ⟨i, h1, h2⟩
    refine ⟨i, by rw [List.length_take]; omega, ?_⟩
    rw [List.getD_eq_getElem?_getD, List.getElem?_take, if_pos (by omega)]
    rw [List.getD_eq_getElem?_getD] at h2; exact h2
theorem goes_alt (l ms : List Int) : GoesP l ms ↔ Order l ∧ l.length = ms.length ∧ Right ms ∧ ∀ c, c < ms.length → 0 ≤ ms.getD c 0 → (places l).getD (ms.getD c 0).toNat 0 < (places l).getD c 0 := by
  constructor
  · rintro ⟨ho, hl, hg⟩
    have key : ∀ c, c < ms.length → ∃ i, i < l.length ∧ l.getD i 0 = c ∧ (places l).getD c 0 = i := fun c hc => by
      obtain ⟨i, h1, h2, h3⟩ := ho.place c (by omega) (by omega)
      exact ⟨i, h1, h2, by simpa using h3⟩
    refine ⟨ho, hl, ⟨by have := ho.1; omega, by have := ho.2.1; omega, fun m hm => ?_⟩, fun c hc h0 => ?_⟩
    · obtain ⟨c, hc, rfl⟩ := mem_getD.1 hm
      obtain ⟨i, h1, h2, _⟩ := key c hc
      have := hg i h1
      rw [h2, Int.toNat_natCast] at this
      rcases this with h | h
      · omega
      · obtain ⟨j, hj, he⟩ := (mem_take (by omega)).1 h
        have := ho.bounds j (by omega)
        omega
    · obtain ⟨i, h1, h2, h3⟩ := key c hc
      have := hg i h1
      rw [h2, Int.toNat_natCast] at this
      rcases this with h | h
      · omega
      · obtain ⟨j, hj, he⟩ := (mem_take (by omega)).1 h
        have := plc_get ho l.length (Nat.le_refl _) j (by omega)
        rw [he] at this
        rw [h3, show (places l).getD _ 0 = _ from this]
        omega
  · rintro ⟨ho, hl, hr, hg⟩
    refine ⟨ho, hl, fun i hi => ?_⟩
    have hb := ho.bounds i hi
    have hm : ms.getD (l.getD i 0).toNat 0 ∈ ms := mem_getD.2 ⟨_, by omega, rfl⟩
    have hm2 := hr.2.2 _ hm
    by_cases h : ms.getD (l.getD i 0).toNat 0 = -1
    · exact .inl h
    · right
      have h1 := hg (l.getD i 0).toNat (by omega) (by omega)
      have h2 := plc_get ho l.length (Nat.le_refl _) i hi
      rw [show (places l).getD (l.getD i 0).toNat 0 = i from h2] at h1
      obtain ⟨j, k1, k2, k3⟩ := ho.place (ms.getD (l.getD i 0).toNat 0) (by omega) (by omega)
      rw [k3] at h1
      exact (mem_take (by omega)).2 ⟨j, by omega, k2⟩
theorem goes_spec (l ms : List Int) (h : Heap) (hl : l.length ≤ 9223372036854775807) (hm : ms.length ≤ 9223372036854775807) : Does PP 32 [LI l, LI ms] h (Is (.bool (goesB l ms)) h) := by
  have hgood := good_spec l h hl
  obtain ⟨r, hr0⟩ : ∃ r, r = goesB l ms := ⟨_, rfl⟩
  have hrt : r = true ↔ GoesP l ms := by rw [hr0]; exact goesB_iff _ _
  rw [← hr0]
  rw [goes_alt] at hrt
  obtain ⟨b, hb⟩ : ∃ b, b = orderB l := ⟨_, rfl⟩
  have hbt : b = true ↔ Order l := by rw [hb]; exact orderB_iff l
  rw [← hb] at hgood
  have hright := right_spec ms h hm
  obtain ⟨b2, hb2⟩ : ∃ b, b = rightB ms := ⟨_, rfl⟩
  have hb2t : b2 = true ↔ Right ms := by rw [hb2]; exact rightB_iff ms
  rw [← hb2] at hright
  have hpl : b = true → Does PP 26 [LI l] h (Is (LI (places l)) h) := fun h1 => places_spec l h (hbt.1 h1).2.1 (hbt.1 h1).bounds
  have hplen := places_len l
  obtain ⟨p, hp⟩ : ∃ b, b = places l := ⟨_, rfl⟩
  rw [← hp] at hpl hplen hrt
  have hms : b2 = true → ∀ c, c < ms.length → -1 ≤ ms.getD c 0 ∧ ms.getD c 0 < ms.length := fun h1 c hc => (hb2t.1 h1).2.2 _ (mem_getD.2 ⟨c, hc, rfl⟩)
  rw [← hbt, ← hb2t] at hrt
  clear hp hb2 hb hbt hb2t hr0
  refine doesF P_ok Try.f32 (by kernel_rfl) (by kernel_rfl) ?_
  intro i2 c2 u1 cv mx mn ad sbt bn bq ba lnI gtI apI sbI stI rpI lnG gtG apG sbG stG rpG fi fb fs fl fg fc sln sgt sap ssb sc b2s s2b nd call calld callv callvd loop rfun fin hk
  have hnl := hk.lnI_eq l
  have hnm := hk.lnI_eq ms
  have hnp := hk.lnI_eq p
  have hrn : lnI l ≠ lnI ms → r = false := fun h => by rw [Bool.eq_false_iff, ne_eq, hrt]; rintro ⟨_, h2, _⟩; omega
  have hall : b = true → b2 = true → lnI l = lnI ms → (r = true ↔ ∀ j, j < (lnI ms).toNat → 0 ≤ ms.getD j 0 → p.getD (ms.getD j 0).toNat 0 < p.getD j 0) := fun h1 h2 h3 => by
    rw [hrt, show (lnI ms).toNat = ms.length by omega]
    exact ⟨fun h => h.2.2.2, fun h => ⟨h1, by omega, h2, h⟩⟩
  have hms : b2 = true → ∀ i : Int, 0 ≤ i → i < lnI ms → -1 ≤ gtI ms i ∧ gtI ms i < lnI ms := fun h1 i h2 h3 => by
    rw [hk.gtI_eq, hnm]
    exact hms h1 _ (by omega)
  have hpm : lnI l = lnI ms → lnI p = lnI ms := fun h => by omega
  have hnn := hk.lnI_nn ms
  have hmx := hk.lnI_le ms 9223372036854775807 (by omega)
  have hgp := hk.gtI_eq p
  have hgm := hk.gtI_eq ms
  have hf1 : b = false → r = false := fun h => by rw [Bool.eq_false_iff, ne_eq, hrt, h]; simp
  have hf2 : b2 = false → r = false := fun h => by rw [Bool.eq_false_iff, ne_eq, hrt, h]; simp
  clear hrt hnl hnm hnp
  cbv
  refine hk.callA hgood ?_
  cases b
  · have := hf1 rfl
    subst this
    cbv
    repeat' (first
      | assumption
      | (refine hk.brLss (fun _ => ?_) (fun _ => ?_) <;> (conv => cbv))
      | (refine hk.brLeq (fun _ => ?_) (fun _ => ?_) <;> (conv => cbv))
      | (refine hk.brGtr (fun _ => ?_) (fun _ => ?_) <;> (conv => cbv))
      | (refine hk.brGeq (fun _ => ?_) (fun _ => ?_) <;> (conv => cbv))
      | (refine hk.brEql (fun _ => ?_) (fun _ => ?_) <;> (conv => cbv))
      | (refine hk.brNeq (fun _ => ?_) (fun _ => ?_) <;> (conv => cbv))
      | (refine hk.brNotT ?_; (conv => cbv))
      | (refine hk.brNotF ?_; (conv => cbv))
      | (refine hk.idxI (by first | omega | assumption) (by first | omega | assumption) ?_; (conv => cbv))
      | (refine hk.nzI (by first | omega | assumption | decide) ?_; (conv => cbv))
      | (refine hk.ge0I (by first | omega | assumption) ?_; (conv => cbv))
      | (refine hk.needI (by first | (simp only [rNd, hk.sb_eq, hk.ad_eq]; omega) | (simp [rNd, hk.sb_eq, hk.ad_eq]; omega)) ?_; (conv => cbv))
      | (refine hk.callA (by assumption) ?_; (conv => cbv))
      | (refine hk.calldA (by assumption) ?_; (conv => cbv))
      | (rw [hk.sb0]; (conv => cbv))
      | (rw [hk.ad0]; (conv => cbv))
      | exact hk.finB (by first | rfl | assumption)
      | exact hk.fin1 rfl)
  have hpl := hpl rfl
  cbv
  refine hk.brNotT ?_
  cbv
  refine hk.brNeq (fun h1 => ?_) (fun h1 => ?_)
  · have := hrn h1
    subst this
    cbv
    repeat' (first
      | assumption
      | (refine hk.brLss (fun _ => ?_) (fun _ => ?_) <;> (conv => cbv))
      | (refine hk.brLeq (fun _ => ?_) (fun _ => ?_) <;> (conv => cbv))
      | (refine hk.brGtr (fun _ => ?_) (fun _ => ?_) <;> (conv => cbv))
      | (refine hk.brGeq (fun _ => ?_) (fun _ => ?_) <;> (conv => cbv))
      | (refine hk.brEql (fun _ => ?_) (fun _ => ?_) <;> (conv => cbv))
      | (refine hk.brNeq (fun _ => ?_) (fun _ => ?_) <;> (conv => cbv))
      | (refine hk.brNotT ?_; (conv => cbv))
      | (refine hk.brNotF ?_; (conv => cbv))
      | (refine hk.idxI (by first | omega | assumption) (by first | omega | assumption) ?_; (conv => cbv))
      | (refine hk.nzI (by first | omega | assumption | decide) ?_; (conv => cbv))
      | (refine hk.ge0I (by first | omega | assumption) ?_; (conv => cbv))
      | (refine hk.needI (by first | (simp only [rNd, hk.sb_eq, hk.ad_eq]; omega) | (simp [rNd, hk.sb_eq, hk.ad_eq]; omega)) ?_; (conv => cbv))
      | (refine hk.callA (by assumption) ?_; (conv => cbv))
      | (refine hk.calldA (by assumption) ?_; (conv => cbv))
      | (rw [hk.sb0]; (conv => cbv))
      | (rw [hk.ad0]; (conv => cbv))
      | exact hk.finB (by first | rfl | assumption)
      | exact hk.fin1 rfl)
  cbv
  refine hk.callA hright ?_
  cases b2
  · have := hf2 rfl
    subst this
    cbv
    repeat' (first
      | assumption
      | (refine hk.brLss (fun _ => ?_) (fun _ => ?_) <;> (conv => cbv))
      | (refine hk.brLeq (fun _ => ?_) (fun _ => ?_) <;> (conv => cbv))
      | (refine hk.brGtr (fun _ => ?_) (fun _ => ?_) <;> (conv => cbv))
      | (refine hk.brGeq (fun _ => ?_) (fun _ => ?_) <;> (conv => cbv))
      | (refine hk.brEql (fun _ => ?_) (fun _ => ?_) <;> (conv => cbv))
      | (refine hk.brNeq (fun _ => ?_) (fun _ => ?_) <;> (conv => cbv))
      | (refine hk.brNotT ?_; (conv => cbv))
      | (refine hk.brNotF ?_; (conv => cbv))
      | (refine hk.idxI (by first | omega | assumption) (by first | omega | assumption) ?_; (conv => cbv))
      | (refine hk.nzI (by first | omega | assumption | decide) ?_; (conv => cbv))
      | (refine hk.ge0I (by first | omega | assumption) ?_; (conv => cbv))
      | (refine hk.needI (by first | (simp only [rNd, hk.sb_eq, hk.ad_eq]; omega) | (simp [rNd, hk.sb_eq, hk.ad_eq]; omega)) ?_; (conv => cbv))
      | (refine hk.callA (by assumption) ?_; (conv => cbv))
      | (refine hk.calldA (by assumption) ?_; (conv => cbv))
      | (rw [hk.sb0]; (conv => cbv))
      | (rw [hk.ad0]; (conv => cbv))
      | exact hk.finB (by first | rfl | assumption)
      | exact hk.fin1 rfl)
  have hall := hall rfl rfl h1
  have hms := hms rfl
  have hpm := hpm h1
  cbv
  repeat' (first
    | assumption
    | (refine hk.brLss (fun _ => ?_) (fun _ => ?_) <;> (conv => cbv))
    | (refine hk.brLeq (fun _ => ?_) (fun _ => ?_) <;> (conv => cbv))
    | (refine hk.brGtr (fun _ => ?_) (fun _ => ?_) <;> (conv => cbv))
    | (refine hk.brGeq (fun _ => ?_) (fun _ => ?_) <;> (conv => cbv))
    | (refine hk.brEql (fun _ => ?_) (fun _ => ?_) <;> (conv => cbv))
    | (refine hk.brNeq (fun _ => ?_) (fun _ => ?_) <;> (conv => cbv))
    | (refine hk.brNotT ?_; (conv => cbv))
    | (refine hk.brNotF ?_; (conv => cbv))
    | (refine hk.idxI (by first | omega | assumption) (by first | omega | assumption) ?_; (conv => cbv))
    | (refine hk.nzI (by first | omega | assumption | decide) ?_; (conv => cbv))
    | (refine hk.ge0I (by first | omega | assumption) ?_; (conv => cbv))
    | (refine hk.needI (by first | (simp only [rNd, hk.sb_eq, hk.ad_eq]; omega) | (simp [rNd, hk.sb_eq, hk.ad_eq]; omega)) ?_; (conv => cbv))
    | (refine hk.callA (by assumption) ?_; (conv => cbv))
    | (refine hk.calldA (by assumption) ?_; (conv => cbv))
    | (rw [hk.sb0]; (conv => cbv))
    | (rw [hk.ad0]; (conv => cbv))
    | exact hk.finB (by first | rfl | assumption)
    | exact hk.fin1 rfl)
  refine hk.loopI (loop_rule (α := Int) (fun i => [(4, .bool false), (5, .ls (.il .i64 p) .any), (25, .ls (.il .i64 ms) .any), (26, .int .i64 (lnI ms)), (27, .int .i64 i)]) (fun i => h)
      (fun i => 0 ≤ i ∧ i ≤ lnI ms ∧ ∀ j, j < i.toNat → 0 ≤ ms.getD j 0 → p.getD (ms.getD j 0).toNat 0 < p.getD j 0) (fun i => (lnI ms - i).toNat) 0 ⟨by omega, by omega, upto_zero⟩ ?_ ?_)
  · exact Gh.tm (by repeat (first | exact Holds.nil _ _ | refine Holds.cons (Wk.refl _ _) ?_))
  intro i ⟨hi, hi2, hi3⟩ Q' hb hx hr
  cbv
  refine hk.brLss (fun h2 => ?_) (fun h2 => ?_)
  · have hmi := hms i hi h2
    have hg1 := hgp i
    have hg2 := hgp (gtI ms i)
    have hg3 := hgm i
    have hil := hk.lt_lnI ms i hi h2
    refine hk.idxI hi h2 ?_
    cbv
    repeat' (first
      | assumption
      | (refine hr _ ?_; (conv => cbv))
      | (refine hk.brLss (fun _ => ?_) (fun _ => ?_) <;> (conv => cbv))
      | (refine hk.brLeq (fun _ => ?_) (fun _ => ?_) <;> (conv => cbv))
      | (refine hk.brGtr (fun _ => ?_) (fun _ => ?_) <;> (conv => cbv))
      | (refine hk.brGeq (fun _ => ?_) (fun _ => ?_) <;> (conv => cbv))
      | (refine hk.brEql (fun _ => ?_) (fun _ => ?_) <;> (conv => cbv))
      | (refine hk.brNeq (fun _ => ?_) (fun _ => ?_) <;> (conv => cbv))
      | (refine hk.brNotT ?_; (conv => cbv))
      | (refine hk.brNotF ?_; (conv => cbv))
      | (refine hk.idxI (by first | omega | assumption) (by first | omega | assumption) ?_; (conv => cbv))
      | (refine hk.nzI (by first | omega | assumption | decide) ?_; (conv => cbv))
      | (refine hk.ge0I (by first | omega | assumption) ?_; (conv => cbv))
      | (refine hk.needI (by first | (simp only [rNd, hk.sb_eq, hk.ad_eq]; omega) | (simp [rNd, hk.sb_eq, hk.ad_eq]; omega)) ?_; (conv => cbv))
      | (refine hk.callA (by assumption) ?_; (conv => cbv))
      | (refine hk.calldA (by assumption) ?_; (conv => cbv))
      | (rw [hk.sb0]; (conv => cbv))
      | (rw [hk.ad0]; (conv => cbv))
      | exact hk.finB (by first | rfl | assumption)
      | exact hk.fin1 rfl)
    · rename_i h3 h4
      have : r = false := by
        rw [Bool.eq_false_iff, ne_eq, hall]
        intro h
        have := h i.toNat (by omega)
        rw [hg1, hg2, hg3] at h4
        rw [hg3] at h3
        have := this h3
        omega
      subst this
      exact hk.finB rfl
    · rename_i h3 h4
      rw [hg1, hg2, hg3] at h4
      refine hb (i + 1) _ ⟨by omega, by omega, upto_step hi hi3 (fun _ => by omega)⟩ (by omega) ?_
      refine Gh.tm ?_
      repeat' (first | exact Holds.nil _ _ | refine Holds.cons (Wk.refl _ _) ?_ | refine Holds.cons (Wk.of_eq ?_) ?_)
      all_goals first
        | (rw [← hk.add64 i 1 (by omega) (by omega)]; rfl)
        | rfl
        | skip
    · rename_i h3
      rw [hg3] at h3
      refine hb (i + 1) _ ⟨by omega, by omega, upto_step hi hi3 (fun _ => by omega)⟩ (by omega) ?_
      refine Gh.tm ?_
      repeat' (first | exact Holds.nil _ _ | refine Holds.cons (Wk.refl _ _) ?_ | refine Holds.cons (Wk.of_eq ?_) ?_)
      all_goals first
        | (rw [← hk.add64 i 1 (by omega) (by omega)]; rfl)
        | rfl
        | skip
  · have : i = lnI ms := by omega
    subst this
    have : r = true := hall.2 hi3
    subst this
    cbv
    repeat' (first
      | assumption
      | (refine hx _ _ ?_; (conv => cbv))
      | (refine hk.brLss (fun _ => ?_) (fun _ => ?_) <;> (conv => cbv))
      | (refine hk.brLeq (fun _ => ?_) (fun _ => ?_) <;> (conv => cbv))
      | (refine hk.brGtr (fun _ => ?_) (fun _ => ?_) <;> (conv => cbv))
      | (refine hk.brGeq (fun _ => ?_) (fun _ => ?_) <;> (conv => cbv))
      | (refine hk.brEql (fun _ => ?_) (fun _ => ?_) <;> (conv => cbv))
      | (refine hk.brNeq (fun _ => ?_) (fun _ => ?_) <;> (conv => cbv))
      | (refine hk.brNotT ?_; (conv => cbv))
      | (refine hk.brNotF ?_; (conv => cbv))
      | (refine hk.idxI (by first | omega | assumption) (by first | omega | assumption) ?_; (conv => cbv))
      | (refine hk.nzI (by first | omega | assumption | decide) ?_; (conv => cbv))
      | (refine hk.ge0I (by first | omega | assumption) ?_; (conv => cbv))
      | (refine hk.needI (by first | (simp only [rNd, hk.sb_eq, hk.ad_eq]; omega) | (simp [rNd, hk.sb_eq, hk.ad_eq]; omega)) ?_; (conv => cbv))
      | (refine hk.callA (by assumption) ?_; (conv => cbv))
      | (refine hk.calldA (by assumption) ?_; (conv => cbv))
      | (rw [hk.sb0]; (conv => cbv))
      | (rw [hk.ad0]; (conv => cbv))
      | exact hk.finB (by first | rfl | assumption)
      | exact hk.fin1 rfl)
end Go.Proofs.Ytnnpookoencpnaa
set_option maxHeartbeats 4000000
set_option maxRecDepth 20000
set_option linter.unusedSimpArgs false
set_option linter.unusedVariables false
open Go Go.AL
namespace Go.Proofs.Ytnnpookoencpnaa
theorem del_list (l : List Int) (n m m1 : Int) (h1 : m1 = m + 1) (h0 : 0 ≤ m) (hm : m < n) (hn : n ≤ l.length) :
    ((rSub l 0 m ++ rSub (rSub l m1 n) 0 (n - m1)) ++ rSub l (n - 1) l.length).length = l.length ∧ (((rSub l 0 m ++ rSub (rSub l m1 n) 0 (n - m1)) ++ rSub l (n - 1) l.length)).take (n - 1).toNat = (l.take n.toNat).eraseIdx m.toNat := by
  subst h1
  have e1 : rSub l 0 m = l.take m.toNat := by simp [rSub]
  have e2 : rSub (rSub l (m + 1) n) 0 (n - (m + 1)) = (l.take n.toNat).drop (m.toNat + 1) := by
    simp only [rSub, Int.toNat_zero, List.drop_zero, Int.sub_zero]
    rw [List.take_take, Nat.min_self, List.drop_take]
    congr 1
    · omega
    · congr 1
      omega
  have e3 : (l.take m.toNat).length = m.toNat := by rw [List.length_take]; omega
  have e4 : ((l.take n.toNat).drop (m.toNat + 1)).length = n.toNat - (m.toNat + 1) := by rw [List.length_drop, List.length_take]; omega
  have e5 : (rSub l (n - 1) l.length).length = l.length - (n - 1).toNat := by simp only [rSub, List.length_take, List.length_drop]; omega
  rw [e1, e2]
  refine ⟨by simp only [List.length_append, e3, e4, e5]; omega, ?_⟩
  rw [List.take_append_of_le_length (by simp only [List.length_append, e3, e4]; omega), List.take_of_length_le (by simp only [List.length_append, e3, e4]; omega)]
  rw [List.eraseIdx_eq_take_drop_succ, List.take_take, Nat.min_eq_left (by omega)]
theorem delete_spec (l : List Int) (g : Nat) (n m m1 n1 : Int) (h1 : m1 = m + 1) (h0 : 0 ≤ m) (hm : m < n) (hn : n ≤ l.length) (hn1 : n1 = n - 1) (hlen : l.length ≤ 1000) : Does PP 70 [.sl 0 g 0 n, I m, I m1] [.rw g (.il .i64 l)]
    (fun r h' => ∃ L, L.length = l.length ∧ L.take n1.toNat = (l.take n.toNat).eraseIdx m.toNat ∧ r = .sl 0 g 0 n1 ∧ h' = [.rw g (.il .i64 L)]) := by
  have hdl := del_list l n m m1 h1 h0 hm hn
  obtain ⟨A, hA⟩ : ∃ A, A = ((rSub l 0 m ++ rSub (rSub l m1 n) 0 (n - m1)) ++ rSub l (n - 1) l.length) := ⟨_, rfl⟩
  rw [← hA, ← hn1] at hdl
  refine doesF P_ok Try.f70 (by kernel_rfl) (by kernel_rfl) ?_
  intro i2 c2 u1 cv mx mn ad sbt bn bq ba lnI gtI apI sbI stI rpI lnG gtG apG sbG stG rpG fi fb fs fl fg fc sln sgt sap ssb sc b2s s2b nd call calld callv callvd loop rfun fin hk
  have hbq : Nat.beq g g = true := Nat.beq_refl g
  have hnl := hk.lnI_eq l
  have hsb : ∀ l a b, sbI l a b = rSub l a b := fun l a b => by rw [hk.sbI_eq]; rfl
  obtain ⟨k, hk0⟩ : ∃ k, k = n - m1 := ⟨_, rfl⟩
  have e1 : lnI (sbI l m1 n) = k := by rw [hk.lnI_eq, hsb]; simp only [rSub, List.length_take, List.length_drop]; omega
  have e2 : ad m k = n1 := by rw [hk.ad_eq]; omega
  have e3 : apI (apI (sbI l 0 m) (sbI (sbI l m1 n) 0 k)) (sbI l n1 (lnI l)) = A := by
    rw [hk.apI_eq, hk.apI_eq, hsb, hsb, hsb, hsb, hA, hnl, hn1, hk0]
  have hAn : lnI A = lnI l := by rw [hk.lnI_eq, hk.lnI_eq, hdl.1]
  have hnl2 : n ≤ lnI l := by omega
  obtain ⟨B, hB⟩ : ∃ B, B = apI (apI (sbI A 0 n1) (sbI (rpI (sbt n n1) 0) 0 (sbt n n1))) (sbI A (ad n1 (sbt n n1)) (lnI A)) := ⟨_, rfl⟩
  have hB2 : B = (A.take n1.toNat ++ rSub (rpI (n - n1) 0) 0 (n - n1)) ++ rSub A n l.length := by
    rw [hB, hAn, hnl, hk.apI_eq, hk.apI_eq, hsb, hsb, hsb, hk.sb_eq, hk.ad_eq, show n1 + (n - n1) = n by omega]
    simp [rSub]
  have h3 : (rSub (rpI (n - n1) 0) 0 (n - n1)).length = (n - n1).toNat := by rw [hk.rpI_eq]; simp [rSub]
  have hAl := hdl.1
  have hBl : B.length = l.length := by
    rw [hB2]
    have h4 : (rSub A n l.length).length = l.length - n.toNat := by simp only [rSub, List.length_take, List.length_drop]; omega
    simp only [List.length_append, h3, List.length_take, h4]
    omega
  have hBt : B.take n1.toNat = (l.take n.toNat).eraseIdx m.toNat := by
    rw [hB2, List.append_assoc, List.take_append_of_le_length (by rw [List.length_take]; omega), List.take_take, Nat.min_self]
    exact hdl.2
  have hnd : nd (.bnd m n1 (lnI l)) := hk.ndI ⟨by omega, by omega, by omega⟩
  have hnd2 : nd (.bnd n1 n (lnI l)) := hk.ndI ⟨by omega, by omega, by omega⟩
  clear hn hnl hA hsb hdl hB2 hAl h3
  obtain ⟨R, hR⟩ : ∃ R : AVal → Heap → Prop, R = (fun r h' => ∃ L, L.length = l.length ∧ L.take n1.toNat = (l.take n.toNat).eraseIdx m.toNat ∧ r = .sl 0 g 0 n1 ∧ h' = [.rw g (.il .i64 L)]) := ⟨_, rfl⟩
  rw [← hR]
  cbv at hbq
  cbv
  repeat' (first
    | assumption
    | (rw [hbq]; (conv => cbv))
    | (refine hk.brLss (fun _ => ?_) (fun _ => ?_) <;> (conv => cbv))
    | (refine hk.brLeq (fun _ => ?_) (fun _ => ?_) <;> (conv => cbv))
    | (refine hk.brGtr (fun _ => ?_) (fun _ => ?_) <;> (conv => cbv))
    | (refine hk.brGeq (fun _ => ?_) (fun _ => ?_) <;> (conv => cbv))
    | (refine hk.brEql (fun _ => ?_) (fun _ => ?_) <;> (conv => cbv))
    | (refine hk.brNeq (fun _ => ?_) (fun _ => ?_) <;> (conv => cbv))
    | (refine hk.brNotT ?_; (conv => cbv))
    | (refine hk.brNotF ?_; (conv => cbv))
    | (refine hk.idxI (by first | omega | assumption) (by first | omega | assumption) ?_; (conv => cbv))
    | (refine hk.nzI (by first | omega | assumption | decide) ?_; (conv => cbv))
    | (refine hk.ge0I (by first | omega | assumption) ?_; (conv => cbv))
    | (refine hk.needI (by first | (simp only [rNd, hk.sb_eq, hk.ad_eq]; omega) | (simp [rNd, hk.sb_eq, hk.ad_eq]; omega)) ?_; (conv => cbv))
    | (refine hk.callA (by assumption) ?_; (conv => cbv))
    | (refine hk.calldA (by assumption) ?_; (conv => cbv))
    | (rw [hk.sb0]; (conv => cbv))
    | (rw [hk.ad0]; (conv => cbv))
    | exact hk.finB (by first | rfl | assumption)
    | exact hk.fin1 rfl)
  · rename_i h; exfalso; omega
  · rw [e1, e2, e3, hAn]
    refine ⟨hnd2, hk.finI (fin_same ?_)⟩
    rw [hR]
    exact ⟨B, hBl, hBt, rfl, by rw [hB, hAn]⟩
/-- How many of the first ones are less: what a search by halves finds. -/
def IsAt (l : List Int) (c : Int) (i : Int) : Prop := 0 ≤ i ∧ i ≤ l.length ∧ (∀ j, j < i.toNat → l.getD j 0 < c) ∧ ∀ j, i.toNat ≤ j → j < l.length → c ≤ l.getD j 0
theorem mid_eq (i j : Int) (h0 : 0 ≤ i) (h1 : i ≤ j) (h2 : j ≤ 4611686018427387903) : IntKind.wrap .i64 (rI2 .shr .u64 (IntKind.wrap .u64 (IntKind.wrap .i64 (i + j))) 1) = (i + j) / 2 := by
  rw [show IntKind.wrap .i64 (i + j) = i + j from wrap64 (by omega) (by omega), show IntKind.wrap .u64 (i + j) = i + j from wrap_u64 _ (by omega) (by omega)]
  show IntKind.wrap .i64 ((i + j).fdiv (2 ^ (min (1 : Int).toNat 64))) = _
  rw [show min (1 : Int).toNat 64 = 1 by decide, Int.fdiv_eq_ediv_of_nonneg _ (by decide), show (2 : Int) ^ 1 = 2 by decide]
  exact wrap64 (by omega) (by omega)
theorem nan110_spec (n : Int) (h : Heap) : Does PP 110 [I n] h (Is (.bool false) h) := by
  refine doesF P_ok Try.f110 (by kernel_rfl) (by kernel_rfl) ?_
  intro i2 c2 u1 cv mx mn ad sbt bn bq ba lnI gtI apI sbI stI rpI lnG gtG apG sbG stG rpG fi fb fs fl fg fc sln sgt sap ssb sc b2s s2b nd call calld callv callvd loop rfun fin hk
  cbv
  exact hk.fin1 (congrArg _ (by rw [hk.c2_neq]; simp))
theorem bsearch_spec (l : List Int) (c : Int) (g : Nat) (n : Int) (hn : 0 ≤ n) (hn2 : n ≤ l.length) (hn8 : n ≤ 8) (hs : ∀ a b, a < b → b < n.toNat → l.getD a 0 ≤ l.getD b 0) :
    Does PP 71 [.sl 0 g 0 n, I c] [.rw g (.il .i64 l)] (fun r h' => ∃ i b, IsAt (l.take n.toNat) c i ∧ r = .tup [I i, .bool b] ∧ h' = [.rw g (.il .i64 l)]) := by
  obtain ⟨R, hR⟩ : ∃ R : AVal → Heap → Prop, R = (fun r h' => ∃ i b, IsAt (l.take n.toNat) c i ∧ r = .tup [I i, .bool b] ∧ h' = [.rw g (.il .i64 l)]) := ⟨_, rfl⟩
  rw [← hR]
  have hs' : ∀ a b, a ≤ b → b < n.toNat → l.getD a 0 ≤ l.getD b 0 := fun a b h1 h2 => by
    rcases Nat.lt_or_eq_of_le h1 with h | h
    · exact hs a b h h2
    · rw [h]; omega
  have htg : ∀ k, k < n.toNat → (l.take n.toNat).getD k 0 = l.getD k 0 := fun k h => by rw [List.getD_eq_getElem?_getD, List.getElem?_take, if_pos h, List.getD_eq_getElem?_getD]
  have hatI : ∀ i, 0 ≤ i → i ≤ n → (∀ j, j < i.toNat → l.getD j 0 < c) → (∀ j, i.toNat ≤ j → j < n.toNat → c ≤ l.getD j 0) → IsAt (l.take n.toNat) c i := fun i h1 h2 h3 h4 => by
    refine ⟨h1, by rw [List.length_take]; omega, fun j hj => by rw [htg j (by omega)]; exact h3 j hj, fun j h5 h6 => ?_⟩
    rw [List.length_take] at h6
    rw [htg j (by omega)]; exact h4 j h5 (by omega)
  have hless := fun a b => less_spec a b [.rw g (.il .i64 l)]
  obtain ⟨lf, hlf⟩ : ∃ lf : Int → Int → Bool, ∀ a b, lf a b = decide (a < b) := ⟨_, fun _ _ => rfl⟩
  have hless : ∀ a b, Does PP 109 [I a, I b] [.rw g (.il .i64 l)] (Is (.bool (lf a b)) [.rw g (.il .i64 l)]) := fun a b => by rw [hlf]; exact hless a b
  refine doesF P_ok Try.f71 (by kernel_rfl) (by kernel_rfl) ?_
  intro i2 c2 u1 cv mx mn ad sbt bn bq ba lnI gtI apI sbI stI rpI lnG gtG apG sbG stG rpG fi fb fs fl fg fc sln sgt sap ssb sc b2s s2b nd call calld callv callvd loop rfun fin hk
  have hbq : Nat.beq g g = true := Nat.beq_refl g
  have hgl := hk.gtI_eq l
  have hnl := hk.lnI_eq l
  have hnl2 : n ≤ lnI l := by omega
  clear hnl
  cbv at hbq
  cbv
  repeat' (first
    | assumption
    | (rw [hbq]; (conv => cbv))
    | (refine hk.brLss (fun _ => ?_) (fun _ => ?_) <;> (conv => cbv))
    | (refine hk.brLeq (fun _ => ?_) (fun _ => ?_) <;> (conv => cbv))
    | (refine hk.brGtr (fun _ => ?_) (fun _ => ?_) <;> (conv => cbv))
    | (refine hk.brGeq (fun _ => ?_) (fun _ => ?_) <;> (conv => cbv))
    | (refine hk.brEql (fun _ => ?_) (fun _ => ?_) <;> (conv => cbv))
    | (refine hk.brNeq (fun _ => ?_) (fun _ => ?_) <;> (conv => cbv))
    | (refine hk.brNotT ?_; (conv => cbv))
    | (refine hk.brNotF ?_; (conv => cbv))
    | (refine hk.idxI (by first | omega | assumption) (by first | omega | assumption) ?_; (conv => cbv))
    | (refine hk.nzI (by first | omega | assumption | decide) ?_; (conv => cbv))
    | (refine hk.ge0I (by first | omega | assumption) ?_; (conv => cbv))
    | (refine hk.needI (by first | (simp only [rNd, hk.sb_eq, hk.ad_eq]; omega) | (simp [rNd, hk.sb_eq, hk.ad_eq]; omega)) ?_; (conv => cbv))
    | (refine hk.callA (by assumption) ?_; (conv => cbv))
    | (refine hk.calldA (by assumption) ?_; (conv => cbv))
    | (rw [hk.sb0]; (conv => cbv))
    | (rw [hk.ad0]; (conv => cbv))
    | exact hk.finB (by first | rfl | assumption)
    | exact hk.fin1 rfl)
  refine hk.loopI (loop_rule (α := Int × Int) (fun x => [(0, .sl 0 g 0 n), (1, .int .i64 c), (5, .bool false), (6, .int .i64 n), (7, .int .i64 x.1), (8, .int .i64 x.2)]) (fun _ => [.rw g (.il .i64 l)])
    (fun x => 0 ≤ x.1 ∧ x.1 ≤ x.2 ∧ x.2 ≤ n ∧ (∀ j, j < x.1.toNat → l.getD j 0 < c) ∧ ∀ j, x.2.toNat ≤ j → j < n.toNat → c ≤ l.getD j 0) (fun x => (x.2 - x.1).toNat) (0, n) ⟨by omega, by omega, by omega, fun j hj => by simp at hj, fun j h1 h2 => by simp only at h1; omega⟩ ?_ ?_)
  · exact Gh.tm (by repeat (first | exact Holds.nil _ _ | refine Holds.cons (Wk.refl _ _) ?_))
  intro ⟨i, j⟩ ⟨hi, hij, hj, hlo, hhi⟩ Q' hb hx hr
  simp only at hi hij hj hlo hhi
  obtain ⟨m, hm⟩ : ∃ m, m = (i + j) / 2 := ⟨_, rfl⟩
  have hmid : cv .i64 (i2 .shr .u64 (cv .u64 (i2 .add .i64 i j)) 1) = m := by
    rw [hk.cv_eq, hk.cv_eq, hk.i2_eq, hm]
    exact mid_eq i j hi hij (by omega)
  obtain ⟨m1, hm1⟩ : ∃ m1, m1 = m + 1 := ⟨_, rfl⟩
  have hadd : i2 .add .i64 m 1 = m1 := by rw [hm1]; exact hk.add64 _ _ (by omega) (by omega)
  have hmm : i < j → i ≤ m ∧ m < j := fun h => by omega
  clear hm
  cbv
  refine hk.brLss (fun h1 => ?_) (fun h1 => ?_)
  · obtain ⟨hm0, hm2⟩ := hmm h1
    cbv
    repeat (rw [hbq]; cbv)
    rw [hmid]
    repeat' (first
      | assumption
      | (rw [hbq]; (conv => cbv))
      | (refine hk.brLss (fun _ => ?_) (fun _ => ?_) <;> (conv => cbv))
      | (refine hk.brLeq (fun _ => ?_) (fun _ => ?_) <;> (conv => cbv))
      | (refine hk.brGtr (fun _ => ?_) (fun _ => ?_) <;> (conv => cbv))
      | (refine hk.brGeq (fun _ => ?_) (fun _ => ?_) <;> (conv => cbv))
      | (refine hk.brEql (fun _ => ?_) (fun _ => ?_) <;> (conv => cbv))
      | (refine hk.brNeq (fun _ => ?_) (fun _ => ?_) <;> (conv => cbv))
      | (refine hk.brNotT ?_; (conv => cbv))
      | (refine hk.brNotF ?_; (conv => cbv))
      | (refine hk.idxI (by first | omega | assumption) (by first | omega | assumption) ?_; (conv => cbv))
      | (refine hk.nzI (by first | omega | assumption | decide) ?_; (conv => cbv))
      | (refine hk.ge0I (by first | omega | assumption) ?_; (conv => cbv))
      | (refine hk.needI (by first | (simp only [rNd, hk.sb_eq, hk.ad_eq]; omega) | (simp [rNd, hk.sb_eq, hk.ad_eq]; omega)) ?_; (conv => cbv))
      | (refine hk.callA (by assumption) ?_; (conv => cbv))
      | (refine hk.calldA (by assumption) ?_; (conv => cbv))
      | (rw [hk.sb0]; (conv => cbv))
      | (rw [hk.ad0]; (conv => cbv))
      | exact hk.finB (by first | rfl | assumption)
      | exact hk.fin1 rfl)
    refine hk.callA (hless _ _) ?_
    obtain ⟨t, ht⟩ : ∃ t, t = lf (gtI l m) c := ⟨_, rfl⟩
    rw [← ht]
    rw [hlf, hgl] at ht
    cases t
    · have ht := of_decide_eq_false ht.symm
      cbv
      refine hb (i, m) _ ⟨by simp only; omega, by simp only; omega, by simp only; omega, hlo, fun k h3 h4 => ?_⟩ (by simp only; omega) ?_
      · simp only at h3
        have := hs' m.toNat k h3 h4
        omega
      refine Gh.tm ?_
      repeat' (first | exact Holds.nil _ _ | refine Holds.cons (Wk.refl _ _) ?_ | refine Holds.cons (Wk.of_eq ?_) ?_)
    · have ht := of_decide_eq_true ht.symm
      cbv
      rw [hadd]
      refine hb (m1, j) _ ⟨by simp only; omega, by simp only; omega, by simp only; omega, fun k h3 => ?_, hhi⟩ (by simp only; omega) ?_
      · simp only at h3
        have := hs' k m.toNat (by omega) (by omega)
        omega
      refine Gh.tm ?_
      repeat' (first | exact Holds.nil _ _ | refine Holds.cons (Wk.refl _ _) ?_ | refine Holds.cons (Wk.of_eq ?_) ?_)
  · have hij2 : i = j := by omega
    subst hij2
    have hat := hatI i hi hj hlo hhi
    refine hx _ _ ?_
    cbv
    repeat' (first
      | assumption
      | (rw [hbq]; (conv => cbv))
      | (refine hk.callA (nan110_spec _ _) ?_; (conv => cbv))
      | (refine hk.brLss (fun _ => ?_) (fun _ => ?_) <;> (conv => cbv))
      | (refine hk.brLeq (fun _ => ?_) (fun _ => ?_) <;> (conv => cbv))
      | (refine hk.brGtr (fun _ => ?_) (fun _ => ?_) <;> (conv => cbv))
      | (refine hk.brGeq (fun _ => ?_) (fun _ => ?_) <;> (conv => cbv))
      | (refine hk.brEql (fun _ => ?_) (fun _ => ?_) <;> (conv => cbv))
      | (refine hk.brNeq (fun _ => ?_) (fun _ => ?_) <;> (conv => cbv))
      | (refine hk.brNotT ?_; (conv => cbv))
      | (refine hk.brNotF ?_; (conv => cbv))
      | (refine hk.idxI (by first | omega | assumption) (by first | omega | assumption) ?_; (conv => cbv))
      | (refine hk.nzI (by first | omega | assumption | decide) ?_; (conv => cbv))
      | (refine hk.ge0I (by first | omega | assumption) ?_; (conv => cbv))
      | (refine hk.needI (by first | (simp only [rNd, hk.sb_eq, hk.ad_eq]; omega) | (simp [rNd, hk.sb_eq, hk.ad_eq]; omega)) ?_; (conv => cbv))
      | (refine hk.callA (by assumption) ?_; (conv => cbv))
      | (refine hk.calldA (by assumption) ?_; (conv => cbv))
      | (rw [hk.sb0]; (conv => cbv))
      | (rw [hk.ad0]; (conv => cbv))
      | exact hk.finB (by first | rfl | assumption)
      | exact hk.fin1 rfl)
    all_goals exact hk.finI (fin_same (by rw [hR]; exact ⟨i, _, hat, rfl, rfl⟩))
end Go.Proofs.Ytnnpookoencpnaa
set_option maxHeartbeats 4000000
set_option maxRecDepth 20000
set_option linter.unusedSimpArgs false
set_option linter.unusedVariables false
open Go Go.AL
namespace Go.Proofs.Ytnnpookoencpnaa
/-- A run's result that is a row of numbers behind a token. -/
def isRow (n : Nat) : Option (AVal × Heap) → Bool
  | some (.sl 1 g 0 k, .tok 0 :: .rw g' (.il .i64 l) :: r) => intsB l (rangeI n) && g == n && g' == n && k == n
  | _ => false
theorem isRow_ok {n : Nat} {x : Option (AVal × Heap)} (h : isRow n x = true) : ∃ r, x = some (.sl 1 n 0 n, .tok 0 :: .rw n (.il .i64 (rangeI n)) :: r) := by
  unfold isRow at h
  split at h
  · rename_i g k g' l r
    simp only [Bool.and_eq_true, beq_iff_eq] at h
    obtain ⟨⟨⟨h1, h2⟩, h3⟩, h4⟩ := h
    rw [intsB_eq h1, h2, h3, h4]
    exact ⟨r, rfl⟩
  · cases h
theorem firstR_run : ∀ n : Nat, 1 ≤ n → n ≤ 8 → isRow n ((ex PP T M (fun _ => true) 60).F 69 [I n] []) = true
  | 1, _, _ => by kernel_rfl
  | 2, _, _ => by kernel_rfl
  | 3, _, _ => by kernel_rfl
  | 4, _, _ => by kernel_rfl
  | 5, _, _ => by kernel_rfl
  | 6, _, _ => by kernel_rfl
  | 7, _, _ => by kernel_rfl
  | 8, _, _ => by kernel_rfl
  | n + 9, _, h => by omega
theorem firstR_spec (n : Nat) (h1 : 1 ≤ n) (h8 : n ≤ 8) (z : Int) (hz : z = n) : Does PP 69 [I z] [] (Is (.sl 1 n 0 z) [.tok 0, .rw n (.il .i64 (rangeI n))]) := by
  obtain ⟨r, he⟩ := isRow_ok (firstR_run n h1 h8)
  subst hz
  exact (ex_does P_ok 60 he).fin fun r h2 ⟨e1, e2⟩ => by
    subst e1
    subst e2
    exact fin_lowN 2 (Nat.zero_le _) (.refl _ _) rfl rfl ⟨rfl, rfl⟩
def ofGo : List Int → List Int → Option (List Int)
  | _, [] => some []
  | S, m :: ms => if 0 ≤ m ∧ m < S.length then (ofGo (S.eraseIdx m.toNat) ms).map (S.getD m.toNat 0 :: ·) else none
theorem ofGo_step (S ms out : List Int) (i : Nat) (hi : i < ms.length) : (ofGo S (ms.drop i)).map (out ++ ·) = if 0 ≤ ms.getD i 0 ∧ ms.getD i 0 < S.length then (ofGo (S.eraseIdx (ms.getD i 0).toNat) (ms.drop (i + 1))).map ((out ++ [S.getD (ms.getD i 0).toNat 0]) ++ ·) else none := by
  rw [List.drop_eq_getElem_cons hi]
  have : ms[i] = ms.getD i 0 := by simp [List.getD, hi]
  rw [this]
  simp only [ofGo]
  split
  · rw [Option.map_map]
    congr 1
    funext x
    simp
  · rfl
theorem of_spec (ms : List Int) (n : Nat) (z : Int) (hz : z = n) (hn : n = ms.length) (h8 : n ≤ 8) (h1 : 1 ≤ n) (rl : List Int) (re : Int)
    (hsome : ∀ x, ofGo (rangeI n) ms = some x → rl = x ∧ re = 0) (hnone : ofGo (rangeI n) ms = none → rl = [] ∧ re = 11) : Does PP 28 [LI ms] [] (Is (.tup [LI rl, .int .i64 re]) []) := by
  have hzn : z.toNat = n := by omega
  have hz0 : 0 ≤ z := by omega
  have hf := firstR_spec n h1 h8 z hz
  have hc := count_spec z []
  have : (decide (1 ≤ z) && decide (z ≤ 8)) = true := by simp; omega
  rw [this] at hc
  have hdel : ∀ (L : List Int) (nn m m1 n1 : Int), m1 = m + 1 → 0 ≤ m → m < nn → nn ≤ L.length → n1 = nn - 1 → L.length ≤ 1000 → Does PP 70 [.sl 1 n 0 nn, I m, I m1] [.tok 0, .rw n (.il .i64 L), .tok 1, .tok 0]
      (fun r h' => ∃ K, K.length = L.length ∧ K.take n1.toNat = (L.take nn.toNat).eraseIdx m.toNat ∧ r = .sl 1 n 0 n1 ∧ h' = [.tok 0, .rw n (.il .i64 K), .tok 1, .tok 0]) := fun L nn m m1 n1 a1 a2 a3 a4 a5 a6 => by
    refine ((delete_spec L n nn m m1 n1 a1 a2 a3 a4 a5 a6).ren [1] [.tok 0, .rw n (.il .i64 L), .tok 1, .tok 0] rfl (by decide) (fun x hx => by rw [List.mem_singleton.1 hx]; show 1 < 4; decide) (by repeat (first | exact trivial | refine ⟨rfl, ?_⟩)) rfl rfl (fun r h ⟨K, h1, h2, h3, h4⟩ => by subst h3; subst h4; rfl)).mono ?_
    rintro r h ⟨r2, h2, ⟨K, k1, k2, k3, k4⟩, k5, k6⟩
    subst k3
    subst k4
    exact ⟨K, k1, k2, k5, k6⟩
  obtain ⟨r, hr⟩ : ∃ r, r = rangeI n := ⟨_, rfl⟩
  have hrl : r.length = n := by rw [hr, rangeI_len]
  rw [← hr] at hf hsome hnone
  obtain ⟨res, hres⟩ : ∃ x, x = ofGo r ms := ⟨_, rfl⟩
  rw [← hres] at hsome hnone
  refine doesF P_ok Try.f28 (by kernel_rfl) (by kernel_rfl) ?_
  intro i2 c2 u1 cv mx mn ad sbt bn bq ba lnI gtI apI sbI stI rpI lnG gtG apG sbG stG rpG fi fb fs fl fg fc sln sgt sap ssb sc b2s s2b nd call calld callv callvd loop rfun fin hk
  have hln : lnI ms = z := by rw [hk.lnI_eq]; omega
  have hgm := hk.gtI_eq ms
  have hz8 : z ≤ 8 := by omega
  have hz1 : 1 ≤ z := by omega
  have hmn : ∀ i : Int, 0 ≤ i → i < z → i.toNat < ms.length := fun i h1 h2 => by omega
  have hend : ∀ i : Int, i = z → ms.drop i.toNat = [] := fun i h => by rw [List.drop_eq_nil_iff]; omega
  have hrt : r.take z.toNat = r := by rw [List.take_of_length_le (by omega)]
  clear hn hr
  (conv => cbv)
  rw [hln]
  repeat' (first
    | assumption
    | (refine hk.brLss (fun _ => ?_) (fun _ => ?_) <;> (conv => cbv))
    | (refine hk.brLeq (fun _ => ?_) (fun _ => ?_) <;> (conv => cbv))
    | (refine hk.brGtr (fun _ => ?_) (fun _ => ?_) <;> (conv => cbv))
    | (refine hk.brGeq (fun _ => ?_) (fun _ => ?_) <;> (conv => cbv))
    | (refine hk.brEql (fun _ => ?_) (fun _ => ?_) <;> (conv => cbv))
    | (refine hk.brNeq (fun _ => ?_) (fun _ => ?_) <;> (conv => cbv))
    | (refine hk.brNotT ?_; (conv => cbv))
    | (refine hk.brNotF ?_; (conv => cbv))
    | (refine hk.idxI (by first | omega | assumption) (by first | omega | assumption) ?_; (conv => cbv))
    | (refine hk.nzI (by first | omega | assumption | decide) ?_; (conv => cbv))
    | (refine hk.ge0I (by first | omega | assumption) ?_; (conv => cbv))
    | (refine hk.needI (by first | (simp only [rNd, hk.sb_eq, hk.ad_eq]; omega) | (simp [rNd, hk.sb_eq, hk.ad_eq]; omega)) ?_; (conv => cbv))
    | (refine hk.callA (by assumption) ?_; (conv => cbv))
    | (refine hk.calldA (by assumption) ?_; (conv => cbv))
    | (rw [hk.sb0]; (conv => cbv))
    | (rw [hk.ad0]; (conv => cbv))
    | exact hk.finB (by first | rfl | assumption)
    | exact hk.fin1 rfl)
  rw [hln]
  repeat' (first
    | assumption
    | (refine hk.brLss (fun _ => ?_) (fun _ => ?_) <;> (conv => cbv))
    | (refine hk.brLeq (fun _ => ?_) (fun _ => ?_) <;> (conv => cbv))
    | (refine hk.brGtr (fun _ => ?_) (fun _ => ?_) <;> (conv => cbv))
    | (refine hk.brGeq (fun _ => ?_) (fun _ => ?_) <;> (conv => cbv))
    | (refine hk.brEql (fun _ => ?_) (fun _ => ?_) <;> (conv => cbv))
    | (refine hk.brNeq (fun _ => ?_) (fun _ => ?_) <;> (conv => cbv))
    | (refine hk.brNotT ?_; (conv => cbv))
    | (refine hk.brNotF ?_; (conv => cbv))
    | (refine hk.idxI (by first | omega | assumption) (by first | omega | assumption) ?_; (conv => cbv))
    | (refine hk.nzI (by first | omega | assumption | decide) ?_; (conv => cbv))
    | (refine hk.ge0I (by first | omega | assumption) ?_; (conv => cbv))
    | (refine hk.needI (by first | (simp only [rNd, hk.sb_eq, hk.ad_eq]; omega) | (simp [rNd, hk.sb_eq, hk.ad_eq]; omega)) ?_; (conv => cbv))
    | (refine hk.callA (by assumption) ?_; (conv => cbv))
    | (refine hk.calldA (by assumption) ?_; (conv => cbv))
    | (rw [hk.sb0]; (conv => cbv))
    | (rw [hk.ad0]; (conv => cbv))
    | exact hk.finB (by first | rfl | assumption)
    | exact hk.fin1 rfl)
  rw [hln]
  refine hk.loopI (loop_rule (α := Int × List Int × Int × List Int) (fun x => [(2, .ls .nl .nil), (3, .int .i64 0), (4, .sl 1 n 0 x.2.2.1), (5, .ls (.il .i64 x.2.2.2) (.tok 2 0)), (15, .ls (.il .i64 ms) .any), (16, .int .i64 z), (17, .int .i64 x.1)]) (fun x => [.tok 0, .rw n (.il .i64 x.2.1), .tok 0])
    (fun x => 0 ≤ x.1 ∧ x.1 ≤ z ∧ x.2.2.1 = z - x.1 ∧ x.2.1.length = n ∧ x.2.2.2.length = x.1.toNat ∧ res = (ofGo (x.2.1.take x.2.2.1.toNat) (ms.drop x.1.toNat)).map (x.2.2.2 ++ ·)) (fun x => (z - x.1).toNat) (0, r, z, []) ⟨by omega, by simp only; omega, by simp only; omega, hrl, rfl, by simp only; rw [hrt]; simp [hres]⟩ ?_ ?_)
  · refine Gh.trans (Gh.thaw 5 (.il .i64 []) rfl trivial rfl) (Gh.tm ?_)
    repeat' (first | exact Holds.nil _ _ | refine Holds.cons (Wk.refl _ _) ?_)
  intro ⟨i, L, nn, out⟩ ⟨hi, hi2, hnn, hL, hol, hJ⟩ Q' hb hx hr
  simp only at hi hi2 hnn hL hJ hol
  (conv => cbv)
  refine hk.brLss (fun h2 => ?_) (fun h2 => ?_)
  · have hstep := ofGo_step (L.take nn.toNat) ms out i.toNat (hmn i hi h2)
    have hg := hgm i
    rw [← hg] at hstep
    obtain ⟨m, hm⟩ : ∃ m, m = gtI ms i := ⟨_, rfl⟩
    rw [← hm] at hstep
    (conv => cbv)
    rw [hln]
    refine hk.idxI hi h2 ?_
    (conv => cbv)
    rw [← hm]
    have hLz : L.length = z.toNat := by omega
    have htk : (L.take nn.toNat).length = nn.toNat := by rw [List.length_take]; omega
    have hbad : ¬ (0 ≤ m ∧ m < nn) → res = none := fun h => by rw [hJ, hstep, if_neg (by rw [htk]; omega)]
    obtain ⟨m1, hm1⟩ : ∃ m1, m1 = m + 1 := ⟨_, rfl⟩
    obtain ⟨n1, hn1⟩ : ∃ n1, n1 = nn - 1 := ⟨_, rfl⟩
    have hdl := fun (h1 : 0 ≤ m) (h2 : m < nn) => hdel L nn m m1 n1 hm1 h1 h2 (by omega) hn1 (by omega)
    have ha1 : 0 ≤ m → m < nn → i2 .add .i64 m 1 = m1 := fun h1 h2 => by rw [hm1]; exact hk.add64 _ _ (by omega) (by omega)
    have hnw : 0 ≤ m → m < nn → ∀ K : List Int, K.length = L.length → K.take n1.toNat = (L.take nn.toNat).eraseIdx m.toNat → res = (ofGo (K.take n1.toNat) (ms.drop (i + 1).toNat)).map ((apI out [gtI L m]) ++ ·) := fun h1 h2 K h3 h4 => by
      rw [hJ, hstep, if_pos (by rw [htk]; omega), h4, show (i + 1).toNat = i.toNat + 1 by omega, hk.apI_eq, hk.gtI_eq]
      congr 3
      rw [List.getD_eq_getElem?_getD, List.getElem?_take, if_pos (by omega), List.getD_eq_getElem?_getD]
    have hln1 : ∀ x, lnI [x] = 1 := fun x => hk.lnI_eq _
    have hlno : lnI out = i := by rw [hk.lnI_eq]; omega
    have hapl : ∀ x, (apI out [x]).length = (i + 1).toNat := fun x => by rw [hk.apI_eq, List.length_append, hol]; simp; omega
    clear hm hstep hJ hol
    have hbq : Nat.beq n n = true := Nat.beq_refl n
    cbv at hbq
    repeat' (first
      | assumption
      | (refine hr _ ?_; (conv => cbv))
      | (refine hk.brLss (fun _ => ?_) (fun _ => ?_) <;> (conv => cbv))
      | (refine hk.brLeq (fun _ => ?_) (fun _ => ?_) <;> (conv => cbv))
      | (refine hk.brGtr (fun _ => ?_) (fun _ => ?_) <;> (conv => cbv))
      | (refine hk.brGeq (fun _ => ?_) (fun _ => ?_) <;> (conv => cbv))
      | (refine hk.brEql (fun _ => ?_) (fun _ => ?_) <;> (conv => cbv))
      | (refine hk.brNeq (fun _ => ?_) (fun _ => ?_) <;> (conv => cbv))
      | (refine hk.brNotT ?_; (conv => cbv))
      | (refine hk.brNotF ?_; (conv => cbv))
      | (refine hk.idxI (by first | omega | assumption) (by first | omega | assumption) ?_; (conv => cbv))
      | (refine hk.nzI (by first | omega | assumption | decide) ?_; (conv => cbv))
      | (refine hk.ge0I (by first | omega | assumption) ?_; (conv => cbv))
      | (refine hk.needI (by first | (simp only [rNd, hk.sb_eq, hk.ad_eq]; omega) | (simp [rNd, hk.sb_eq, hk.ad_eq]; omega)) ?_; (conv => cbv))
      | (refine hk.callA (by assumption) ?_; (conv => cbv))
      | (refine hk.calldA (by assumption) ?_; (conv => cbv))
      | (rw [hk.sb0]; (conv => cbv))
      | (rw [hk.ad0]; (conv => cbv))
      | exact hk.finB (by first | rfl | assumption)
      | exact hk.fin1 rfl)
    · have := hnone (hbad (by omega))
      obtain ⟨e1, e2⟩ := this
      subst e1 e2
      exact hk.fin0 rfl rfl (Wk.tup ⟨Wk.nilL _ _, .refl _ _, trivial⟩)
    rename_i hm0
    repeat (rw [hbq]; (conv => cbv))
    rw [hk.sb0]
    repeat' (first
      | assumption
      | (refine hr _ ?_; (conv => cbv))
      | (refine hk.brLss (fun _ => ?_) (fun _ => ?_) <;> (conv => cbv))
      | (refine hk.brLeq (fun _ => ?_) (fun _ => ?_) <;> (conv => cbv))
      | (refine hk.brGtr (fun _ => ?_) (fun _ => ?_) <;> (conv => cbv))
      | (refine hk.brGeq (fun _ => ?_) (fun _ => ?_) <;> (conv => cbv))
      | (refine hk.brEql (fun _ => ?_) (fun _ => ?_) <;> (conv => cbv))
      | (refine hk.brNeq (fun _ => ?_) (fun _ => ?_) <;> (conv => cbv))
      | (refine hk.brNotT ?_; (conv => cbv))
      | (refine hk.brNotF ?_; (conv => cbv))
      | (refine hk.idxI (by first | omega | assumption) (by first | omega | assumption) ?_; (conv => cbv))
      | (refine hk.nzI (by first | omega | assumption | decide) ?_; (conv => cbv))
      | (refine hk.ge0I (by first | omega | assumption) ?_; (conv => cbv))
      | (refine hk.needI (by first | (simp only [rNd, hk.sb_eq, hk.ad_eq]; omega) | (simp [rNd, hk.sb_eq, hk.ad_eq]; omega)) ?_; (conv => cbv))
      | (refine hk.callA (by assumption) ?_; (conv => cbv))
      | (refine hk.calldA (by assumption) ?_; (conv => cbv))
      | (rw [hk.sb0]; (conv => cbv))
      | (rw [hk.ad0]; (conv => cbv))
      | exact hk.finB (by first | rfl | assumption)
      | exact hk.fin1 rfl)
    · have := hnone (hbad (by omega))
      obtain ⟨e1, e2⟩ := this
      subst e1 e2
      exact hk.fin0 rfl rfl (Wk.tup ⟨Wk.nilL _ _, .refl _ _, trivial⟩)
    rename_i hm9
    have hdl := hdl (by omega) (by omega)
    have ha1 := ha1 (by omega) (by omega)
    have hnw := hnw (by omega) (by omega)
    repeat' (first
      | assumption
      | (rw [hbq]; (conv => cbv))
      | (refine hk.brLss (fun _ => ?_) (fun _ => ?_) <;> (conv => cbv))
      | (refine hk.brLeq (fun _ => ?_) (fun _ => ?_) <;> (conv => cbv))
      | (refine hk.brGtr (fun _ => ?_) (fun _ => ?_) <;> (conv => cbv))
      | (refine hk.brGeq (fun _ => ?_) (fun _ => ?_) <;> (conv => cbv))
      | (refine hk.brEql (fun _ => ?_) (fun _ => ?_) <;> (conv => cbv))
      | (refine hk.brNeq (fun _ => ?_) (fun _ => ?_) <;> (conv => cbv))
      | (refine hk.brNotT ?_; (conv => cbv))
      | (refine hk.brNotF ?_; (conv => cbv))
      | (refine hk.idxI (by first | omega | assumption) (by first | omega | assumption) ?_; (conv => cbv))
      | (refine hk.nzI (by first | omega | assumption | decide) ?_; (conv => cbv))
      | (refine hk.ge0I (by first | omega | assumption) ?_; (conv => cbv))
      | (refine hk.needI (by first | (simp only [rNd, hk.sb_eq, hk.ad_eq]; omega) | (simp [rNd, hk.sb_eq, hk.ad_eq]; omega)) ?_; (conv => cbv))
      | (refine hk.callA (by assumption) ?_; (conv => cbv))
      | (refine hk.calldA (by assumption) ?_; (conv => cbv))
      | (rw [hk.sb0]; (conv => cbv))
      | (rw [hk.ad0]; (conv => cbv))
      | exact hk.finB (by first | rfl | assumption)
      | exact hk.fin1 rfl)
    rw [hlno, hln1, ha1]
    refine hk.needI (by simp only [rNd, hk.ad_eq]; omega) (hk.callI hdl fun r h ⟨K, k1, k2, k3, k4⟩ => ?_)
    subst k3 k4
    (conv => cbv)
    refine hb (i + 1, K, n1, apI out [gtI L m]) _ ⟨by simp only; omega, by simp only; omega, by simp only; omega, by simp only; omega, hapl _, hnw K k1 k2⟩ (by simp only; omega) ?_
    refine Gh.retok 2 1 rfl (Nat.le_of_ble_eq_true rfl) ?_ rfl rfl
    repeat' (first | exact HoldsT.nil _ _ _ _ | refine HoldsT.tok rfl ?_ | refine HoldsT.cons (Wk.refl _ _) rfl ?_ | refine HoldsT.cons (Wk.of_eq ?_) rfl ?_)
    all_goals first
      | (rw [← hk.add64 i 1 (by omega) (by omega)]; rfl)
      | rfl
      | skip
  · have : i = z := by omega
    have hx1 := hend i this
    rw [hx1] at hJ
    obtain ⟨e1, e2⟩ := hsome out (by rw [hJ]; simp [ofGo])
    subst e1 e2
    refine hx _ _ ?_
    (conv => cbv)
    exact hk.fin0 rfl rfl (Wk.tup ⟨Wk.any _ _ _, .refl _ _, trivial⟩)
end Go.Proofs.Ytnnpookoencpnaa
