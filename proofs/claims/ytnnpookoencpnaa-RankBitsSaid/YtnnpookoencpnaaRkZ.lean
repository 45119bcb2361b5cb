/-
  Contracts of functions of the program, proved over the abstract machine of the Al texts.
-/
import Derived.Test.YtnnpookoencpnaaRkY
set_option linter.unusedSimpArgs false
set_option linter.unusedVariables false
open Go Go.AL
namespace Go.Proofs.Ytnnpookoencpnaa
/-! ### Marks: the plain part -/
/-- How many are less. -/
def cnt (S : List Int) (c : Int) : Nat := (S.filter (fun x => decide (x < c))).length
/-- An order's marks. -/
def mk : List Int → List Int
  | [] => []
  | c :: l => (cnt l c : Int) :: mk l
theorem mk_len : ∀ l : List Int, (mk l).length = l.length
  | [] => rfl
  | c :: l => by simp [mk, mk_len l]
theorem cnt_perm {S S' : List Int} (h : S.Perm S') (c : Int) : cnt S c = cnt S' c := (h.filter _).length_eq
theorem cnt_self (S : List Int) (c : Int) : cnt (c :: S) c = cnt S c := by simp [cnt]
abbrev Inc (S : List Int) : Prop := S.Pairwise (· < ·)
theorem cnt_at : ∀ {S : List Int}, Inc S → ∀ m, m < S.length → cnt S (S.getD m 0) = m
  | [], _, m, h => by simp at h
  | a :: t, hs, 0, _ => by
    have hs := List.pairwise_cons.1 hs
    have : t.filter (fun x => decide (x < a)) = [] := by
      rw [List.filter_eq_nil_iff]
      intro x hx
      have := hs.1 x hx
      simp; omega
    simp [cnt, this]
  | a :: t, hs, m + 1, h => by
    have hs := List.pairwise_cons.1 hs
    have hm : m < t.length := by simpa using h
    have h1 := cnt_at hs.2 m hm
    have h2 : a < t.getD m 0 := hs.1 _ (by simp [List.getD, hm])
    have e : (a :: t).getD (m + 1) 0 = t.getD m 0 := by simp [List.getD]
    rw [e]
    simp only [cnt] at h1 ⊢
    rw [List.filter_cons, if_pos (by simpa using h2), List.length_cons, h1]
theorem erase_perm : ∀ {S : List Int} {m : Nat}, m < S.length → (S.getD m 0 :: S.eraseIdx m).Perm S
  | [], m, h => by simp at h
  | a :: t, 0, _ => by simp
  | a :: t, m + 1, h => by
    have h1 := erase_perm (S := t) (m := m) (by simpa using h)
    rw [List.eraseIdx_cons_succ, show (a :: t).getD (m + 1) 0 = t.getD m 0 by simp [List.getD]]
    exact (List.Perm.swap _ _ _).trans (h1.cons a)
theorem erase_inc {S : List Int} (h : Inc S) (m : Nat) : Inc (S.eraseIdx m) := h.sublist (List.eraseIdx_sublist S m)
theorem erase_len {S : List Int} {m : Nat} (h : m < S.length) : (S.eraseIdx m).length = S.length - 1 := List.length_eraseIdx_of_lt h
theorem find_at {S : List Int} (hs : Inc S) {c : Int} (hc : c ∈ S) : cnt S c < S.length ∧ S.getD (cnt S c) 0 = c := by
  obtain ⟨m, hm, rfl⟩ := mem_getD.1 hc
  rw [cnt_at hs m hm]
  exact ⟨hm, rfl⟩
theorem ofGo_mk : ∀ (l S : List Int), Inc S → S.Perm l → ofGo S (mk l) = some l
  | [], S, _, _ => rfl
  | c :: l, S, hs, hp => by
    have hc : c ∈ S := hp.mem_iff.2 (by simp)
    obtain ⟨h1, h2⟩ := find_at hs hc
    have h3 : cnt S c = cnt l c := by rw [cnt_perm hp, cnt_self]
    rw [h3] at h1 h2
    have h4 : (S.eraseIdx (cnt l c)).Perm l := by
      have := (erase_perm h1).trans hp
      rw [h2] at this
      exact (List.perm_cons c).1 this
    simp only [mk, ofGo]
    rw [if_pos ⟨by omega, by omega⟩, Int.toNat_natCast, ofGo_mk l _ (erase_inc hs _) h4, h2]
    rfl
theorem mk_ofGo : ∀ (ms S l : List Int), Inc S → S.length = ms.length → ofGo S ms = some l → S.Perm l ∧ mk l = ms
  | [], S, l, hs, hl, h => by
    cases h
    have : S = [] := List.eq_nil_of_length_eq_zero hl
    subst this
    exact ⟨.refl _, rfl⟩
  | m :: ms, S, l, hs, hl, h => by
    simp only [ofGo] at h
    split at h
    · rename_i hm
      have hm2 : m.toNat < S.length := by omega
      cases h1 : ofGo (S.eraseIdx m.toNat) ms with
      | none => rw [h1] at h; cases h
      | some l' =>
        rw [h1] at h
        cases h
        obtain ⟨h2, h3⟩ := mk_ofGo ms (S.eraseIdx m.toNat) l' (erase_inc hs _) (by rw [erase_len hm2]; simp at hl; omega) h1
        refine ⟨(erase_perm hm2).symm.trans (h2.cons _), ?_⟩
        simp only [mk]
        rw [h3, ← cnt_perm h2]
        congr 1
        have h4 := cnt_at hs m.toNat hm2
        rw [← cnt_perm (erase_perm hm2), cnt_self] at h4
        rw [h4]
        omega
    · cases h
theorem rangeI_inc (n : Nat) : Inc (rangeI n) := by
  unfold rangeI Inc
  rw [List.pairwise_map]
  exact (List.pairwise_lt_range (n := n)).imp fun h => by omega
theorem at_uniq {S : List Int} (hs : Inc S) {c i : Int} (hc : c ∈ S) (h : IsAt S c i) : i.toNat = cnt S c ∧ i.toNat < S.length ∧ S.getD i.toNat 0 = c := by
  obtain ⟨m, hm, hg⟩ := mem_getD.1 hc
  have hcm := cnt_at hs m hm
  rw [hg] at hcm
  obtain ⟨h0, h1, h2, h3⟩ := h
  have : i.toNat = m := by
    rcases Nat.lt_trichotomy i.toNat m with h | h | h
    · have e1 := h3 i.toNat (Nat.le_refl _) (by omega)
      have e2 : S.getD i.toNat 0 < S.getD m 0 := by
        have := (List.pairwise_iff_getElem.1 hs) i.toNat m (by omega) hm h
        simpa [List.getD, hm, show i.toNat < S.length by omega] using this
      omega
    · exact h
    · have := h2 m h
      omega
  rw [this, hcm]
  exact ⟨rfl, hm, hg⟩
theorem inc_le {S : List Int} (hs : Inc S) : ∀ a b, a < b → b < S.length → S.getD a 0 ≤ S.getD b 0 := fun a b h1 h2 => by
  have := (List.pairwise_iff_getElem.1 hs) a b (by omega) h2 h1
  have : S.getD a 0 < S.getD b 0 := by simpa [List.getD, h2, show a < S.length by omega] using this
  omega
/-- Those of 0 to n - 1 that aren't told yet. -/
def free (n : Nat) (out : List Int) : List Int := (rangeI n).filter fun c => !decide (c ∈ out)
theorem free_inc (n : Nat) (out : List Int) : Inc (free n out) := (rangeI_inc n).sublist List.filter_sublist
theorem free_nil (n : Nat) : free n [] = rangeI n := by simp [free]
theorem eraseIdx_filter : ∀ {S : List Int}, Inc S → ∀ m, m < S.length → S.eraseIdx m = S.filter (fun x => !decide (x = S.getD m 0))
  | [], _, m, h => by simp at h
  | a :: t, hs, 0, _ => by
    have hs := List.pairwise_cons.1 hs
    have : t.filter (fun x => !decide (x = a)) = t := by
      rw [List.filter_eq_self]
      intro x hx
      have := hs.1 x hx
      simp; omega
    simp [this]
  | a :: t, hs, m + 1, h => by
    have hs := List.pairwise_cons.1 hs
    have hm : m < t.length := by simpa using h
    have h1 := eraseIdx_filter hs.2 m hm
    have h2 : a < t.getD m 0 := hs.1 _ (by simp [List.getD, hm])
    have e : (a :: t).getD (m + 1) 0 = t.getD m 0 := by simp [List.getD]
    have h3 : ¬ a = t.getD m 0 := by omega
    rw [e, List.eraseIdx_cons_succ, h1, List.filter_cons, if_pos (by simp only [h3, decide_false, Bool.not_false])]
theorem free_step (n : Nat) (out : List Int) (m : Nat) (h : m < (free n out).length) : (free n out).eraseIdx m = free n (out ++ [(free n out).getD m 0]) := by
  rw [eraseIdx_filter (free_inc n out) m h]
  obtain ⟨x, hx⟩ : ∃ x, x = (free n out).getD m 0 := ⟨_, rfl⟩
  rw [← hx]
  unfold free
  rw [List.filter_filter]
  congr 1
  funext c
  by_cases h1 : c = x <;> by_cases h2 : c ∈ out <;> simp [h1, h2]
/-- The free ones from c on. -/
def freeFrom (n : Nat) (out : List Int) (c : Nat) : List Int := ((rangeI n).drop c).filter fun c => !decide (c ∈ out)
theorem freeFrom_zero (n : Nat) (out : List Int) : freeFrom n out 0 = free n out := by simp [freeFrom, free]
theorem freeFrom_step (n : Nat) (out : List Int) (c : Nat) (h : c < n) : freeFrom n out c = if (c : Int) ∈ out then freeFrom n out (c + 1) else (c : Int) :: freeFrom n out (c + 1) := by
  unfold freeFrom
  rw [List.drop_eq_getElem_cons (by rw [rangeI_len]; exact h)]
  have : (rangeI n)[c]'(by rw [rangeI_len]; exact h) = (c : Int) := by
    have := rangeI_get n c h
    simpa [List.getD, rangeI_len, h] using this
  rw [this, List.filter_cons]
  by_cases h2 : (c : Int) ∈ out <;> simp [h2]
theorem freeFrom_end (n : Nat) (out : List Int) (c : Nat) (h : n ≤ c) : freeFrom n out c = [] := by
  unfold freeFrom
  rw [List.drop_eq_nil_of_le (by rw [rangeI_len]; exact h)]
  rfl
end Go.Proofs.Ytnnpookoencpnaa
set_option maxHeartbeats 4000000
set_option maxRecDepth 20000
set_option linter.unusedSimpArgs false
set_option linter.unusedVariables false
open Go Go.AL
namespace Go.Proofs.Ytnnpookoencpnaa
theorem refOf_spec (ms : List Int) (n : Int) (hn : n.toNat = ms.length) (hn1 : 1 ≤ n) (hn8 : n ≤ 8) (rl : List Int) (re : Bool)
    (hsome : ∀ x, ofGo (rangeI n.toNat) ms = some x → rl = x ∧ re = true) (hnone : ofGo (rangeI n.toNat) ms = none → rl = [] ∧ re = false) : Does PP 29 [LI ms] [] (Is (.tup [LI rl, .bool re]) []) := by
  obtain ⟨res, hres⟩ : ∃ x, x = ofGo (rangeI n.toNat) ms := ⟨_, rfl⟩
  rw [← hres] at hsome hnone
  refine doesF P_ok Try.f29 (by kernel_rfl) (by kernel_rfl) ?_
  intro i2 c2 u1 cv mx mn ad sbt bn bq ba lnI gtI apI sbI stI rpI lnG gtG apG sbG stG rpG fi fb fs fl fg fc sln sgt sap ssb sc b2s s2b nd call calld callv callvd loop rfun fin hk
  have hln : lnI ms = n := by rw [hk.lnI_eq]; omega
  have hgm := hk.gtI_eq ms
  have hmn : ∀ i : Int, 0 ≤ i → i < n → i.toNat < ms.length := fun i h1 h2 => by omega
  have hend : ∀ i : Int, i = n → ms.drop i.toNat = [] := fun i h => by rw [List.drop_eq_nil_iff]; omega
  have hl1 : ∀ x, lnI [x] = 1 := fun x => hk.lnI_eq _
  have hlno : ∀ (out : List Int) (i : Int), 0 ≤ i → out.length = i.toNat → lnI out = i := fun out i h h2 => by rw [hk.lnI_eq]; omega
  (conv => cbv)
  try rw [hln]
  refine hk.brLss (fun h => by omega) (fun _ => ?_)
  (conv => cbv)
  try rw [hln]
  refine hk.brGtr (fun h => by omega) (fun _ => ?_)
  (conv => cbv)
  try rw [hln]
  refine hk.loopI (loop_rule (α := Int × List Int) (fun x => [(0, .ls (.il .i64 ms) .any), (2, .ls .nl .nil), (3, .bool false), (4, .int .i64 n), (5, .ls (.il .i64 x.2) (.tok 0 0)), (18, .int .i64 n), (19, .int .i64 x.1)]) (fun _ => [.tok 0])
    (fun x => 0 ≤ x.1 ∧ x.1 ≤ n ∧ x.2.length = x.1.toNat ∧ (free n.toNat x.2).length = (n - x.1).toNat ∧ res = (ofGo (free n.toNat x.2) (ms.drop x.1.toNat)).map (x.2 ++ ·)) (fun x => (n - x.1).toNat) (0, []) ⟨by omega, by simp only; omega, rfl, by simp only; rw [free_nil, rangeI_len]; omega, by simp only; rw [free_nil]; simp [hres]⟩ ?_ ?_)
  · refine Gh.trans (Gh.thaw 5 (.il .i64 []) rfl trivial rfl) (Gh.tm ?_)
    repeat' (first | exact Holds.nil _ _ | refine Holds.cons (Wk.refl _ _) ?_)
  intro ⟨i, out⟩ ⟨hi, hi2, hol, hfl, hJ⟩ Q' hb hx hr
  simp only at hi hi2 hol hfl hJ
  (conv => cbv)
  refine hk.brLss (fun h2 => ?_) (fun h2 => ?_)
  · obtain ⟨F, hF⟩ : ∃ F, F = free n.toNat out := ⟨_, rfl⟩
    have hstep := ofGo_step F ms out i.toNat (hmn i hi h2)
    obtain ⟨m, hm⟩ : ∃ m, m = gtI ms i := ⟨_, rfl⟩
    rw [← hgm i, ← hm] at hstep
    obtain ⟨ni, hni⟩ : ∃ x, x = n - i := ⟨_, rfl⟩
    have hsub : i2 .sub .i64 n i = ni := by rw [hni]; exact hk.sub64 _ _ (by omega) (by omega)
    have hFl : F.length = ni.toNat := by rw [hF, hfl, hni]
    have hbad : ¬ (0 ≤ m ∧ m < ni) → res = none := fun h => by rw [hJ, ← hF, hstep, if_neg (by omega)]
    have hfree := fun h => free_step n.toNat out m.toNat h
    have hgood : 0 ≤ m → m < ni → ∀ c, c = F.getD m.toNat 0 → (free n.toNat (apI out [c])).length = (n - (i + 1)).toNat ∧ res = (ofGo (free n.toNat (apI out [c])) (ms.drop (i + 1).toNat)).map ((apI out [c]) ++ ·) := fun h1 h2 c hc => by
      have h3 := hfree (by rw [hfl]; omega)
      have h4 := erase_len (S := free n.toNat out) (m := m.toNat) (by rw [hfl]; omega)
      rw [hF] at hc
      rw [← hc] at h3
      rw [hk.apI_eq]
      refine ⟨by rw [← h3, h4, hfl]; omega, ?_⟩
      rw [hJ, ← hF, hstep, if_pos (by omega), hF, h3, show (i + 1).toNat = i.toNat + 1 by omega, ← hc]
    have hlno := hlno out i hi hol
    have hapl : ∀ x, (apI out [x]).length = (i + 1).toNat := fun x => by rw [hk.apI_eq, List.length_append, hol]; simp; omega
    have hhas : ∀ c h, Does PP 64 [LI out, I c] h (Is (.bool (decide (c ∈ out))) h) := fun c h => has_spec out c h (by omega)
    have hff := freeFrom_step n.toNat out
    have hfe := freeFrom_end n.toNat out
    have hfz := freeFrom_zero n.toNat out
    rw [← hF] at hfz
    clear hF hfree hfl hstep hJ
    obtain ⟨inB, hinB⟩ : ∃ inB : Int → Bool, ∀ c, inB c = decide (c ∈ out) := ⟨_, fun _ => rfl⟩
    have hhas : ∀ c h, Does PP 64 [LI out, I c] h (Is (.bool (inB c)) h) := fun c h => by rw [hinB]; exact hhas c h
    obtain ⟨G, hG⟩ : ∃ G : Nat → List Int, ∀ c, G c = freeFrom n.toNat out c := ⟨_, fun _ => rfl⟩
    have hff : ∀ c : Int, 0 ≤ c → c < n → G c.toNat = if inB c = true then G (c + 1).toNat else c :: G (c + 1).toNat := fun c h0 h1 => by
      rw [hG, hff _ (by omega), hG, show ((c.toNat : Nat) : Int) = c by omega, show (c + 1).toNat = c.toNat + 1 by omega, hinB]
      simp only [decide_eq_true_eq]
    have hfe : ∀ c : Int, n ≤ c → G c.toNat = [] := fun c h => by rw [hG]; exact hfe _ (by omega)
    have hfz : G 0 = F := by rw [hG]; exact hfz
    clear hG hinB
    (conv => cbv)
    try rw [hln]
    refine hk.idxI hi h2 ?_
    (conv => cbv)
    try rw [← hm]
    refine hk.brLss (fun h3 => ?_) (fun h3 => ?_)
    · obtain ⟨e1, e2⟩ := hnone (hbad (by omega))
      subst e1 e2
      (conv => cbv)
      refine hr _ ?_
      (conv => cbv)
      exact hk.fin0 rfl rfl (Wk.tup ⟨Wk.nilL _ _, .refl _ _, trivial⟩)
    (conv => cbv)
    try rw [hln]
    try rw [← hm]
    refine hk.idxI hi h2 ?_
    (conv => cbv)
    rw [hsub]
    refine hk.brGeq (fun h4 => ?_) (fun h4 => ?_)
    · obtain ⟨e1, e2⟩ := hnone (hbad (by omega))
      subst e1 e2
      (conv => cbv)
      refine hr _ ?_
      (conv => cbv)
      exact hk.fin0 rfl rfl (Wk.tup ⟨Wk.nilL _ _, .refl _ _, trivial⟩)
    have hgood := hgood (by omega) (by omega)
    (conv => cbv)
    try rw [hln]
    try rw [← hm]
    refine hk.idxI hi h2 ?_
    (conv => cbv)
    refine hk.loopI (loop_rule (α := Int × Int) (fun x => [(0, .ls (.il .i64 ms) .any), (2, .ls .nl .nil), (3, .bool false), (4, .int .i64 n), (5, .ls (.il .i64 out) (.tok 0 0)), (18, .int .i64 n), (19, .int .i64 i), (7, .int .i64 x.2), (8, .int .i64 x.1)]) (fun _ => [.tok 0])
      (fun x => 0 ≤ x.1 ∧ x.1 ≤ n ∧ x.2 ≤ 8 ∧ 0 ≤ x.2 ∧ x.2.toNat < (G x.1.toNat).length ∧ (G x.1.toNat).getD x.2.toNat 0 = F.getD m.toNat 0) (fun x => (n - x.1).toNat) (0, m) ⟨by omega, by simp only; omega, by simp only; omega, by simp only; omega, by simp only; rw [show (0 : Int).toNat = 0 from rfl, hfz]; omega, by simp only; rw [show (0 : Int).toNat = 0 from rfl, hfz]⟩ ?_ ?_)
    · exact Gh.tm (by repeat (first | exact Holds.nil _ _ | refine Holds.cons (Wk.refl _ _) ?_))
    intro ⟨c, left⟩ ⟨hc, hc2, hl8, hl0, hll, hJ2⟩ Q2 hb2 hx2 hr2
    simp only at hc hc2 hl8 hl0 hll hJ2
    (conv => cbv)
    refine hk.brLss (fun h5 => ?_) (fun h5 => ?_)
    · have hff := hff c hc h5
      (conv => cbv)
      refine hk.callA ((hhas c _).wk (by repeat' (first | exact WkL.nil | refine WkL.cons (Wk.refl _ _) ?_ | refine WkL.cons (Wk.any _ _ _) ?_ | refine WkL.cons (Wk.nilL _ _) ?_))) ?_
      obtain ⟨t, ht⟩ : ∃ t, t = inB c := ⟨_, rfl⟩
      rw [← ht] at hff ⊢
      cases t
      · simp only [Bool.false_eq_true, if_false] at hff
        rw [hff] at hll hJ2
        (conv => cbv)
        refine hk.brEql (fun h6 => ?_) (fun h6 => ?_)
        · subst h6
          have hcF : c = F.getD m.toNat 0 := by rw [← hJ2]; rfl
          obtain ⟨g1, g2⟩ := hgood c hcF
          (conv => cbv)
          rw [hlno, hl1]
          refine hk.needI (by simp only [rNd, hk.ad_eq]; omega) ?_
          (conv => cbv)
          refine hx2 _ _ ?_
          (conv => cbv)
          refine hb (i + 1, apI out [c]) _ ⟨by simp only; omega, by simp only; omega, hapl _, g1, g2⟩ (by simp only; omega) ?_
          refine Gh.retok 0 1 rfl (Nat.le_of_ble_eq_true rfl) ?_ rfl rfl
          repeat' (first | exact HoldsT.nil _ _ _ _ | refine HoldsT.tok rfl ?_ | refine HoldsT.cons (Wk.refl _ _) rfl ?_ | refine HoldsT.cons (Wk.of_eq ?_) rfl ?_)
          all_goals first
            | (rw [← hk.add64 i 1 (by omega) (by omega)]; rfl)
            | rfl
            | skip
        · obtain ⟨l1, hl1⟩ : ∃ l1, l1 = left - 1 := ⟨_, rfl⟩
          have hsl : i2 .sub .i64 left 1 = l1 := by rw [hl1]; exact hk.sub64 _ _ (by omega) (by simp only [List.length_cons] at hll; omega)
          have e1 : left.toNat = l1.toNat + 1 := by omega
          rw [e1] at hll hJ2
          (conv => cbv)
          rw [hsl]
          refine hb2 (c + 1, l1) _ ⟨by simp only; omega, by simp only; omega, by simp only; omega, by simp only; simp only [List.length_cons] at hll; omega, by simp only; simpa using hll, by simp only; simpa using hJ2⟩ (by simp only; omega) ?_
          refine Gh.tm ?_
          repeat' (first | exact Holds.nil _ _ | refine Holds.cons (Wk.refl _ _) ?_ | refine Holds.cons (Wk.of_eq ?_) ?_)
          all_goals first
            | (rw [← hk.add64 c 1 (by omega) (by omega)]; rfl)
            | rfl
            | skip
      · simp only [if_true] at hff
        rw [hff] at hll hJ2
        (conv => cbv)
        refine hb2 (c + 1, left) _ ⟨by simp only; omega, by simp only; omega, hl8, hl0, hll, hJ2⟩ (by simp only; omega) ?_
        refine Gh.tm ?_
        repeat' (first | exact Holds.nil _ _ | refine Holds.cons (Wk.refl _ _) ?_ | refine Holds.cons (Wk.of_eq ?_) ?_)
        all_goals first
          | (rw [← hk.add64 c 1 (by omega) (by omega)]; rfl)
          | rfl
          | skip
    · have : G c.toNat = [] := hfe c (by omega)
      rw [this] at hll
      simp at hll
  · have : i = n := by omega
    have hx1 := hend i this
    rw [hx1] at hJ
    obtain ⟨e1, e2⟩ := hsome out (by rw [hJ]; simp [ofGo])
    subst e1 e2
    refine hx _ _ ?_
    (conv => cbv)
    exact hk.fin0 rfl rfl (Wk.tup ⟨Wk.any _ _ _, .refl _ _, trivial⟩)
end Go.Proofs.Ytnnpookoencpnaa
set_option maxHeartbeats 4000000
set_option maxRecDepth 20000
set_option linter.unusedSimpArgs false
set_option linter.unusedVariables false
open Go Go.AL
namespace Go.Proofs.Ytnnpookoencpnaa
theorem mk_drop {l : List Int} {i : Nat} (h : i < l.length) : mk (l.drop i) = (cnt (l.drop (i + 1)) (l.getD i 0) : Int) :: mk (l.drop (i + 1)) := by
  rw [List.drop_eq_getElem_cons h]
  have : l[i] = l.getD i 0 := by simp [List.getD, h]
  rw [this]; rfl
theorem cnt_drop {l : List Int} {k : Nat} (h : k < l.length) (c : Int) : cnt (l.drop k) c = if l.getD k 0 < c then cnt (l.drop (k + 1)) c + 1 else cnt (l.drop (k + 1)) c := by
  rw [List.drop_eq_getElem_cons h]
  have : l[k] = l.getD k 0 := by simp [List.getD, h]
  rw [this]
  simp only [cnt, List.filter_cons]
  split <;> simp_all
theorem refMarks_spec (l : List Int) (h : Heap) (n : Int) (hn : n.toNat = l.length) (hn0 : 0 ≤ n) (hn8 : n ≤ 1000) : Does PP 31 [LI l] h (Is (LI (mk l)) h) := by
  obtain ⟨r, hr0⟩ : ∃ x, x = mk l := ⟨_, rfl⟩
  rw [← hr0]
  refine pure0 ?_ rfl rfl h
  refine doesF P_ok Try.f31 (by kernel_rfl) (by kernel_rfl) ?_
  intro i2 c2 u1 cv mx mn ad sbt bn bq ba lnI gtI apI sbI stI rpI lnG gtG apG sbG stG rpG fi fb fs fl fg fc sln sgt sap ssb sc b2s s2b nd call calld callv callvd loop rfun fin hk
  have hln : lnI l = n := by rw [hk.lnI_eq]; omega
  have hgm := hk.gtI_eq l
  have hl1 : ∀ x, lnI [x] = 1 := fun x => hk.lnI_eq _
  have hlno : ∀ (out : List Int) (i : Int), 0 ≤ i → out.length = i.toNat → lnI out = i := fun out i h h2 => by rw [hk.lnI_eq]; omega
  (conv => cbv)
  try rw [hln]
  refine hk.loopI (loop_rule (α := Int × List Int) (fun x => [(0, .ls (.il .i64 l) .any), (2, .ls .nl .nil), (3, .ls (.il .i64 x.2) (.tok 0 0)), (8, .int .i64 n), (9, .int .i64 x.1)]) (fun _ => [.tok 0])
    (fun x => 0 ≤ x.1 ∧ x.1 ≤ n ∧ x.2.length = x.1.toNat ∧ r = x.2 ++ mk (l.drop x.1.toNat)) (fun x => (n - x.1).toNat) (0, []) ⟨by omega, by simp only; omega, rfl, by simp [hr0]⟩ ?_ ?_)
  · refine Gh.trans (Gh.thaw 3 (.il .i64 []) rfl trivial rfl) (Gh.tm ?_)
    repeat' (first | exact Holds.nil _ _ | refine Holds.cons (Wk.refl _ _) ?_)
  intro ⟨i, out⟩ ⟨hi, hi2, hol, hJ⟩ Q' hb hx hr
  simp only at hi hi2 hol hJ
  have hlno := hlno out i hi hol
  obtain ⟨i1, hi1⟩ : ∃ i1, i1 = i + 1 := ⟨_, rfl⟩
  have hadd : i < n → i2 .add .i64 i 1 = i1 := fun _ => by rw [hi1]; exact hk.add64 _ _ (by omega) (by omega)
  have hcd : ∀ k : Int, 0 ≤ k → k < n → cnt (l.drop k.toNat) (gtI l i) = if gtI l k < gtI l i then cnt (l.drop (k + 1).toNat) (gtI l i) + 1 else cnt (l.drop (k + 1).toNat) (gtI l i) := fun k h0 h1 => by
    rw [show (k + 1).toNat = k.toNat + 1 by omega, hgm k]; exact cnt_drop (by omega) _
  have hce : ∀ k : Int, n ≤ k → cnt (l.drop k.toNat) (gtI l i) = 0 := fun k h0 => by rw [List.drop_eq_nil_of_le (by omega)]; rfl
  have hnext : i < n → ∀ m : Int, m.toNat = cnt (l.drop i1.toNat) (gtI l i) → 0 ≤ m → r = apI out [m] ++ mk (l.drop (i + 1).toNat) ∧ (apI out [m]).length = (i + 1).toNat := fun h m hm h0 => by
    rw [hk.apI_eq, List.length_append, hol]
    refine ⟨?_, by simp; omega⟩
    rw [hJ, mk_drop (by omega), ← hgm i, show (i + 1).toNat = i.toNat + 1 by omega]
    rw [hi1, show (i + 1).toNat = i.toNat + 1 by omega] at hm
    rw [← hm, show ((m.toNat : Nat) : Int) = m by omega]
    simp
  obtain ⟨C, hC⟩ : ∃ C : Int → Nat, ∀ k, C k = cnt (l.drop k.toNat) (gtI l i) := ⟨_, fun _ => rfl⟩
  simp only [← hC] at hcd hce hnext
  clear hC
  (conv => cbv)
  refine hk.brLss (fun h2 => ?_) (fun h2 => ?_)
  · have hadd := hadd h2
    have hnext := hnext h2
    (conv => cbv)
    rw [hadd]
    refine hk.loopI (loop_rule (α := Int × Int) (fun x => [(0, .ls (.il .i64 l) .any), (2, .ls .nl .nil), (3, .ls (.il .i64 out) (.tok 0 0)), (4, .int .i64 i), (5, .int .i64 x.2), (6, .int .i64 x.1), (8, .int .i64 n), (9, .int .i64 i)]) (fun _ => [.tok 0])
      (fun x => i1 ≤ x.1 ∧ x.1 ≤ n ∧ 0 ≤ x.2 ∧ x.2 ≤ x.1 ∧ x.2.toNat + C x.1 = C i1) (fun x => (n - x.1).toNat) (i1, 0) ⟨by simp only; omega, by simp only; omega, by simp only; omega, by simp only; omega, by simp⟩ ?_ ?_)
    · exact Gh.tm (by repeat (first | exact Holds.nil _ _ | refine Holds.cons (Wk.refl _ _) ?_))
    intro ⟨k, m⟩ ⟨hk0, hk1, hm0, hm1, hJ2⟩ Q2 hb2 hx2 hr2
    simp only at hk0 hk1 hm0 hm1 hJ2
    (conv => cbv)
    try rw [hln]
    refine hk.brLss (fun h3 => ?_) (fun h3 => ?_)
    · have hcd := hcd k (by omega) h3
      (conv => cbv)
      try rw [hln]
      refine hk.idxI (by omega) h3 (hk.idxI hi h2 ?_)
      (conv => cbv)
      refine hk.brLss (fun h4 => ?_) (fun h4 => ?_)
      · rw [if_pos h4] at hcd
        (conv => cbv)
        refine hb2 (k + 1, m + 1) _ ⟨by simp only; omega, by simp only; omega, by simp only; omega, by simp only; omega, by simp only; omega⟩ (by simp only; omega) ?_
        refine Gh.tm ?_
        repeat' (first | exact Holds.nil _ _ | refine Holds.cons (Wk.refl _ _) ?_ | refine Holds.cons (Wk.of_eq ?_) ?_)
        · rw [← hk.add64 m 1 (by omega) (by omega)]; rfl
        · rw [← hk.add64 k 1 (by omega) (by omega)]; rfl
      · rw [if_neg h4] at hcd
        (conv => cbv)
        refine hb2 (k + 1, m) _ ⟨by simp only; omega, by simp only; omega, by simp only; omega, by simp only; omega, by simp only; omega⟩ (by simp only; omega) ?_
        refine Gh.tm ?_
        repeat' (first | exact Holds.nil _ _ | refine Holds.cons (Wk.refl _ _) ?_ | refine Holds.cons (Wk.of_eq ?_) ?_)
        all_goals first
          | (rw [← hk.add64 k 1 (by omega) (by omega)]; rfl)
          | rfl
          | skip
    · have := hce k (by omega)
      obtain ⟨g1, g2⟩ := hnext m (by omega) hm0
      refine hx2 _ _ ?_
      (conv => cbv)
      rw [hlno, hl1]
      refine hk.needI (by simp only [rNd, hk.ad_eq]; omega) ?_
      (conv => cbv)
      refine hb (i + 1, apI out [m]) _ ⟨by simp only; omega, by simp only; omega, g2, g1⟩ (by simp only; omega) ?_
      refine Gh.retok 0 1 rfl (Nat.le_of_ble_eq_true rfl) ?_ rfl rfl
      repeat' (first | exact HoldsT.nil _ _ _ _ | refine HoldsT.tok rfl ?_ | refine HoldsT.cons (Wk.refl _ _) rfl ?_ | refine HoldsT.cons (Wk.of_eq ?_) rfl ?_)
      all_goals first
        | (rw [← hk.add64 i 1 (by omega) (by omega)]; rfl)
        | rfl
        | skip
  · have : l.drop i.toNat = [] := by rw [List.drop_eq_nil_iff]; omega
    rw [this] at hJ
    simp only [mk, List.append_nil] at hJ
    subst hJ
    refine hx _ _ ?_
    (conv => cbv)
    exact hk.fin0 rfl rfl (Wk.any _ _ _)
end Go.Proofs.Ytnnpookoencpnaa
set_option maxHeartbeats 4000000
set_option maxRecDepth 20000
set_option linter.unusedSimpArgs false
set_option linter.unusedVariables false
open Go Go.AL
namespace Go.Proofs.Ytnnpookoencpnaa
theorem marks_spec (l : List Int) (n : Nat) (z : Int) (hz : z.toNat = n) (hz0 : 0 ≤ z) (hn : n = l.length) (h8 : n ≤ 8) (h1 : 1 ≤ n) (hp : (rangeI n).Perm l) (h : Heap) : Does PP 30 [LI l] h (Is (LI (mk l)) h) := by
  refine pure0 ?_ rfl rfl h
  have hf := firstR_spec n h1 h8 z (by omega)
  have hdel : ∀ (L : List Int) (nn m m1 n1 : Int), m1 = m + 1 → 0 ≤ m → m < nn → nn ≤ L.length → n1 = nn - 1 → L.length ≤ 1000 → Does PP 70 [.sl 1 n 0 nn, I m, I m1] [.tok 0, .rw n (.il .i64 L), .tok 1, .tok 0]
      (fun r h' => ∃ K, K.length = L.length ∧ K.take n1.toNat = (L.take nn.toNat).eraseIdx m.toNat ∧ r = .sl 1 n 0 n1 ∧ h' = [.tok 0, .rw n (.il .i64 K), .tok 1, .tok 0]) := fun L nn m m1 n1 a1 a2 a3 a4 a5 a6 => by
    refine ((delete_spec L n nn m m1 n1 a1 a2 a3 a4 a5 a6).ren [1] [.tok 0, .rw n (.il .i64 L), .tok 1, .tok 0] rfl (by decide) (fun x hx => by rw [List.mem_singleton.1 hx]; show 1 < 4; decide) (by repeat (first | exact trivial | refine ⟨rfl, ?_⟩)) rfl rfl (fun r h ⟨K, h1, h2, h3, h4⟩ => by subst h3; subst h4; rfl)).mono ?_
    rintro r h ⟨r2, h2, ⟨K, k1, k2, k3, k4⟩, k5, k6⟩
    subst k3
    subst k4
    exact ⟨K, k1, k2, k5, k6⟩
  have hbs : ∀ (L : List Int) (nn c : Int), 0 ≤ nn → nn ≤ L.length → nn ≤ 8 → Inc (L.take nn.toNat) → c ∈ L.take nn.toNat → Does PP 71 [.sl 1 n 0 nn, I c] [.tok 0, .rw n (.il .i64 L), .tok 0]
      (fun r h' => ∃ i b, 0 ≤ i ∧ i.toNat = cnt (L.take nn.toNat) c ∧ i.toNat < (L.take nn.toNat).length ∧ (L.take nn.toNat).getD i.toNat 0 = c ∧ r = .tup [I i, .bool b] ∧ h' = [.tok 0, .rw n (.il .i64 L), .tok 0]) := fun L nn c a1 a2 a3 a4 a5 => by
    have hlen : (L.take nn.toNat).length = nn.toNat := by rw [List.length_take]; omega
    have hsrt : ∀ a b, a < b → b < nn.toNat → L.getD a 0 ≤ L.getD b 0 := fun a b e1 e2 => by
      have := inc_le a4 a b e1 (by omega)
      rw [List.getD_eq_getElem?_getD, List.getElem?_take, if_pos (by omega), List.getD_eq_getElem?_getD, List.getElem?_take, if_pos (by omega)] at this
      rw [List.getD_eq_getElem?_getD, List.getD_eq_getElem?_getD]; exact this
    refine ((bsearch_spec L c n nn a1 a2 a3 hsrt).ren [1] [.tok 0, .rw n (.il .i64 L), .tok 0] rfl (by decide) (fun x hx => by rw [List.mem_singleton.1 hx]; show 1 < 3; decide) (by repeat (first | exact trivial | refine ⟨rfl, ?_⟩)) rfl rfl (fun r h ⟨i, b, h1, h2, h3⟩ => by subst h3; rfl)).mono ?_
    rintro r h ⟨r2, h2, ⟨i, b, k1, k2, k3⟩, k5, k6⟩
    subst k2
    subst k3
    obtain ⟨u1, u2, u3⟩ := at_uniq a4 a5 k1
    exact ⟨i, b, k1.1, u1, u2, u3, k5, k6⟩
  obtain ⟨r, hr⟩ : ∃ r, r = rangeI n := ⟨_, rfl⟩
  have hrl : r.length = n := by rw [hr, rangeI_len]
  have hri : Inc r := by rw [hr]; exact rangeI_inc n
  rw [← hr] at hf hp
  obtain ⟨res, hres⟩ : ∃ x, x = mk l := ⟨_, rfl⟩
  rw [← hres]
  refine doesF P_ok Try.f30 (by kernel_rfl) (by kernel_rfl) ?_
  intro i2 c2 u1 cv mx mn ad sbt bn bq ba lnI gtI apI sbI stI rpI lnG gtG apG sbG stG rpG fi fb fs fl fg fc sln sgt sap ssb sc b2s s2b nd call calld callv callvd loop rfun fin hk
  have hln : lnI l = z := by rw [hk.lnI_eq]; omega
  have hgm := hk.gtI_eq l
  have hl1 : ∀ x, lnI [x] = 1 := fun x => hk.lnI_eq _
  have hlno : ∀ (out : List Int) (i : Int), 0 ≤ i → out.length = i.toNat → lnI out = i := fun out i h h2 => by rw [hk.lnI_eq]; omega
  have hrt : r.take z.toNat = r := by rw [List.take_of_length_le (by omega)]
  (conv => cbv)
  try rw [hln]
  repeat' (first
    | assumption
    | (refine hk.brLss (fun _ => ?_) (fun _ => ?_) <;> (conv => cbv))
    | (refine hk.brLeq (fun _ => ?_) (fun _ => ?_) <;> (conv => cbv))
    | (refine hk.brGtr (fun _ => ?_) (fun _ => ?_) <;> (conv => cbv))
    | (refine hk.brGeq (fun _ => ?_) (fun _ => ?_) <;> (conv => cbv))
    | (refine hk.brEql (fun _ => ?_) (fun _ => ?_) <;> (conv => cbv))
    | (refine hk.brNeq (fun _ => ?_) (fun _ => ?_) <;> (conv => cbv))
    | (refine hk.brNotT ?_; (conv => cbv))
    | (refine hk.brNotF ?_; (conv => cbv))
    | (refine hk.idxI (by first | omega | assumption) (by first | omega | assumption) ?_; (conv => cbv))
    | (refine hk.nzI (by first | omega | assumption | decide) ?_; (conv => cbv))
    | (refine hk.ge0I (by first | omega | assumption) ?_; (conv => cbv))
    | (refine hk.needI (by first | (simp only [rNd, hk.sb_eq, hk.ad_eq]; omega) | (simp [rNd, hk.sb_eq, hk.ad_eq]; omega)) ?_; (conv => cbv))
    | (refine hk.callA (by assumption) ?_; (conv => cbv))
    | (refine hk.calldA (by assumption) ?_; (conv => cbv))
    | (rw [hk.sb0]; (conv => cbv))
    | (rw [hk.ad0]; (conv => cbv))
    | exact hk.finB (by first | rfl | assumption)
    | exact hk.fin1 rfl)
  try rw [hln]
  refine hk.loopI (loop_rule (α := Int × List Int × Int × List Int) (fun x => [(2, .ls .nl .nil), (3, .sl 1 n 0 x.2.2.1), (4, .ls (.il .i64 x.2.2.2) (.tok 2 0)), (12, .ls (.il .i64 l) .any), (13, .int .i64 z), (14, .int .i64 x.1)]) (fun x => [.tok 0, .rw n (.il .i64 x.2.1), .tok 0])
    (fun x => 0 ≤ x.1 ∧ x.1 ≤ z ∧ x.2.2.1 = z - x.1 ∧ x.2.1.length = n ∧ x.2.2.2.length = x.1.toNat ∧ Inc (x.2.1.take x.2.2.1.toNat) ∧ (x.2.1.take x.2.2.1.toNat).Perm (l.drop x.1.toNat) ∧ res = x.2.2.2 ++ mk (l.drop x.1.toNat)) (fun x => (z - x.1).toNat) (0, r, z, [])
      ⟨by omega, by simp only; omega, by simp only; omega, hrl, rfl, by simp only; rw [hrt]; exact hri, by simp only; rw [hrt]; simpa using hp, by simp [hres]⟩ ?_ ?_)
  · refine Gh.trans (Gh.thaw 4 (.il .i64 []) rfl trivial rfl) (Gh.tm ?_)
    repeat' (first | exact Holds.nil _ _ | refine Holds.cons (Wk.refl _ _) ?_)
  intro ⟨i, L, nn, out⟩ ⟨hi, hi2, hnn, hL, hol, hI, hP, hJ⟩ Q' hb hx hr
  simp only at hi hi2 hnn hL hJ hol hI hP
  have hlno := hlno out i hi hol
  have hapl : ∀ x, (apI out [x]).length = (i + 1).toNat := fun x => by rw [hk.apI_eq, List.length_append, hol]; simp; omega
  have htk : (L.take nn.toNat).length = nn.toNat := by rw [List.length_take]; omega
  (conv => cbv)
  refine hk.brLss (fun h2 => ?_) (fun h2 => ?_)
  · obtain ⟨c, hc⟩ : ∃ c, c = gtI l i := ⟨_, rfl⟩
    have hci : c = l.getD i.toNat 0 := by rw [hc, hgm]
    have hdc : l.drop i.toNat = c :: l.drop (i.toNat + 1) := by
      rw [List.drop_eq_getElem_cons (by omega), hci]; simp [List.getD, show i.toNat < l.length by omega]
    have hcm : c ∈ L.take nn.toNat := hP.mem_iff.2 (by rw [hdc]; simp)
    have hbs := hbs L nn c (by omega) (by omega) (by omega) hI hcm
    have hnew : ∀ (m n1 : Int), n1 = nn - 1 → 0 ≤ m → m.toNat = cnt (L.take nn.toNat) c → m.toNat < (L.take nn.toNat).length → (L.take nn.toNat).getD m.toNat 0 = c → ∀ K : List Int, K.take n1.toNat = (L.take nn.toNat).eraseIdx m.toNat →
        Inc (K.take n1.toNat) ∧ (K.take n1.toNat).Perm (l.drop (i + 1).toNat) ∧ res = apI out [m] ++ mk (l.drop (i + 1).toNat) := fun m n1 e1 e0 e2 e3 e4 K hK => by
      rw [hK, show (i + 1).toNat = i.toNat + 1 by omega]
      refine ⟨erase_inc hI _, ?_, ?_⟩
      · have := (erase_perm e3).trans hP
        rw [e4, hdc] at this
        exact (List.perm_cons c).1 this
      · rw [hJ, hdc, hk.apI_eq]
        have e5 : cnt (l.drop (i.toNat + 1)) c = m.toNat := by rw [e2, cnt_perm hP, hdc, cnt_self]
        simp only [mk]
        rw [e5, show ((m.toNat : Nat) : Int) = m by omega]
        simp
    clear hJ hdc
    have hbq : Nat.beq n n = true := Nat.beq_refl n
    (conv at hbq => cbv)
    (conv => cbv)
    try rw [hln]
    refine hk.idxI hi h2 ?_
    (conv => cbv)
    rw [← hc]
    refine hk.callI hbs fun r h ⟨m, b, hm0, hm1, hm2, hm3, e1, e2⟩ => ?_
    subst e1 e2
    obtain ⟨m1, hm4⟩ : ∃ m1, m1 = m + 1 := ⟨_, rfl⟩
    obtain ⟨n1, hn1⟩ : ∃ n1, n1 = nn - 1 := ⟨_, rfl⟩
    have hdl := hdel L nn m m1 n1 hm4 hm0 (by omega) (by omega) hn1 (by omega)
    have ha1 : i2 .add .i64 m 1 = m1 := by rw [hm4]; exact hk.add64 _ _ (by omega) (by omega)
    have hnew := hnew m n1 hn1 hm0 hm1 hm2 hm3
    (conv => cbv)
    rw [hlno, hl1, ha1]
    refine hk.needI (by simp only [rNd, hk.ad_eq]; omega) (hk.callI hdl fun r h ⟨K, k1, k2, k3, k4⟩ => ?_)
    subst k3 k4
    obtain ⟨g1, g2, g3⟩ := hnew K k2
    (conv => cbv)
    refine hb (i + 1, K, n1, apI out [m]) _ ⟨by simp only; omega, by simp only; omega, by simp only; omega, by simp only; omega, hapl _, g1, g2, g3⟩ (by simp only; omega) ?_
    refine Gh.retok 2 1 rfl (Nat.le_of_ble_eq_true rfl) ?_ rfl rfl
    repeat' (first | exact HoldsT.nil _ _ _ _ | refine HoldsT.tok rfl ?_ | refine HoldsT.cons (Wk.refl _ _) rfl ?_ | refine HoldsT.cons (Wk.of_eq ?_) rfl ?_)
    all_goals first
      | (rw [← hk.add64 i 1 (by omega) (by omega)]; rfl)
      | rfl
      | skip
  · have : l.drop i.toNat = [] := by rw [List.drop_eq_nil_iff]; omega
    rw [this] at hJ
    simp only [mk, List.append_nil] at hJ
    subst hJ
    refine hx _ _ ?_
    (conv => cbv)
    exact hk.fin0 rfl rfl (Wk.any _ _ _)
end Go.Proofs.Ytnnpookoencpnaa
set_option maxHeartbeats 4000000
set_option maxRecDepth 20000
set_option linter.unusedSimpArgs false
set_option linter.unusedVariables false
open Go Go.AL
namespace Go.Proofs.Ytnnpookoencpnaa
theorem of_bad (ms : List Int) (h : Heap) (hb : ¬ (1 ≤ ms.length ∧ ms.length ≤ 8)) : Does PP 28 [LI ms] h (Is (.tup [LI [], I 11]) h) := by
  refine pure0 ?_ rfl rfl h
  obtain ⟨z, hz⟩ : ∃ z : Int, z = ms.length := ⟨_, rfl⟩
  have hc := count_spec z []
  rw [show (decide (1 ≤ z) && decide (z ≤ 8)) = false by simp; omega] at hc
  refine doesF P_ok Try.f28 (by kernel_rfl) (by kernel_rfl) ?_
  intro i2 c2 u1 cv mx mn ad sbt bn bq ba lnI gtI apI sbI stI rpI lnG gtG apG sbG stG rpG fi fb fs fl fg fc sln sgt sap ssb sc b2s s2b nd call calld callv callvd loop rfun fin hk
  have hln : lnI ms = z := by rw [hk.lnI_eq]; omega
  (conv => cbv)
  rw [hln]
  repeat' (first
    | assumption
    | (refine hk.brLssT (by omega) ?_; (conv => cbv))
    | (refine hk.brLssF (by omega) ?_; (conv => cbv))
    | (refine hk.brLeqT (by omega) ?_; (conv => cbv))
    | (refine hk.brLeqF (by omega) ?_; (conv => cbv))
    | (refine hk.brGtrT (by omega) ?_; (conv => cbv))
    | (refine hk.brGtrF (by omega) ?_; (conv => cbv))
    | (refine hk.brGeqT (by omega) ?_; (conv => cbv))
    | (refine hk.brGeqF (by omega) ?_; (conv => cbv))
    | (refine hk.brEqlT (by omega) ?_; (conv => cbv))
    | (refine hk.brEqlF (by omega) ?_; (conv => cbv))
    | (refine hk.brNeqT (by omega) ?_; (conv => cbv))
    | (refine hk.brNeqF (by omega) ?_; (conv => cbv))
    | (refine hk.brLss (fun _ => ?_) (fun _ => ?_) <;> (conv => cbv))
    | (refine hk.brLeq (fun _ => ?_) (fun _ => ?_) <;> (conv => cbv))
    | (refine hk.brGtr (fun _ => ?_) (fun _ => ?_) <;> (conv => cbv))
    | (refine hk.brGeq (fun _ => ?_) (fun _ => ?_) <;> (conv => cbv))
    | (refine hk.brEql (fun _ => ?_) (fun _ => ?_) <;> (conv => cbv))
    | (refine hk.brNeq (fun _ => ?_) (fun _ => ?_) <;> (conv => cbv))
    | (refine hk.brNotT ?_; (conv => cbv))
    | (refine hk.brNotF ?_; (conv => cbv))
    | (refine hk.brNotS _ (by simp [hk.c2_lss, hk.c2_leq, hk.c2_gtr, hk.c2_geq, hk.c2_eql, hk.c2_neq, hk.bn_eq, hk.bq_eq]; rfl) ?_; (conv => cbv))
    | (refine hk.brBqS _ (by simp [hk.c2_lss, hk.c2_leq, hk.c2_gtr, hk.c2_geq, hk.c2_eql, hk.c2_neq, hk.bn_eq, hk.bq_eq]; rfl) ?_; (conv => cbv))
    | (refine hk.idxI (by first | omega | assumption) (by first | omega | assumption) ?_; (conv => cbv))
    | (refine hk.nzI (by first | omega | assumption | decide) ?_; (conv => cbv))
    | (refine hk.ge0I (by first | omega | assumption) ?_; (conv => cbv))
    | (refine hk.needI (by first | (simp only [rNd, hk.sb_eq, hk.ad_eq]; omega) | (simp [rNd, hk.sb_eq, hk.ad_eq]; omega)) ?_; (conv => cbv))
    | (refine hk.callA (by assumption) ?_; (conv => cbv))
    | (refine hk.calldA (by assumption) ?_; (conv => cbv))
    | (rw [hk.sb0]; (conv => cbv))
    | (rw [hk.ad0]; (conv => cbv))
    | exact hk.finB (by first | rfl | assumption | (simp [hk.c2_lss, hk.c2_leq, hk.c2_gtr, hk.c2_geq, hk.c2_eql, hk.c2_neq, hk.bn_eq, hk.bq_eq]; done))
    | exact hk.fin1 rfl)
  exact hk.fin0 rfl rfl (Wk.tup ⟨Wk.nilL _ _, .refl _ _, trivial⟩)
theorem refOf_bad (ms : List Int) (h : Heap) (hb : ¬ (1 ≤ ms.length ∧ ms.length ≤ 8)) : Does PP 29 [LI ms] h (Is (.tup [LI [], .bool false]) h) := by
  refine pure0 ?_ rfl rfl h
  obtain ⟨z, hz⟩ : ∃ z : Int, z = ms.length := ⟨_, rfl⟩
  refine doesF P_ok Try.f29 (by kernel_rfl) (by kernel_rfl) ?_
  intro i2 c2 u1 cv mx mn ad sbt bn bq ba lnI gtI apI sbI stI rpI lnG gtG apG sbG stG rpG fi fb fs fl fg fc sln sgt sap ssb sc b2s s2b nd call calld callv callvd loop rfun fin hk
  have hln : lnI ms = z := by rw [hk.lnI_eq]; omega
  (conv => cbv)
  rw [hln]
  refine hk.brLss (fun h => ?_) (fun h => ?_)
  · (conv => cbv)
    exact hk.fin0 rfl rfl (Wk.tup ⟨Wk.nilL _ _, .refl _ _, trivial⟩)
  (conv => cbv)
  try rw [hln]
  refine hk.brGtr (fun h => ?_) (fun h => ?_)
  · (conv => cbv)
    exact hk.fin0 rfl rfl (Wk.tup ⟨Wk.nilL _ _, .refl _ _, trivial⟩)
  · omega
theorem perm_order {l : List Int} {n : Nat} (h1 : 1 ≤ n) (h8 : n ≤ 8) (hp : (rangeI n).Perm l) : Order l := by
  have hl := hp.length_eq
  rw [rangeI_len] at hl
  exact ⟨by omega, by omega, fun i hi => hp.mem_iff.1 (mem_rangeI.2 ⟨by omega, by omega⟩)⟩
theorem rankOf_law (ms : List Int) (hl : ms.length ≤ 9223372036854775807) : Does PP 7 [LI ms] [] (Is (.bool true) []) := by
  have haw := awake12 []
  by_cases hb : 1 ≤ ms.length ∧ ms.length ≤ 8
  · obtain ⟨n, hn⟩ : ∃ n, n = ms.length := ⟨_, rfl⟩
    obtain ⟨z, hz⟩ : ∃ z : Int, z = (n : Int) := ⟨_, rfl⟩
    have hzn : z.toNat = n := by omega
    obtain ⟨res, hres⟩ : ∃ x, x = ofGo (rangeI n) ms := ⟨_, rfl⟩
    have hA := fun rl re h1 h2 => of_spec ms n z hz hn (by omega) (by omega) rl re h1 h2
    have hB := fun rl re h1 h2 => refOf_spec ms z (by omega) (by omega) (by omega) rl re h1 h2
    rw [hzn, ← hres] at hB
    rw [← hres] at hA
    cases res with
    | none =>
      have hA := hA [] 11 (fun _ h => by cases h) (fun _ => ⟨rfl, rfl⟩)
      have hB := hB [] false (fun _ h => by cases h) (fun _ => ⟨rfl, rfl⟩)
      have hS := same_spec [] [] [] (by decide) (by decide)
      rw [decide_eq_true (rfl : ([] : List Int) = [])] at hS
      refine doesF P_ok Try.f7 (by kernel_rfl) (by kernel_rfl) ?_
      intro i2 c2 u1 cv mx mn ad sbt bn bq ba lnI gtI apI sbI stI rpI lnG gtG apG sbG stG rpG fi fb fs fl fg fc sln sgt sap ssb sc b2s s2b nd call calld callv callvd loop rfun fin hk
      have hln : lnI ms = z := by rw [hk.lnI_eq]; omega
      have hq : ∀ a b, bq a b = (a == b) := hk.bq_eq
      have hz20 : z ≤ 8 := by omega
      (conv => cbv)
      try rw [hln]
      repeat' (first
        | assumption
        | (refine hk.brLssT (by omega) ?_; (conv => cbv))
        | (refine hk.brLssF (by omega) ?_; (conv => cbv))
        | (refine hk.brLeqT (by omega) ?_; (conv => cbv))
        | (refine hk.brLeqF (by omega) ?_; (conv => cbv))
        | (refine hk.brGtrT (by omega) ?_; (conv => cbv))
        | (refine hk.brGtrF (by omega) ?_; (conv => cbv))
        | (refine hk.brGeqT (by omega) ?_; (conv => cbv))
        | (refine hk.brGeqF (by omega) ?_; (conv => cbv))
        | (refine hk.brEqlT (by omega) ?_; (conv => cbv))
        | (refine hk.brEqlF (by omega) ?_; (conv => cbv))
        | (refine hk.brNeqT (by omega) ?_; (conv => cbv))
        | (refine hk.brNeqF (by omega) ?_; (conv => cbv))
        | (refine hk.brLss (fun _ => ?_) (fun _ => ?_) <;> (conv => cbv))
        | (refine hk.brLeq (fun _ => ?_) (fun _ => ?_) <;> (conv => cbv))
        | (refine hk.brGtr (fun _ => ?_) (fun _ => ?_) <;> (conv => cbv))
        | (refine hk.brGeq (fun _ => ?_) (fun _ => ?_) <;> (conv => cbv))
        | (refine hk.brEql (fun _ => ?_) (fun _ => ?_) <;> (conv => cbv))
        | (refine hk.brNeq (fun _ => ?_) (fun _ => ?_) <;> (conv => cbv))
        | (refine hk.brNotT ?_; (conv => cbv))
        | (refine hk.brNotF ?_; (conv => cbv))
        | (refine hk.brNotS _ (by simp [hk.c2_lss, hk.c2_leq, hk.c2_gtr, hk.c2_geq, hk.c2_eql, hk.c2_neq, hk.bn_eq, hk.bq_eq]; rfl) ?_; (conv => cbv))
        | (refine hk.brBqS _ (by simp [hk.c2_lss, hk.c2_leq, hk.c2_gtr, hk.c2_geq, hk.c2_eql, hk.c2_neq, hk.bn_eq, hk.bq_eq]; rfl) ?_; (conv => cbv))
        | (refine hk.idxI (by first | omega | assumption) (by first | omega | assumption) ?_; (conv => cbv))
        | (refine hk.nzI (by first | omega | assumption | decide) ?_; (conv => cbv))
        | (refine hk.ge0I (by first | omega | assumption) ?_; (conv => cbv))
        | (refine hk.needI (by first | (simp only [rNd, hk.sb_eq, hk.ad_eq]; omega) | (simp [rNd, hk.sb_eq, hk.ad_eq]; omega)) ?_; (conv => cbv))
        | (refine hk.callA (by assumption) ?_; (conv => cbv))
        | (refine hk.calldA (by assumption) ?_; (conv => cbv))
        | (rw [hk.sb0]; (conv => cbv))
        | (rw [hk.ad0]; (conv => cbv))
        | exact hk.finB (by first | rfl | assumption | (simp [hk.c2_lss, hk.c2_leq, hk.c2_gtr, hk.c2_geq, hk.c2_eql, hk.c2_neq, hk.bn_eq, hk.bq_eq]; done))
        | exact hk.fin1 rfl)
      all_goals skip
    | some x =>
      have hA := hA x 0 (fun y h => by cases h; exact ⟨rfl, rfl⟩) (fun h => by cases h)
      have hB := hB x true (fun y h => by cases h; exact ⟨rfl, rfl⟩) (fun h => by cases h)
      have hxl : x.length = n := by have := (mk_ofGo ms (rangeI n) x (rangeI_inc n) (by rw [rangeI_len, hn]) hres.symm).1.length_eq; rw [rangeI_len] at this; exact this.symm
      have hS := same_spec x x [] (by omega) (by omega)
      rw [decide_eq_true (rfl : x = x)] at hS
      obtain ⟨hp, hm⟩ := mk_ofGo ms (rangeI n) x (rangeI_inc n) (by rw [rangeI_len, hn]) hres.symm
      have hM := marks_spec x n z (by omega) (by omega) (by omega) (by omega) (by omega) hp []
      rw [hm] at hM
      have hG := good_spec x [] (by omega)
      rw [(orderB_iff x).2 (perm_order (by omega) (by omega) hp)] at hG
      have hS2 := same_spec ms ms [] (by omega) (by omega)
      rw [decide_eq_true (rfl : ms = ms)] at hS2
      refine doesF P_ok Try.f7 (by kernel_rfl) (by kernel_rfl) ?_
      intro i2 c2 u1 cv mx mn ad sbt bn bq ba lnI gtI apI sbI stI rpI lnG gtG apG sbG stG rpG fi fb fs fl fg fc sln sgt sap ssb sc b2s s2b nd call calld callv callvd loop rfun fin hk
      have hln : lnI ms = z := by rw [hk.lnI_eq]; omega
      have hz20 : z ≤ 8 := by omega
      (conv => cbv)
      try rw [hln]
      repeat' (first
        | assumption
        | (refine hk.brLssT (by omega) ?_; (conv => cbv))
        | (refine hk.brLssF (by omega) ?_; (conv => cbv))
        | (refine hk.brLeqT (by omega) ?_; (conv => cbv))
        | (refine hk.brLeqF (by omega) ?_; (conv => cbv))
        | (refine hk.brGtrT (by omega) ?_; (conv => cbv))
        | (refine hk.brGtrF (by omega) ?_; (conv => cbv))
        | (refine hk.brGeqT (by omega) ?_; (conv => cbv))
        | (refine hk.brGeqF (by omega) ?_; (conv => cbv))
        | (refine hk.brEqlT (by omega) ?_; (conv => cbv))
        | (refine hk.brEqlF (by omega) ?_; (conv => cbv))
        | (refine hk.brNeqT (by omega) ?_; (conv => cbv))
        | (refine hk.brNeqF (by omega) ?_; (conv => cbv))
        | (refine hk.brLss (fun _ => ?_) (fun _ => ?_) <;> (conv => cbv))
        | (refine hk.brLeq (fun _ => ?_) (fun _ => ?_) <;> (conv => cbv))
        | (refine hk.brGtr (fun _ => ?_) (fun _ => ?_) <;> (conv => cbv))
        | (refine hk.brGeq (fun _ => ?_) (fun _ => ?_) <;> (conv => cbv))
        | (refine hk.brEql (fun _ => ?_) (fun _ => ?_) <;> (conv => cbv))
        | (refine hk.brNeq (fun _ => ?_) (fun _ => ?_) <;> (conv => cbv))
        | (refine hk.brNotT ?_; (conv => cbv))
        | (refine hk.brNotF ?_; (conv => cbv))
        | (refine hk.brNotS _ (by simp [hk.c2_lss, hk.c2_leq, hk.c2_gtr, hk.c2_geq, hk.c2_eql, hk.c2_neq, hk.bn_eq, hk.bq_eq]; rfl) ?_; (conv => cbv))
        | (refine hk.brBqS _ (by simp [hk.c2_lss, hk.c2_leq, hk.c2_gtr, hk.c2_geq, hk.c2_eql, hk.c2_neq, hk.bn_eq, hk.bq_eq]; rfl) ?_; (conv => cbv))
        | (refine hk.idxI (by first | omega | assumption) (by first | omega | assumption) ?_; (conv => cbv))
        | (refine hk.nzI (by first | omega | assumption | decide) ?_; (conv => cbv))
        | (refine hk.ge0I (by first | omega | assumption) ?_; (conv => cbv))
        | (refine hk.needI (by first | (simp only [rNd, hk.sb_eq, hk.ad_eq]; omega) | (simp [rNd, hk.sb_eq, hk.ad_eq]; omega)) ?_; (conv => cbv))
        | (refine hk.callA (by assumption) ?_; (conv => cbv))
        | (refine hk.calldA (by assumption) ?_; (conv => cbv))
        | (rw [hk.sb0]; (conv => cbv))
        | (rw [hk.ad0]; (conv => cbv))
        | exact hk.finB (by first | rfl | assumption | (simp [hk.c2_lss, hk.c2_leq, hk.c2_gtr, hk.c2_geq, hk.c2_eql, hk.c2_neq, hk.bn_eq, hk.bq_eq]; done))
        | exact hk.fin1 rfl)
      all_goals skip
  · have hA := of_bad ms [] hb
    have hB := refOf_bad ms [] hb
    have hS := same_spec [] [] [] (by decide) (by decide)
    rw [decide_eq_true (rfl : ([] : List Int) = [])] at hS
    refine doesF P_ok Try.f7 (by kernel_rfl) (by kernel_rfl) ?_
    intro i2 c2 u1 cv mx mn ad sbt bn bq ba lnI gtI apI sbI stI rpI lnG gtG apG sbG stG rpG fi fb fs fl fg fc sln sgt sap ssb sc b2s s2b nd call calld callv callvd loop rfun fin hk
    (conv => cbv)
    repeat' (first
      | assumption
      | (refine hk.brLssT (by omega) ?_; (conv => cbv))
      | (refine hk.brLssF (by omega) ?_; (conv => cbv))
      | (refine hk.brLeqT (by omega) ?_; (conv => cbv))
      | (refine hk.brLeqF (by omega) ?_; (conv => cbv))
      | (refine hk.brGtrT (by omega) ?_; (conv => cbv))
      | (refine hk.brGtrF (by omega) ?_; (conv => cbv))
      | (refine hk.brGeqT (by omega) ?_; (conv => cbv))
      | (refine hk.brGeqF (by omega) ?_; (conv => cbv))
      | (refine hk.brEqlT (by omega) ?_; (conv => cbv))
      | (refine hk.brEqlF (by omega) ?_; (conv => cbv))
      | (refine hk.brNeqT (by omega) ?_; (conv => cbv))
      | (refine hk.brNeqF (by omega) ?_; (conv => cbv))
      | (refine hk.brLss (fun _ => ?_) (fun _ => ?_) <;> (conv => cbv))
      | (refine hk.brLeq (fun _ => ?_) (fun _ => ?_) <;> (conv => cbv))
      | (refine hk.brGtr (fun _ => ?_) (fun _ => ?_) <;> (conv => cbv))
      | (refine hk.brGeq (fun _ => ?_) (fun _ => ?_) <;> (conv => cbv))
      | (refine hk.brEql (fun _ => ?_) (fun _ => ?_) <;> (conv => cbv))
      | (refine hk.brNeq (fun _ => ?_) (fun _ => ?_) <;> (conv => cbv))
      | (refine hk.brNotT ?_; (conv => cbv))
      | (refine hk.brNotF ?_; (conv => cbv))
      | (refine hk.brNotS _ (by simp [hk.c2_lss, hk.c2_leq, hk.c2_gtr, hk.c2_geq, hk.c2_eql, hk.c2_neq, hk.bn_eq, hk.bq_eq]; rfl) ?_; (conv => cbv))
      | (refine hk.brBqS _ (by simp [hk.c2_lss, hk.c2_leq, hk.c2_gtr, hk.c2_geq, hk.c2_eql, hk.c2_neq, hk.bn_eq, hk.bq_eq]; rfl) ?_; (conv => cbv))
      | (refine hk.idxI (by first | omega | assumption) (by first | omega | assumption) ?_; (conv => cbv))
      | (refine hk.nzI (by first | omega | assumption | decide) ?_; (conv => cbv))
      | (refine hk.ge0I (by first | omega | assumption) ?_; (conv => cbv))
      | (refine hk.needI (by first | (simp only [rNd, hk.sb_eq, hk.ad_eq]; omega) | (simp [rNd, hk.sb_eq, hk.ad_eq]; omega)) ?_; (conv => cbv))
      | (refine hk.callA (by assumption) ?_; (conv => cbv))
      | (refine hk.calldA (by assumption) ?_; (conv => cbv))
      | (rw [hk.sb0]; (conv => cbv))
      | (rw [hk.ad0]; (conv => cbv))
      | exact hk.finB (by first | rfl | assumption | (simp [hk.c2_lss, hk.c2_leq, hk.c2_gtr, hk.c2_geq, hk.c2_eql, hk.c2_neq, hk.bn_eq, hk.bq_eq]; done))
      | exact hk.fin1 rfl)
end Go.Proofs.Ytnnpookoencpnaa
set_option maxHeartbeats 4000000
set_option maxRecDepth 20000
set_option linter.unusedSimpArgs false
set_option linter.unusedVariables false
open Go Go.AL
namespace Go.Proofs.Ytnnpookoencpnaa
theorem rankMarks_law (l : List Int) (hl : l.length ≤ 9223372036854775807) : Does PP 8 [LI l] [] (Is (.bool true) []) := by
  have haw := awake12 []
  have hG := good_spec l [] hl
  have hRG := refGood_spec l [] hl
  obtain ⟨b, hb⟩ : ∃ b, b = orderB l := ⟨_, rfl⟩
  have hbt : b = true → Order l := fun h => (orderB_iff l).1 (by rw [← hb]; exact h)
  rw [← hb] at hG hRG
  cases b with
  | false =>
    refine doesF P_ok Try.f8 (by kernel_rfl) (by kernel_rfl) ?_
    intro i2 c2 u1 cv mx mn ad sbt bn bq ba lnI gtI apI sbI stI rpI lnG gtG apG sbG stG rpG fi fb fs fl fg fc sln sgt sap ssb sc b2s s2b nd call calld callv callvd loop rfun fin hk
    (conv => cbv)
    repeat' (first
      | assumption
      | (refine hk.brLssT (by omega) ?_; (conv => cbv))
      | (refine hk.brLssF (by omega) ?_; (conv => cbv))
      | (refine hk.brLeqT (by omega) ?_; (conv => cbv))
      | (refine hk.brLeqF (by omega) ?_; (conv => cbv))
      | (refine hk.brGtrT (by omega) ?_; (conv => cbv))
      | (refine hk.brGtrF (by omega) ?_; (conv => cbv))
      | (refine hk.brGeqT (by omega) ?_; (conv => cbv))
      | (refine hk.brGeqF (by omega) ?_; (conv => cbv))
      | (refine hk.brEqlT (by omega) ?_; (conv => cbv))
      | (refine hk.brEqlF (by omega) ?_; (conv => cbv))
      | (refine hk.brNeqT (by omega) ?_; (conv => cbv))
      | (refine hk.brNeqF (by omega) ?_; (conv => cbv))
      | (refine hk.brLss (fun _ => ?_) (fun _ => ?_) <;> (conv => cbv))
      | (refine hk.brLeq (fun _ => ?_) (fun _ => ?_) <;> (conv => cbv))
      | (refine hk.brGtr (fun _ => ?_) (fun _ => ?_) <;> (conv => cbv))
      | (refine hk.brGeq (fun _ => ?_) (fun _ => ?_) <;> (conv => cbv))
      | (refine hk.brEql (fun _ => ?_) (fun _ => ?_) <;> (conv => cbv))
      | (refine hk.brNeq (fun _ => ?_) (fun _ => ?_) <;> (conv => cbv))
      | (refine hk.brNotT ?_; (conv => cbv))
      | (refine hk.brNotF ?_; (conv => cbv))
      | (refine hk.brNotS _ (by simp [hk.c2_lss, hk.c2_leq, hk.c2_gtr, hk.c2_geq, hk.c2_eql, hk.c2_neq, hk.bn_eq, hk.bq_eq]; rfl) ?_; (conv => cbv))
      | (refine hk.brBqS _ (by simp [hk.c2_lss, hk.c2_leq, hk.c2_gtr, hk.c2_geq, hk.c2_eql, hk.c2_neq, hk.bn_eq, hk.bq_eq]; rfl) ?_; (conv => cbv))
      | (refine hk.idxI (by first | omega | assumption) (by first | omega | assumption) ?_; (conv => cbv))
      | (refine hk.nzI (by first | omega | assumption | decide) ?_; (conv => cbv))
      | (refine hk.ge0I (by first | omega | assumption) ?_; (conv => cbv))
      | (refine hk.needI (by first | (simp only [rNd, hk.sb_eq, hk.ad_eq]; omega) | (simp [rNd, hk.sb_eq, hk.ad_eq]; omega)) ?_; (conv => cbv))
      | (refine hk.callA (by assumption) ?_; (conv => cbv))
      | (refine hk.calldA (by assumption) ?_; (conv => cbv))
      | (rw [hk.sb0]; (conv => cbv))
      | (rw [hk.ad0]; (conv => cbv))
      | exact hk.finB (by first | rfl | assumption | (simp [hk.c2_lss, hk.c2_leq, hk.c2_gtr, hk.c2_geq, hk.c2_eql, hk.c2_neq, hk.bn_eq, hk.bq_eq]; done))
      | exact hk.fin1 rfl)
  | true =>
    have ho := hbt rfl
    obtain ⟨n, hn⟩ : ∃ n, n = l.length := ⟨_, rfl⟩
    obtain ⟨z, hz⟩ : ∃ z : Int, z = (n : Int) := ⟨_, rfl⟩
    have h1 := ho.1
    have h8 := ho.2.1
    have hzn : z.toNat = n := by omega
    have hp : (rangeI n).Perm l := by rw [hn]; exact order_perm ho.2.2
    have hofg := ofGo_mk l (rangeI n) (rangeI_inc n) hp
    have hM : ∀ h, Does PP 30 [LI l] h (Is (LI (mk l)) h) := marks_spec l n z (by omega) (by omega) (by omega) (by omega) (by omega) hp
    have hRM : ∀ h, Does PP 31 [LI l] h (Is (LI (mk l)) h) := fun h => refMarks_spec l h z (by omega) (by omega) (by omega)
    have hPl : ∀ h, Does PP 26 [LI l] h (Is (LI (places l)) h) := fun h => places_spec l h h8 ho.bounds
    have hml := mk_len l
    have hO : ∀ h, Does PP 28 [LI (mk l)] h (Is (.tup [LI l, I 0]) h) := fun h => pure0 (of_spec (mk l) n z hz (by omega) (by omega) (by omega) l 0 (fun x e => by rw [hofg] at e; cases e; exact ⟨rfl, rfl⟩) (fun e => by rw [hofg] at e; cases e)) rfl rfl h
    obtain ⟨M, hMe⟩ : ∃ M, M = mk l := ⟨_, rfl⟩
    obtain ⟨P, hPe⟩ : ∃ P, P = places l := ⟨_, rfl⟩
    have hPl2 : P.length = n := by rw [hPe, places_len]; omega
    have hplc : ∀ i, i < n → 0 ≤ l.getD i 0 ∧ (l.getD i 0).toNat < n ∧ P.getD (l.getD i 0).toNat 0 = i := fun i hi => by
      have := ho.bounds i (by omega)
      refine ⟨this.1, by omega, ?_⟩
      rw [hPe]
      exact plc_get ho l.length (Nat.le_refl _) i (by omega)
    rw [← hMe] at hM hRM hO hml
    rw [← hPe] at hPl
    have hS1 : ∀ h, Does PP 16 [LI M, LI M] h (Is (.bool true) h) := fun h => by
      have := same_spec M M h (by omega) (by omega)
      rwa [decide_eq_true (rfl : M = M)] at this
    have hS2 : ∀ h, Does PP 16 [LI l, LI l] h (Is (.bool true) h) := fun h => by
      have := same_spec l l h (by omega) (by omega)
      rwa [decide_eq_true (rfl : l = l)] at this
    clear hofg hMe hPe hbt hb
    refine doesF P_ok Try.f8 (by kernel_rfl) (by kernel_rfl) ?_
    intro i2 c2 u1 cv mx mn ad sbt bn bq ba lnI gtI apI sbI stI rpI lnG gtG apG sbG stG rpG fi fb fs fl fg fc sln sgt sap ssb sc b2s s2b nd call calld callv callvd loop rfun fin hk
    have hln : lnI l = z := by rw [hk.lnI_eq]; omega
    have hlp : lnI P = z := by rw [hk.lnI_eq]; omega
    have hz20 : 1 ≤ z ∧ z ≤ 8 := by omega
    have hplc : ∀ i : Int, 0 ≤ i → i < z → 0 ≤ gtI l i ∧ gtI l i < z ∧ gtI P (gtI l i) = i := fun i h0 h1 => by
      obtain ⟨g1, g2, g3⟩ := hplc i.toNat (by omega)
      rw [hk.gtI_eq, hk.gtI_eq]
      exact ⟨g1, by omega, by omega⟩
    clear hz
    (conv => cbv)
    repeat' (first
      | assumption
      | (refine hk.callA (Does.wk (hM _) ?_) ?_
         · (repeat' (first | exact WkL.nil | refine WkL.cons (Wk.refl _ _) ?_ | refine WkL.cons (Wk.any _ _ _) ?_ | refine WkL.cons (Wk.nilL _ _) ?_))
         (conv => cbv))
      | (refine hk.callA (Does.wk (hRM _) ?_) ?_
         · (repeat' (first | exact WkL.nil | refine WkL.cons (Wk.refl _ _) ?_ | refine WkL.cons (Wk.any _ _ _) ?_ | refine WkL.cons (Wk.nilL _ _) ?_))
         (conv => cbv))
      | (refine hk.callA (Does.wk (hPl _) ?_) ?_
         · (repeat' (first | exact WkL.nil | refine WkL.cons (Wk.refl _ _) ?_ | refine WkL.cons (Wk.any _ _ _) ?_ | refine WkL.cons (Wk.nilL _ _) ?_))
         (conv => cbv))
      | (refine hk.callA (Does.wk (hO _) ?_) ?_
         · (repeat' (first | exact WkL.nil | refine WkL.cons (Wk.refl _ _) ?_ | refine WkL.cons (Wk.any _ _ _) ?_ | refine WkL.cons (Wk.nilL _ _) ?_))
         (conv => cbv))
      | (refine hk.callA (Does.wk (hS1 _) ?_) ?_
         · (repeat' (first | exact WkL.nil | refine WkL.cons (Wk.refl _ _) ?_ | refine WkL.cons (Wk.any _ _ _) ?_ | refine WkL.cons (Wk.nilL _ _) ?_))
         (conv => cbv))
      | (refine hk.callA (Does.wk (hS2 _) ?_) ?_
         · (repeat' (first | exact WkL.nil | refine WkL.cons (Wk.refl _ _) ?_ | refine WkL.cons (Wk.any _ _ _) ?_ | refine WkL.cons (Wk.nilL _ _) ?_))
         (conv => cbv))
      | (refine hk.brLssT (by omega) ?_; (conv => cbv))
      | (refine hk.brLssF (by omega) ?_; (conv => cbv))
      | (refine hk.brLeqT (by omega) ?_; (conv => cbv))
      | (refine hk.brLeqF (by omega) ?_; (conv => cbv))
      | (refine hk.brGtrT (by omega) ?_; (conv => cbv))
      | (refine hk.brGtrF (by omega) ?_; (conv => cbv))
      | (refine hk.brGeqT (by omega) ?_; (conv => cbv))
      | (refine hk.brGeqF (by omega) ?_; (conv => cbv))
      | (refine hk.brEqlT (by omega) ?_; (conv => cbv))
      | (refine hk.brEqlF (by omega) ?_; (conv => cbv))
      | (refine hk.brNeqT (by omega) ?_; (conv => cbv))
      | (refine hk.brNeqF (by omega) ?_; (conv => cbv))
      | (refine hk.brLss (fun _ => ?_) (fun _ => ?_) <;> (conv => cbv))
      | (refine hk.brLeq (fun _ => ?_) (fun _ => ?_) <;> (conv => cbv))
      | (refine hk.brGtr (fun _ => ?_) (fun _ => ?_) <;> (conv => cbv))
      | (refine hk.brGeq (fun _ => ?_) (fun _ => ?_) <;> (conv => cbv))
      | (refine hk.brEql (fun _ => ?_) (fun _ => ?_) <;> (conv => cbv))
      | (refine hk.brNeq (fun _ => ?_) (fun _ => ?_) <;> (conv => cbv))
      | (refine hk.brNotT ?_; (conv => cbv))
      | (refine hk.brNotF ?_; (conv => cbv))
      | (refine hk.brNotS _ (by simp [hk.c2_lss, hk.c2_leq, hk.c2_gtr, hk.c2_geq, hk.c2_eql, hk.c2_neq, hk.bn_eq, hk.bq_eq]; rfl) ?_; (conv => cbv))
      | (refine hk.brBqS _ (by simp [hk.c2_lss, hk.c2_leq, hk.c2_gtr, hk.c2_geq, hk.c2_eql, hk.c2_neq, hk.bn_eq, hk.bq_eq]; rfl) ?_; (conv => cbv))
      | (refine hk.idxI (by first | omega | assumption) (by first | omega | assumption) ?_; (conv => cbv))
      | (refine hk.nzI (by first | omega | assumption | decide) ?_; (conv => cbv))
      | (refine hk.ge0I (by first | omega | assumption) ?_; (conv => cbv))
      | (refine hk.needI (by first | (simp only [rNd, hk.sb_eq, hk.ad_eq]; omega) | (simp [rNd, hk.sb_eq, hk.ad_eq]; omega)) ?_; (conv => cbv))
      | (refine hk.callA (by assumption) ?_; (conv => cbv))
      | (refine hk.calldA (by assumption) ?_; (conv => cbv))
      | (rw [hk.sb0]; (conv => cbv))
      | (rw [hk.ad0]; (conv => cbv))
      | exact hk.finB (by first | rfl | assumption | (simp [hk.c2_lss, hk.c2_leq, hk.c2_gtr, hk.c2_geq, hk.c2_eql, hk.c2_neq, hk.bn_eq, hk.bq_eq]; done))
      | exact hk.fin1 rfl)
    try rw [hln]
    refine hk.loopI (loop_rule (α := Int) (fun i => [(6, .ls (.il .i64 P) .any), (67, .ls (.il .i64 l) .any), (68, .int .i64 z), (69, .int .i64 i), (2, .bool false)]) (fun _ => [.tok 1])
      (fun i => 0 ≤ i ∧ i ≤ z) (fun i => (z - i).toNat) 0 ⟨by omega, by omega⟩ ?_ ?_)
    · exact Gh.tm (by repeat (first | exact Holds.nil _ _ | refine Holds.cons (Wk.refl _ _) ?_))
    intro i ⟨hi, hi2⟩ Q' hb hx hr
    (conv => cbv)
    try rw [hln]
    refine hk.brLss (fun h2 => ?_) (fun h2 => ?_)
    · obtain ⟨g1, g2, g3⟩ := hplc i hi h2
      (conv => cbv)
      rw [hln]
      refine hk.idxI hi h2 ?_
      (conv => cbv)
      rw [hlp]
      refine hk.idxI g1 g2 ?_
      (conv => cbv)
      refine hk.brNeqF g3 ?_
      (conv => cbv)
      refine hb (i + 1) _ ⟨by omega, by omega⟩ (by omega) ?_
      refine Gh.tm ?_
      repeat' (first | exact Holds.nil _ _ | refine Holds.cons (Wk.refl _ _) ?_ | refine Holds.cons (Wk.of_eq ?_) ?_)
      all_goals first
        | (rw [← hk.add64 i 1 (by omega) (by omega)]; rfl)
        | rfl
        | skip
    · refine hx _ _ ?_
      (conv => cbv)
      exact hk.fin0 rfl rfl (.refl _ _)
end Go.Proofs.Ytnnpookoencpnaa
