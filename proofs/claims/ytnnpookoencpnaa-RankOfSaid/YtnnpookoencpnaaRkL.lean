/-
  Contracts of functions of the program, proved over the abstract machine of the Al texts.
-/
import Derived.Test.YtnnpookoencpnaaRkK
import Derived.Test.YtnnpookoencpnaaAlRen
set_option maxHeartbeats 4000000
set_option maxRecDepth 20000
set_option linter.unusedSimpArgs false
set_option linter.unusedVariables false
open Go Go.AL
namespace Go.Proofs.Ytnnpookoencpnaa
/-- A run's result that is a row of numbers behind a token. -/
def isRow (n : Nat) : Option (AVal × Heap) → Bool
  | some (.sl 1 g 0 k, .tok 0 :: .rw g' (.il .i64 l) :: r) => intsB l (rangeI n) && g == n && g' == n && k == n
  | _ => false
theorem isRow_ok {n : Nat} {x : Option (AVal × Heap)} (h : isRow n x = true) : ∃ r, x = some (.sl 1 n 0 n, .tok 0 :: .rw n (.il .i64 (rangeI n)) :: r) := by
  unfold isRow at h
  split at h
  · rename_i g k g' l r
    simp only [Bool.and_eq_true, beq_iff_eq] at h
    obtain ⟨⟨⟨h1, h2⟩, h3⟩, h4⟩ := h
    rw [intsB_eq h1, h2, h3, h4]
    exact ⟨r, rfl⟩
  · cases h
theorem firstR_run : ∀ n : Nat, 1 ≤ n → n ≤ 8 → isRow n ((ex PP T M (fun _ => true) 60).F 69 [I n] []) = true
  | 1, _, _ => by kernel_rfl
  | 2, _, _ => by kernel_rfl
  | 3, _, _ => by kernel_rfl
  | 4, _, _ => by kernel_rfl
  | 5, _, _ => by kernel_rfl
  | 6, _, _ => by kernel_rfl
  | 7, _, _ => by kernel_rfl
  | 8, _, _ => by kernel_rfl
  | n + 9, _, h => by omega
theorem firstR_spec (n : Nat) (h1 : 1 ≤ n) (h8 : n ≤ 8) (z : Int) (hz : z = n) : Does PP 69 [I z] [] (Is (.sl 1 n 0 z) [.tok 0, .rw n (.il .i64 (rangeI n))]) := by
  obtain ⟨r, he⟩ := isRow_ok (firstR_run n h1 h8)
  subst hz
  exact (ex_does P_ok 60 he).fin fun r h2 ⟨e1, e2⟩ => by
    subst e1
    subst e2
    exact fin_lowN 2 (Nat.zero_le _) (.refl _ _) rfl rfl ⟨rfl, rfl⟩
def ofGo : List Int → List Int → Option (List Int)
  | _, [] => some []
  | S, m :: ms => if 0 ≤ m ∧ m < S.length then (ofGo (S.eraseIdx m.toNat) ms).map (S.getD m.toNat 0 :: ·) else none
theorem ofGo_step (S ms out : List Int) (i : Nat) (hi : i < ms.length) : (ofGo S (ms.drop i)).map (out ++ ·) = if 0 ≤ ms.getD i 0 ∧ ms.getD i 0 < S.length then (ofGo (S.eraseIdx (ms.getD i 0).toNat) (ms.drop (i + 1))).map ((out ++ [S.getD (ms.getD i 0).toNat 0]) ++ ·) else none := by
  rw [List.drop_eq_getElem_cons hi]
  have : ms[i] = ms.getD i 0 := by simp [List.getD, hi]
  rw [this]
  simp only [ofGo]
  split
  · rw [Option.map_map]
    congr 1
    funext x
    simp
  · rfl
theorem of_spec (ms : List Int) (n : Nat) (z : Int) (hz : z = n) (hn : n = ms.length) (h8 : n ≤ 8) (h1 : 1 ≤ n) (rl : List Int) (re : Int)
    (hsome : ∀ x, ofGo (rangeI n) ms = some x → rl = x ∧ re = 0) (hnone : ofGo (rangeI n) ms = none → rl = [] ∧ re = 11) : Does PP 28 [LI ms] [] (Is (.tup [LI rl, .int .i64 re]) []) := by
  have hzn : z.toNat = n := by omega
  have hz0 : 0 ≤ z := by omega
  have hf := firstR_spec n h1 h8 z hz
  have hc := count_spec z []
  have : (decide (1 ≤ z) && decide (z ≤ 8)) = true := by simp; omega
  rw [this] at hc
  have hdel : ∀ (L : List Int) (nn m m1 n1 : Int), m1 = m + 1 → 0 ≤ m → m < nn → nn ≤ L.length → n1 = nn - 1 → L.length ≤ 1000 → Does PP 70 [.sl 1 n 0 nn, I m, I m1] [.tok 0, .rw n (.il .i64 L), .tok 1, .tok 0]
      (fun r h' => ∃ K, K.length = L.length ∧ K.take n1.toNat = (L.take nn.toNat).eraseIdx m.toNat ∧ r = .sl 1 n 0 n1 ∧ h' = [.tok 0, .rw n (.il .i64 K), .tok 1, .tok 0]) := fun L nn m m1 n1 a1 a2 a3 a4 a5 a6 => by
    refine ((delete_spec L n nn m m1 n1 a1 a2 a3 a4 a5 a6).ren [1] [.tok 0, .rw n (.il .i64 L), .tok 1, .tok 0] rfl (by decide) (fun x hx => by rw [List.mem_singleton.1 hx]; show 1 < 4; decide) (by repeat (first | exact trivial | refine ⟨rfl, ?_⟩)) rfl rfl (fun r h ⟨K, h1, h2, h3, h4⟩ => by subst h3; subst h4; rfl)).mono ?_
    rintro r h ⟨r2, h2, ⟨K, k1, k2, k3, k4⟩, k5, k6⟩
    subst k3
    subst k4
    exact ⟨K, k1, k2, k5, k6⟩
  obtain ⟨r, hr⟩ : ∃ r, r = rangeI n := ⟨_, rfl⟩
  have hrl : r.length = n := by rw [hr, rangeI_len]
  rw [← hr] at hf hsome hnone
  obtain ⟨res, hres⟩ : ∃ x, x = ofGo r ms := ⟨_, rfl⟩
  rw [← hres] at hsome hnone
  refine doesF P_ok Try.f28 (by kernel_rfl) (by kernel_rfl) ?_
  intro i2 c2 u1 cv mx mn ad sbt bn bq ba lnI gtI apI sbI stI rpI lnG gtG apG sbG stG rpG fi fb fs fl fg fc sln sgt sap ssb sc b2s s2b nd call calld callv callvd loop rfun fin hk
  have hln : lnI ms = z := by rw [hk.lnI_eq]; omega
  have hgm := hk.gtI_eq ms
  have hz8 : z ≤ 8 := by omega
  have hz1 : 1 ≤ z := by omega
  have hmn : ∀ i : Int, 0 ≤ i → i < z → i.toNat < ms.length := fun i h1 h2 => by omega
  have hend : ∀ i : Int, i = z → ms.drop i.toNat = [] := fun i h => by rw [List.drop_eq_nil_iff]; omega
  have hrt : r.take z.toNat = r := by rw [List.take_of_length_le (by omega)]
  clear hn hr
  (conv => cbv)
  rw [hln]
  repeat' (first
    | assumption
    | (refine hk.brLss (fun _ => ?_) (fun _ => ?_) <;> (conv => cbv))
    | (refine hk.brLeq (fun _ => ?_) (fun _ => ?_) <;> (conv => cbv))
    | (refine hk.brGtr (fun _ => ?_) (fun _ => ?_) <;> (conv => cbv))
    | (refine hk.brGeq (fun _ => ?_) (fun _ => ?_) <;> (conv => cbv))
    | (refine hk.brEql (fun _ => ?_) (fun _ => ?_) <;> (conv => cbv))
    | (refine hk.brNeq (fun _ => ?_) (fun _ => ?_) <;> (conv => cbv))
    | (refine hk.brNotT ?_; (conv => cbv))
    | (refine hk.brNotF ?_; (conv => cbv))
    | (refine hk.idxI (by first | omega | assumption) (by first | omega | assumption) ?_; (conv => cbv))
    | (refine hk.nzI (by first | omega | assumption | decide) ?_; (conv => cbv))
    | (refine hk.ge0I (by first | omega | assumption) ?_; (conv => cbv))
    | (refine hk.needI (by simp only [rNd, hk.sb_eq, hk.ad_eq]; omega) ?_; (conv => cbv))
    | (refine hk.callA (by assumption) ?_; (conv => cbv))
    | (refine hk.calldA (by assumption) ?_; (conv => cbv))
    | (rw [hk.sb0]; (conv => cbv))
    | (rw [hk.ad0]; (conv => cbv))
    | exact hk.finB (by first | rfl | assumption)
    | exact hk.fin1 rfl)
  rw [hln]
  repeat' (first
    | assumption
    | (refine hk.brLss (fun _ => ?_) (fun _ => ?_) <;> (conv => cbv))
    | (refine hk.brLeq (fun _ => ?_) (fun _ => ?_) <;> (conv => cbv))
    | (refine hk.brGtr (fun _ => ?_) (fun _ => ?_) <;> (conv => cbv))
    | (refine hk.brGeq (fun _ => ?_) (fun _ => ?_) <;> (conv => cbv))
    | (refine hk.brEql (fun _ => ?_) (fun _ => ?_) <;> (conv => cbv))
    | (refine hk.brNeq (fun _ => ?_) (fun _ => ?_) <;> (conv => cbv))
    | (refine hk.brNotT ?_; (conv => cbv))
    | (refine hk.brNotF ?_; (conv => cbv))
    | (refine hk.idxI (by first | omega | assumption) (by first | omega | assumption) ?_; (conv => cbv))
    | (refine hk.nzI (by first | omega | assumption | decide) ?_; (conv => cbv))
    | (refine hk.ge0I (by first | omega | assumption) ?_; (conv => cbv))
    | (refine hk.needI (by simp only [rNd, hk.sb_eq, hk.ad_eq]; omega) ?_; (conv => cbv))
    | (refine hk.callA (by assumption) ?_; (conv => cbv))
    | (refine hk.calldA (by assumption) ?_; (conv => cbv))
    | (rw [hk.sb0]; (conv => cbv))
    | (rw [hk.ad0]; (conv => cbv))
    | exact hk.finB (by first | rfl | assumption)
    | exact hk.fin1 rfl)
  rw [hln]
  refine hk.loopI (loop_rule (α := Int × List Int × Int × List Int) (fun x => [(2, .ls .nl .nil), (3, .int .i64 0), (4, .sl 1 n 0 x.2.2.1), (5, .ls (.il .i64 x.2.2.2) (.tok 2 0)), (15, .ls (.il .i64 ms) .any), (16, .int .i64 z), (17, .int .i64 x.1)]) (fun x => [.tok 0, .rw n (.il .i64 x.2.1), .tok 0])
    (fun x => 0 ≤ x.1 ∧ x.1 ≤ z ∧ x.2.2.1 = z - x.1 ∧ x.2.1.length = n ∧ x.2.2.2.length = x.1.toNat ∧ res = (ofGo (x.2.1.take x.2.2.1.toNat) (ms.drop x.1.toNat)).map (x.2.2.2 ++ ·)) (fun x => (z - x.1).toNat) (0, r, z, []) ⟨by omega, by simp only; omega, by simp only; omega, hrl, rfl, by simp only; rw [hrt]; simp [hres]⟩ ?_ ?_)
  · refine Gh.trans (Gh.thaw 5 (.il .i64 []) rfl trivial rfl) (Gh.tm ?_)
    repeat' (first | exact Holds.nil _ _ | refine Holds.cons (Wk.refl _ _) ?_)
  intro ⟨i, L, nn, out⟩ ⟨hi, hi2, hnn, hL, hol, hJ⟩ Q' hb hx hr
  simp only at hi hi2 hnn hL hJ hol
  (conv => cbv)
  refine hk.brLss (fun h2 => ?_) (fun h2 => ?_)
  · have hstep := ofGo_step (L.take nn.toNat) ms out i.toNat (hmn i hi h2)
    have hg := hgm i
    rw [← hg] at hstep
    obtain ⟨m, hm⟩ : ∃ m, m = gtI ms i := ⟨_, rfl⟩
    rw [← hm] at hstep
    (conv => cbv)
    rw [hln]
    refine hk.idxI hi h2 ?_
    (conv => cbv)
    rw [← hm]
    have hLz : L.length = z.toNat := by omega
    have htk : (L.take nn.toNat).length = nn.toNat := by rw [List.length_take]; omega
    have hbad : ¬ (0 ≤ m ∧ m < nn) → res = none := fun h => by rw [hJ, hstep, if_neg (by rw [htk]; omega)]
    obtain ⟨m1, hm1⟩ : ∃ m1, m1 = m + 1 := ⟨_, rfl⟩
    obtain ⟨n1, hn1⟩ : ∃ n1, n1 = nn - 1 := ⟨_, rfl⟩
    have hdl := fun (h1 : 0 ≤ m) (h2 : m < nn) => hdel L nn m m1 n1 hm1 h1 h2 (by omega) hn1 (by omega)
    have ha1 : 0 ≤ m → m < nn → i2 .add .i64 m 1 = m1 := fun h1 h2 => by rw [hm1]; exact hk.add64 _ _ (by omega) (by omega)
    have hnw : 0 ≤ m → m < nn → ∀ K : List Int, K.length = L.length → K.take n1.toNat = (L.take nn.toNat).eraseIdx m.toNat → res = (ofGo (K.take n1.toNat) (ms.drop (i + 1).toNat)).map ((apI out [gtI L m]) ++ ·) := fun h1 h2 K h3 h4 => by
      rw [hJ, hstep, if_pos (by rw [htk]; omega), h4, show (i + 1).toNat = i.toNat + 1 by omega, hk.apI_eq, hk.gtI_eq]
      congr 3
      rw [List.getD_eq_getElem?_getD, List.getElem?_take, if_pos (by omega), List.getD_eq_getElem?_getD]
    have hln1 : ∀ x, lnI [x] = 1 := fun x => hk.lnI_eq _
    have hlno : lnI out = i := by rw [hk.lnI_eq]; omega
    have hapl : ∀ x, (apI out [x]).length = (i + 1).toNat := fun x => by rw [hk.apI_eq, List.length_append, hol]; simp; omega
    clear hm hstep hJ hol
    have hbq : Nat.beq n n = true := Nat.beq_refl n
    cbv at hbq
    repeat' (first
      | assumption
      | (refine hr _ ?_; (conv => cbv))
      | (refine hk.brLss (fun _ => ?_) (fun _ => ?_) <;> (conv => cbv))
      | (refine hk.brLeq (fun _ => ?_) (fun _ => ?_) <;> (conv => cbv))
      | (refine hk.brGtr (fun _ => ?_) (fun _ => ?_) <;> (conv => cbv))
      | (refine hk.brGeq (fun _ => ?_) (fun _ => ?_) <;> (conv => cbv))
      | (refine hk.brEql (fun _ => ?_) (fun _ => ?_) <;> (conv => cbv))
      | (refine hk.brNeq (fun _ => ?_) (fun _ => ?_) <;> (conv => cbv))
      | (refine hk.brNotT ?_; (conv => cbv))
      | (refine hk.brNotF ?_; (conv => cbv))
      | (refine hk.idxI (by first | omega | assumption) (by first | omega | assumption) ?_; (conv => cbv))
      | (refine hk.nzI (by first | omega | assumption | decide) ?_; (conv => cbv))
      | (refine hk.ge0I (by first | omega | assumption) ?_; (conv => cbv))
      | (refine hk.needI (by simp only [rNd, hk.sb_eq, hk.ad_eq]; omega) ?_; (conv => cbv))
      | (refine hk.callA (by assumption) ?_; (conv => cbv))
      | (refine hk.calldA (by assumption) ?_; (conv => cbv))
      | (rw [hk.sb0]; (conv => cbv))
      | (rw [hk.ad0]; (conv => cbv))
      | exact hk.finB (by first | rfl | assumption)
      | exact hk.fin1 rfl)
    · have := hnone (hbad (by omega))
      obtain ⟨e1, e2⟩ := this
      subst e1 e2
      exact hk.fin0 rfl rfl (Wk.tup ⟨Wk.nilL _ _, .refl _ _, trivial⟩)
    rename_i hm0
    repeat (rw [hbq]; (conv => cbv))
    rw [hk.sb0]
    repeat' (first
      | assumption
      | (refine hr _ ?_; (conv => cbv))
      | (refine hk.brLss (fun _ => ?_) (fun _ => ?_) <;> (conv => cbv))
      | (refine hk.brLeq (fun _ => ?_) (fun _ => ?_) <;> (conv => cbv))
      | (refine hk.brGtr (fun _ => ?_) (fun _ => ?_) <;> (conv => cbv))
      | (refine hk.brGeq (fun _ => ?_) (fun _ => ?_) <;> (conv => cbv))
      | (refine hk.brEql (fun _ => ?_) (fun _ => ?_) <;> (conv => cbv))
      | (refine hk.brNeq (fun _ => ?_) (fun _ => ?_) <;> (conv => cbv))
      | (refine hk.brNotT ?_; (conv => cbv))
      | (refine hk.brNotF ?_; (conv => cbv))
      | (refine hk.idxI (by first | omega | assumption) (by first | omega | assumption) ?_; (conv => cbv))
      | (refine hk.nzI (by first | omega | assumption | decide) ?_; (conv => cbv))
      | (refine hk.ge0I (by first | omega | assumption) ?_; (conv => cbv))
      | (refine hk.needI (by simp only [rNd, hk.sb_eq, hk.ad_eq]; omega) ?_; (conv => cbv))
      | (refine hk.callA (by assumption) ?_; (conv => cbv))
      | (refine hk.calldA (by assumption) ?_; (conv => cbv))
      | (rw [hk.sb0]; (conv => cbv))
      | (rw [hk.ad0]; (conv => cbv))
      | exact hk.finB (by first | rfl | assumption)
      | exact hk.fin1 rfl)
    · have := hnone (hbad (by omega))
      obtain ⟨e1, e2⟩ := this
      subst e1 e2
      exact hk.fin0 rfl rfl (Wk.tup ⟨Wk.nilL _ _, .refl _ _, trivial⟩)
    rename_i hm9
    have hdl := hdl (by omega) (by omega)
    have ha1 := ha1 (by omega) (by omega)
    have hnw := hnw (by omega) (by omega)
    repeat' (first
      | assumption
      | (rw [hbq]; (conv => cbv))
      | (refine hk.brLss (fun _ => ?_) (fun _ => ?_) <;> (conv => cbv))
      | (refine hk.brLeq (fun _ => ?_) (fun _ => ?_) <;> (conv => cbv))
      | (refine hk.brGtr (fun _ => ?_) (fun _ => ?_) <;> (conv => cbv))
      | (refine hk.brGeq (fun _ => ?_) (fun _ => ?_) <;> (conv => cbv))
      | (refine hk.brEql (fun _ => ?_) (fun _ => ?_) <;> (conv => cbv))
      | (refine hk.brNeq (fun _ => ?_) (fun _ => ?_) <;> (conv => cbv))
      | (refine hk.brNotT ?_; (conv => cbv))
      | (refine hk.brNotF ?_; (conv => cbv))
      | (refine hk.idxI (by first | omega | assumption) (by first | omega | assumption) ?_; (conv => cbv))
      | (refine hk.nzI (by first | omega | assumption | decide) ?_; (conv => cbv))
      | (refine hk.ge0I (by first | omega | assumption) ?_; (conv => cbv))
      | (refine hk.needI (by simp only [rNd, hk.sb_eq, hk.ad_eq]; omega) ?_; (conv => cbv))
      | (refine hk.callA (by assumption) ?_; (conv => cbv))
      | (refine hk.calldA (by assumption) ?_; (conv => cbv))
      | (rw [hk.sb0]; (conv => cbv))
      | (rw [hk.ad0]; (conv => cbv))
      | exact hk.finB (by first | rfl | assumption)
      | exact hk.fin1 rfl)
    rw [hlno, hln1, ha1]
    refine hk.needI (by simp only [rNd, hk.ad_eq]; omega) (hk.callI hdl fun r h ⟨K, k1, k2, k3, k4⟩ => ?_)
    subst k3 k4
    (conv => cbv)
    refine hb (i + 1, K, n1, apI out [gtI L m]) _ ⟨by simp only; omega, by simp only; omega, by simp only; omega, by simp only; omega, hapl _, hnw K k1 k2⟩ (by simp only; omega) ?_
    refine Gh.retok 2 1 rfl (by decide) ?_ rfl rfl
    repeat' (first | exact HoldsT.nil _ _ _ _ | refine HoldsT.tok rfl ?_ | refine HoldsT.cons (Wk.refl _ _) rfl ?_ | refine HoldsT.cons (Wk.of_eq ?_) rfl ?_)
    all_goals first
      | (rw [← hk.add64 i 1 (by omega) (by omega)]; rfl)
      | rfl
      | skip
  · have : i = z := by omega
    have hx1 := hend i this
    rw [hx1] at hJ
    obtain ⟨e1, e2⟩ := hsome out (by rw [hJ]; simp [ofGo])
    subst e1 e2
    refine hx _ _ ?_
    (conv => cbv)
    exact hk.fin0 rfl rfl (Wk.tup ⟨Wk.any _ _ _, .refl _ _, trivial⟩)
end Go.Proofs.Ytnnpookoencpnaa
