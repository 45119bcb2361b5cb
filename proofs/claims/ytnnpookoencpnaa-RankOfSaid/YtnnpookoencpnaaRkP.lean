/-
  Contracts of functions of the program, proved over the abstract machine of the Al texts.
-/
import Derived.Test.YtnnpookoencpnaaRkO
set_option maxHeartbeats 4000000
set_option maxRecDepth 20000
set_option linter.unusedSimpArgs false
set_option linter.unusedVariables false
open Go Go.AL
namespace Go.Proofs.Ytnnpookoencpnaa
theorem marks_spec (l : List Int) (n : Nat) (z : Int) (hz : z.toNat = n) (hz0 : 0 ≤ z) (hn : n = l.length) (h8 : n ≤ 8) (h1 : 1 ≤ n) (hp : (rangeI n).Perm l) (h : Heap) : Does PP 30 [LI l] h (Is (LI (mk l)) h) := by
  refine pure0 ?_ rfl rfl h
  have hf := firstR_spec n h1 h8 z (by omega)
  have hdel : ∀ (L : List Int) (nn m m1 n1 : Int), m1 = m + 1 → 0 ≤ m → m < nn → nn ≤ L.length → n1 = nn - 1 → L.length ≤ 1000 → Does PP 70 [.sl 1 n 0 nn, I m, I m1] [.tok 0, .rw n (.il .i64 L), .tok 1, .tok 0]
      (fun r h' => ∃ K, K.length = L.length ∧ K.take n1.toNat = (L.take nn.toNat).eraseIdx m.toNat ∧ r = .sl 1 n 0 n1 ∧ h' = [.tok 0, .rw n (.il .i64 K), .tok 1, .tok 0]) := fun L nn m m1 n1 a1 a2 a3 a4 a5 a6 => by
    refine ((delete_spec L n nn m m1 n1 a1 a2 a3 a4 a5 a6).ren [1] [.tok 0, .rw n (.il .i64 L), .tok 1, .tok 0] rfl (by decide) (fun x hx => by rw [List.mem_singleton.1 hx]; show 1 < 4; decide) (by repeat (first | exact trivial | refine ⟨rfl, ?_⟩)) rfl rfl (fun r h ⟨K, h1, h2, h3, h4⟩ => by subst h3; subst h4; rfl)).mono ?_
    rintro r h ⟨r2, h2, ⟨K, k1, k2, k3, k4⟩, k5, k6⟩
    subst k3
    subst k4
    exact ⟨K, k1, k2, k5, k6⟩
  have hbs : ∀ (L : List Int) (nn c : Int), 0 ≤ nn → nn ≤ L.length → nn ≤ 8 → Inc (L.take nn.toNat) → c ∈ L.take nn.toNat → Does PP 71 [.sl 1 n 0 nn, I c] [.tok 0, .rw n (.il .i64 L), .tok 0]
      (fun r h' => ∃ i b, 0 ≤ i ∧ i.toNat = cnt (L.take nn.toNat) c ∧ i.toNat < (L.take nn.toNat).length ∧ (L.take nn.toNat).getD i.toNat 0 = c ∧ r = .tup [I i, .bool b] ∧ h' = [.tok 0, .rw n (.il .i64 L), .tok 0]) := fun L nn c a1 a2 a3 a4 a5 => by
    have hlen : (L.take nn.toNat).length = nn.toNat := by rw [List.length_take]; omega
    have hsrt : ∀ a b, a < b → b < nn.toNat → L.getD a 0 ≤ L.getD b 0 := fun a b e1 e2 => by
      have := inc_le a4 a b e1 (by omega)
      rw [List.getD_eq_getElem?_getD, List.getElem?_take, if_pos (by omega), List.getD_eq_getElem?_getD, List.getElem?_take, if_pos (by omega)] at this
      rw [List.getD_eq_getElem?_getD, List.getD_eq_getElem?_getD]; exact this
    refine ((bsearch_spec L c n nn a1 a2 a3 hsrt).ren [1] [.tok 0, .rw n (.il .i64 L), .tok 0] rfl (by decide) (fun x hx => by rw [List.mem_singleton.1 hx]; show 1 < 3; decide) (by repeat (first | exact trivial | refine ⟨rfl, ?_⟩)) rfl rfl (fun r h ⟨i, b, h1, h2, h3⟩ => by subst h3; rfl)).mono ?_
    rintro r h ⟨r2, h2, ⟨i, b, k1, k2, k3⟩, k5, k6⟩
    subst k2
    subst k3
    obtain ⟨u1, u2, u3⟩ := at_uniq a4 a5 k1
    exact ⟨i, b, k1.1, u1, u2, u3, k5, k6⟩
  obtain ⟨r, hr⟩ : ∃ r, r = rangeI n := ⟨_, rfl⟩
  have hrl : r.length = n := by rw [hr, rangeI_len]
  have hri : Inc r := by rw [hr]; exact rangeI_inc n
  rw [← hr] at hf hp
  obtain ⟨res, hres⟩ : ∃ x, x = mk l := ⟨_, rfl⟩
  rw [← hres]
  refine doesF P_ok Try.f30 (by kernel_rfl) (by kernel_rfl) ?_
  intro i2 c2 u1 cv mx mn ad sbt bn bq ba lnI gtI apI sbI stI rpI lnG gtG apG sbG stG rpG fi fb fs fl fg fc sln sgt sap ssb sc b2s s2b nd call calld callv callvd loop rfun fin hk
  have hln : lnI l = z := by rw [hk.lnI_eq]; omega
  have hgm := hk.gtI_eq l
  have hl1 : ∀ x, lnI [x] = 1 := fun x => hk.lnI_eq _
  have hlno : ∀ (out : List Int) (i : Int), 0 ≤ i → out.length = i.toNat → lnI out = i := fun out i h h2 => by rw [hk.lnI_eq]; omega
  have hrt : r.take z.toNat = r := by rw [List.take_of_length_le (by omega)]
  (conv => cbv)
  try rw [hln]
  repeat' (first
    | assumption
    | (refine hk.brLss (fun _ => ?_) (fun _ => ?_) <;> (conv => cbv))
    | (refine hk.brLeq (fun _ => ?_) (fun _ => ?_) <;> (conv => cbv))
    | (refine hk.brGtr (fun _ => ?_) (fun _ => ?_) <;> (conv => cbv))
    | (refine hk.brGeq (fun _ => ?_) (fun _ => ?_) <;> (conv => cbv))
    | (refine hk.brEql (fun _ => ?_) (fun _ => ?_) <;> (conv => cbv))
    | (refine hk.brNeq (fun _ => ?_) (fun _ => ?_) <;> (conv => cbv))
    | (refine hk.brNotT ?_; (conv => cbv))
    | (refine hk.brNotF ?_; (conv => cbv))
    | (refine hk.idxI (by first | omega | assumption) (by first | omega | assumption) ?_; (conv => cbv))
    | (refine hk.nzI (by first | omega | assumption | decide) ?_; (conv => cbv))
    | (refine hk.ge0I (by first | omega | assumption) ?_; (conv => cbv))
    | (refine hk.needI (by simp only [rNd, hk.sb_eq, hk.ad_eq]; omega) ?_; (conv => cbv))
    | (refine hk.callA (by assumption) ?_; (conv => cbv))
    | (refine hk.calldA (by assumption) ?_; (conv => cbv))
    | (rw [hk.sb0]; (conv => cbv))
    | (rw [hk.ad0]; (conv => cbv))
    | exact hk.finB (by first | rfl | assumption)
    | exact hk.fin1 rfl)
  try rw [hln]
  refine hk.loopI (loop_rule (α := Int × List Int × Int × List Int) (fun x => [(2, .ls .nl .nil), (3, .sl 1 n 0 x.2.2.1), (4, .ls (.il .i64 x.2.2.2) (.tok 2 0)), (12, .ls (.il .i64 l) .any), (13, .int .i64 z), (14, .int .i64 x.1)]) (fun x => [.tok 0, .rw n (.il .i64 x.2.1), .tok 0])
    (fun x => 0 ≤ x.1 ∧ x.1 ≤ z ∧ x.2.2.1 = z - x.1 ∧ x.2.1.length = n ∧ x.2.2.2.length = x.1.toNat ∧ Inc (x.2.1.take x.2.2.1.toNat) ∧ (x.2.1.take x.2.2.1.toNat).Perm (l.drop x.1.toNat) ∧ res = x.2.2.2 ++ mk (l.drop x.1.toNat)) (fun x => (z - x.1).toNat) (0, r, z, [])
      ⟨by omega, by simp only; omega, by simp only; omega, hrl, rfl, by simp only; rw [hrt]; exact hri, by simp only; rw [hrt]; simpa using hp, by simp [hres]⟩ ?_ ?_)
  · refine Gh.trans (Gh.thaw 4 (.il .i64 []) rfl trivial rfl) (Gh.tm ?_)
    repeat' (first | exact Holds.nil _ _ | refine Holds.cons (Wk.refl _ _) ?_)
  intro ⟨i, L, nn, out⟩ ⟨hi, hi2, hnn, hL, hol, hI, hP, hJ⟩ Q' hb hx hr
  simp only at hi hi2 hnn hL hJ hol hI hP
  have hlno := hlno out i hi hol
  have hapl : ∀ x, (apI out [x]).length = (i + 1).toNat := fun x => by rw [hk.apI_eq, List.length_append, hol]; simp; omega
  have htk : (L.take nn.toNat).length = nn.toNat := by rw [List.length_take]; omega
  (conv => cbv)
  refine hk.brLss (fun h2 => ?_) (fun h2 => ?_)
  · obtain ⟨c, hc⟩ : ∃ c, c = gtI l i := ⟨_, rfl⟩
    have hci : c = l.getD i.toNat 0 := by rw [hc, hgm]
    have hdc : l.drop i.toNat = c :: l.drop (i.toNat + 1) := by
      rw [List.drop_eq_getElem_cons (by omega), hci]; simp [List.getD, show i.toNat < l.length by omega]
    have hcm : c ∈ L.take nn.toNat := hP.mem_iff.2 (by rw [hdc]; simp)
    have hbs := hbs L nn c (by omega) (by omega) (by omega) hI hcm
    have hnew : ∀ (m n1 : Int), n1 = nn - 1 → 0 ≤ m → m.toNat = cnt (L.take nn.toNat) c → m.toNat < (L.take nn.toNat).length → (L.take nn.toNat).getD m.toNat 0 = c → ∀ K : List Int, K.take n1.toNat = (L.take nn.toNat).eraseIdx m.toNat →
        Inc (K.take n1.toNat) ∧ (K.take n1.toNat).Perm (l.drop (i + 1).toNat) ∧ res = apI out [m] ++ mk (l.drop (i + 1).toNat) := fun m n1 e1 e0 e2 e3 e4 K hK => by
      rw [hK, show (i + 1).toNat = i.toNat + 1 by omega]
      refine ⟨erase_inc hI _, ?_, ?_⟩
      · have := (erase_perm e3).trans hP
        rw [e4, hdc] at this
        exact (List.perm_cons c).1 this
      · rw [hJ, hdc, hk.apI_eq]
        have e5 : cnt (l.drop (i.toNat + 1)) c = m.toNat := by rw [e2, cnt_perm hP, hdc, cnt_self]
        simp only [mk]
        rw [e5, show ((m.toNat : Nat) : Int) = m by omega]
        simp
    clear hJ hdc
    have hbq : Nat.beq n n = true := Nat.beq_refl n
    (conv at hbq => cbv)
    (conv => cbv)
    try rw [hln]
    refine hk.idxI hi h2 ?_
    (conv => cbv)
    rw [← hc]
    refine hk.callI hbs fun r h ⟨m, b, hm0, hm1, hm2, hm3, e1, e2⟩ => ?_
    subst e1 e2
    obtain ⟨m1, hm4⟩ : ∃ m1, m1 = m + 1 := ⟨_, rfl⟩
    obtain ⟨n1, hn1⟩ : ∃ n1, n1 = nn - 1 := ⟨_, rfl⟩
    have hdl := hdel L nn m m1 n1 hm4 hm0 (by omega) (by omega) hn1 (by omega)
    have ha1 : i2 .add .i64 m 1 = m1 := by rw [hm4]; exact hk.add64 _ _ (by omega) (by omega)
    have hnew := hnew m n1 hn1 hm0 hm1 hm2 hm3
    (conv => cbv)
    rw [hlno, hl1, ha1]
    refine hk.needI (by simp only [rNd, hk.ad_eq]; omega) (hk.callI hdl fun r h ⟨K, k1, k2, k3, k4⟩ => ?_)
    subst k3 k4
    obtain ⟨g1, g2, g3⟩ := hnew K k2
    (conv => cbv)
    refine hb (i + 1, K, n1, apI out [m]) _ ⟨by simp only; omega, by simp only; omega, by simp only; omega, by simp only; omega, hapl _, g1, g2, g3⟩ (by simp only; omega) ?_
    refine Gh.retok 2 1 rfl (by decide) ?_ rfl rfl
    repeat' (first | exact HoldsT.nil _ _ _ _ | refine HoldsT.tok rfl ?_ | refine HoldsT.cons (Wk.refl _ _) rfl ?_ | refine HoldsT.cons (Wk.of_eq ?_) rfl ?_)
    all_goals first
      | (rw [← hk.add64 i 1 (by omega) (by omega)]; rfl)
      | rfl
      | skip
  · have : l.drop i.toNat = [] := by rw [List.drop_eq_nil_iff]; omega
    rw [this] at hJ
    simp only [mk, List.append_nil] at hJ
    subst hJ
    refine hx _ _ ?_
    (conv => cbv)
    exact hk.fin0 rfl rfl (Wk.any _ _ _)
end Go.Proofs.Ytnnpookoencpnaa
