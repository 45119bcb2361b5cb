/-
  Contracts of functions of the program, proved over the abstract machine of the Al texts.
-/
import Derived.Test.YtnnpookoencpnaaRkJ
set_option maxHeartbeats 4000000
set_option maxRecDepth 20000
set_option linter.unusedSimpArgs false
set_option linter.unusedVariables false
open Go Go.AL
namespace Go.Proofs.Ytnnpookoencpnaa
theorem del_list (l : List Int) (n m m1 : Int) (h1 : m1 = m + 1) (h0 : 0 ≤ m) (hm : m < n) (hn : n ≤ l.length) :
    ((rSub l 0 m ++ rSub (rSub l m1 n) 0 (n - m1)) ++ rSub l (n - 1) l.length).length = l.length ∧ (((rSub l 0 m ++ rSub (rSub l m1 n) 0 (n - m1)) ++ rSub l (n - 1) l.length)).take (n - 1).toNat = (l.take n.toNat).eraseIdx m.toNat := by
  subst h1
  have e1 : rSub l 0 m = l.take m.toNat := by simp [rSub]
  have e2 : rSub (rSub l (m + 1) n) 0 (n - (m + 1)) = (l.take n.toNat).drop (m.toNat + 1) := by
    simp only [rSub, Int.toNat_zero, List.drop_zero, Int.sub_zero]
    rw [List.take_take, Nat.min_self, List.drop_take]
    congr 1
    · omega
    · congr 1
      omega
  have e3 : (l.take m.toNat).length = m.toNat := by rw [List.length_take]; omega
  have e4 : ((l.take n.toNat).drop (m.toNat + 1)).length = n.toNat - (m.toNat + 1) := by rw [List.length_drop, List.length_take]; omega
  have e5 : (rSub l (n - 1) l.length).length = l.length - (n - 1).toNat := by simp only [rSub, List.length_take, List.length_drop]; omega
  rw [e1, e2]
  refine ⟨by simp only [List.length_append, e3, e4, e5]; omega, ?_⟩
  rw [List.take_append_of_le_length (by simp only [List.length_append, e3, e4]; omega), List.take_of_length_le (by simp only [List.length_append, e3, e4]; omega)]
  rw [List.eraseIdx_eq_take_drop_succ, List.take_take, Nat.min_eq_left (by omega)]
theorem delete_spec (l : List Int) (g : Nat) (n m m1 n1 : Int) (h1 : m1 = m + 1) (h0 : 0 ≤ m) (hm : m < n) (hn : n ≤ l.length) (hn1 : n1 = n - 1) (hlen : l.length ≤ 1000) : Does PP 70 [.sl 0 g 0 n, I m, I m1] [.rw g (.il .i64 l)]
    (fun r h' => ∃ L, L.length = l.length ∧ L.take n1.toNat = (l.take n.toNat).eraseIdx m.toNat ∧ r = .sl 0 g 0 n1 ∧ h' = [.rw g (.il .i64 L)]) := by
  have hdl := del_list l n m m1 h1 h0 hm hn
  obtain ⟨A, hA⟩ : ∃ A, A = ((rSub l 0 m ++ rSub (rSub l m1 n) 0 (n - m1)) ++ rSub l (n - 1) l.length) := ⟨_, rfl⟩
  rw [← hA, ← hn1] at hdl
  refine doesF P_ok Try.f70 (by kernel_rfl) (by kernel_rfl) ?_
  intro i2 c2 u1 cv mx mn ad sbt bn bq ba lnI gtI apI sbI stI rpI lnG gtG apG sbG stG rpG fi fb fs fl fg fc sln sgt sap ssb sc b2s s2b nd call calld callv callvd loop rfun fin hk
  have hbq : Nat.beq g g = true := Nat.beq_refl g
  have hnl := hk.lnI_eq l
  have hsb : ∀ l a b, sbI l a b = rSub l a b := fun l a b => by rw [hk.sbI_eq]; rfl
  obtain ⟨k, hk0⟩ : ∃ k, k = n - m1 := ⟨_, rfl⟩
  have e1 : lnI (sbI l m1 n) = k := by rw [hk.lnI_eq, hsb]; simp only [rSub, List.length_take, List.length_drop]; omega
  have e2 : ad m k = n1 := by rw [hk.ad_eq]; omega
  have e3 : apI (apI (sbI l 0 m) (sbI (sbI l m1 n) 0 k)) (sbI l n1 (lnI l)) = A := by
    rw [hk.apI_eq, hk.apI_eq, hsb, hsb, hsb, hsb, hA, hnl, hn1, hk0]
  have hAn : lnI A = lnI l := by rw [hk.lnI_eq, hk.lnI_eq, hdl.1]
  have hnl2 : n ≤ lnI l := by omega
  obtain ⟨B, hB⟩ : ∃ B, B = apI (apI (sbI A 0 n1) (sbI (rpI (sbt n n1) 0) 0 (sbt n n1))) (sbI A (ad n1 (sbt n n1)) (lnI A)) := ⟨_, rfl⟩
  have hB2 : B = (A.take n1.toNat ++ rSub (rpI (n - n1) 0) 0 (n - n1)) ++ rSub A n l.length := by
    rw [hB, hAn, hnl, hk.apI_eq, hk.apI_eq, hsb, hsb, hsb, hk.sb_eq, hk.ad_eq, show n1 + (n - n1) = n by omega]
    simp [rSub]
  have h3 : (rSub (rpI (n - n1) 0) 0 (n - n1)).length = (n - n1).toNat := by rw [hk.rpI_eq]; simp [rSub]
  have hAl := hdl.1
  have hBl : B.length = l.length := by
    rw [hB2]
    have h4 : (rSub A n l.length).length = l.length - n.toNat := by simp only [rSub, List.length_take, List.length_drop]; omega
    simp only [List.length_append, h3, List.length_take, h4]
    omega
  have hBt : B.take n1.toNat = (l.take n.toNat).eraseIdx m.toNat := by
    rw [hB2, List.append_assoc, List.take_append_of_le_length (by rw [List.length_take]; omega), List.take_take, Nat.min_self]
    exact hdl.2
  have hnd : nd (.bnd m n1 (lnI l)) := hk.ndI ⟨by omega, by omega, by omega⟩
  have hnd2 : nd (.bnd n1 n (lnI l)) := hk.ndI ⟨by omega, by omega, by omega⟩
  clear hn hnl hA hsb hdl hB2 hAl h3
  obtain ⟨R, hR⟩ : ∃ R : AVal → Heap → Prop, R = (fun r h' => ∃ L, L.length = l.length ∧ L.take n1.toNat = (l.take n.toNat).eraseIdx m.toNat ∧ r = .sl 0 g 0 n1 ∧ h' = [.rw g (.il .i64 L)]) := ⟨_, rfl⟩
  rw [← hR]
  cbv at hbq
  cbv
  repeat' (first
    | assumption
    | (rw [hbq]; (conv => cbv))
    | (refine hk.brLss (fun _ => ?_) (fun _ => ?_) <;> (conv => cbv))
    | (refine hk.brLeq (fun _ => ?_) (fun _ => ?_) <;> (conv => cbv))
    | (refine hk.brGtr (fun _ => ?_) (fun _ => ?_) <;> (conv => cbv))
    | (refine hk.brGeq (fun _ => ?_) (fun _ => ?_) <;> (conv => cbv))
    | (refine hk.brEql (fun _ => ?_) (fun _ => ?_) <;> (conv => cbv))
    | (refine hk.brNeq (fun _ => ?_) (fun _ => ?_) <;> (conv => cbv))
    | (refine hk.brNotT ?_; (conv => cbv))
    | (refine hk.brNotF ?_; (conv => cbv))
    | (refine hk.idxI (by first | omega | assumption) (by first | omega | assumption) ?_; (conv => cbv))
    | (refine hk.nzI (by first | omega | assumption | decide) ?_; (conv => cbv))
    | (refine hk.ge0I (by first | omega | assumption) ?_; (conv => cbv))
    | (refine hk.needI (by simp only [rNd, hk.sb_eq, hk.ad_eq]; omega) ?_; (conv => cbv))
    | (refine hk.callA (by assumption) ?_; (conv => cbv))
    | (refine hk.calldA (by assumption) ?_; (conv => cbv))
    | (rw [hk.sb0]; (conv => cbv))
    | (rw [hk.ad0]; (conv => cbv))
    | exact hk.finB (by first | rfl | assumption)
    | exact hk.fin1 rfl)
  · rename_i h; exfalso; omega
  · rw [e1, e2, e3, hAn]
    refine ⟨hnd2, hk.finI (fin_same ?_)⟩
    rw [hR]
    exact ⟨B, hBl, hBt, rfl, by rw [hB, hAn]⟩
/-- How many of the first ones are less: what a search by halves finds. -/
def IsAt (l : List Int) (c : Int) (i : Int) : Prop := 0 ≤ i ∧ i ≤ l.length ∧ (∀ j, j < i.toNat → l.getD j 0 < c) ∧ ∀ j, i.toNat ≤ j → j < l.length → c ≤ l.getD j 0
theorem mid_eq (i j : Int) (h0 : 0 ≤ i) (h1 : i ≤ j) (h2 : j ≤ 4611686018427387903) : IntKind.wrap .i64 (rI2 .shr .u64 (IntKind.wrap .u64 (IntKind.wrap .i64 (i + j))) 1) = (i + j) / 2 := by
  rw [show IntKind.wrap .i64 (i + j) = i + j from wrap64 (by omega) (by omega), show IntKind.wrap .u64 (i + j) = i + j from wrap_u64 _ (by omega) (by omega)]
  show IntKind.wrap .i64 ((i + j).fdiv (2 ^ (min (1 : Int).toNat 64))) = _
  rw [show min (1 : Int).toNat 64 = 1 by decide, Int.fdiv_eq_ediv_of_nonneg _ (by decide), show (2 : Int) ^ 1 = 2 by decide]
  exact wrap64 (by omega) (by omega)
theorem nan110_spec (n : Int) (h : Heap) : Does PP 110 [I n] h (Is (.bool false) h) := by
  refine doesF P_ok Try.f110 (by kernel_rfl) (by kernel_rfl) ?_
  intro i2 c2 u1 cv mx mn ad sbt bn bq ba lnI gtI apI sbI stI rpI lnG gtG apG sbG stG rpG fi fb fs fl fg fc sln sgt sap ssb sc b2s s2b nd call calld callv callvd loop rfun fin hk
  cbv
  exact hk.fin1 (congrArg _ (by rw [hk.c2_neq]; simp))
theorem bsearch_spec (l : List Int) (c : Int) (g : Nat) (n : Int) (hn : 0 ≤ n) (hn2 : n ≤ l.length) (hn8 : n ≤ 8) (hs : ∀ a b, a < b → b < n.toNat → l.getD a 0 ≤ l.getD b 0) :
    Does PP 71 [.sl 0 g 0 n, I c] [.rw g (.il .i64 l)] (fun r h' => ∃ i b, IsAt (l.take n.toNat) c i ∧ r = .tup [I i, .bool b] ∧ h' = [.rw g (.il .i64 l)]) := by
  obtain ⟨R, hR⟩ : ∃ R : AVal → Heap → Prop, R = (fun r h' => ∃ i b, IsAt (l.take n.toNat) c i ∧ r = .tup [I i, .bool b] ∧ h' = [.rw g (.il .i64 l)]) := ⟨_, rfl⟩
  rw [← hR]
  have hs' : ∀ a b, a ≤ b → b < n.toNat → l.getD a 0 ≤ l.getD b 0 := fun a b h1 h2 => by
    rcases Nat.lt_or_eq_of_le h1 with h | h
    · exact hs a b h h2
    · rw [h]; omega
  have htg : ∀ k, k < n.toNat → (l.take n.toNat).getD k 0 = l.getD k 0 := fun k h => by rw [List.getD_eq_getElem?_getD, List.getElem?_take, if_pos h, List.getD_eq_getElem?_getD]
  have hatI : ∀ i, 0 ≤ i → i ≤ n → (∀ j, j < i.toNat → l.getD j 0 < c) → (∀ j, i.toNat ≤ j → j < n.toNat → c ≤ l.getD j 0) → IsAt (l.take n.toNat) c i := fun i h1 h2 h3 h4 => by
    refine ⟨h1, by rw [List.length_take]; omega, fun j hj => by rw [htg j (by omega)]; exact h3 j hj, fun j h5 h6 => ?_⟩
    rw [List.length_take] at h6
    rw [htg j (by omega)]; exact h4 j h5 (by omega)
  have hless := fun a b => less_spec a b [.rw g (.il .i64 l)]
  obtain ⟨lf, hlf⟩ : ∃ lf : Int → Int → Bool, ∀ a b, lf a b = decide (a < b) := ⟨_, fun _ _ => rfl⟩
  have hless : ∀ a b, Does PP 109 [I a, I b] [.rw g (.il .i64 l)] (Is (.bool (lf a b)) [.rw g (.il .i64 l)]) := fun a b => by rw [hlf]; exact hless a b
  refine doesF P_ok Try.f71 (by kernel_rfl) (by kernel_rfl) ?_
  intro i2 c2 u1 cv mx mn ad sbt bn bq ba lnI gtI apI sbI stI rpI lnG gtG apG sbG stG rpG fi fb fs fl fg fc sln sgt sap ssb sc b2s s2b nd call calld callv callvd loop rfun fin hk
  have hbq : Nat.beq g g = true := Nat.beq_refl g
  have hgl := hk.gtI_eq l
  have hnl := hk.lnI_eq l
  have hnl2 : n ≤ lnI l := by omega
  clear hnl
  cbv at hbq
  cbv
  repeat' (first
    | assumption
    | (rw [hbq]; (conv => cbv))
    | (refine hk.brLss (fun _ => ?_) (fun _ => ?_) <;> (conv => cbv))
    | (refine hk.brLeq (fun _ => ?_) (fun _ => ?_) <;> (conv => cbv))
    | (refine hk.brGtr (fun _ => ?_) (fun _ => ?_) <;> (conv => cbv))
    | (refine hk.brGeq (fun _ => ?_) (fun _ => ?_) <;> (conv => cbv))
    | (refine hk.brEql (fun _ => ?_) (fun _ => ?_) <;> (conv => cbv))
    | (refine hk.brNeq (fun _ => ?_) (fun _ => ?_) <;> (conv => cbv))
    | (refine hk.brNotT ?_; (conv => cbv))
    | (refine hk.brNotF ?_; (conv => cbv))
    | (refine hk.idxI (by first | omega | assumption) (by first | omega | assumption) ?_; (conv => cbv))
    | (refine hk.nzI (by first | omega | assumption | decide) ?_; (conv => cbv))
    | (refine hk.ge0I (by first | omega | assumption) ?_; (conv => cbv))
    | (refine hk.needI (by simp only [rNd, hk.sb_eq, hk.ad_eq]; omega) ?_; (conv => cbv))
    | (refine hk.callA (by assumption) ?_; (conv => cbv))
    | (refine hk.calldA (by assumption) ?_; (conv => cbv))
    | (rw [hk.sb0]; (conv => cbv))
    | (rw [hk.ad0]; (conv => cbv))
    | exact hk.finB (by first | rfl | assumption)
    | exact hk.fin1 rfl)
  refine hk.loopI (loop_rule (α := Int × Int) (fun x => [(0, .sl 0 g 0 n), (1, .int .i64 c), (5, .bool false), (6, .int .i64 n), (7, .int .i64 x.1), (8, .int .i64 x.2)]) (fun _ => [.rw g (.il .i64 l)])
    (fun x => 0 ≤ x.1 ∧ x.1 ≤ x.2 ∧ x.2 ≤ n ∧ (∀ j, j < x.1.toNat → l.getD j 0 < c) ∧ ∀ j, x.2.toNat ≤ j → j < n.toNat → c ≤ l.getD j 0) (fun x => (x.2 - x.1).toNat) (0, n) ⟨by omega, by omega, by omega, fun j hj => by simp at hj, fun j h1 h2 => by simp only at h1; omega⟩ ?_ ?_)
  · exact Gh.tm (by repeat (first | exact Holds.nil _ _ | refine Holds.cons (Wk.refl _ _) ?_))
  intro ⟨i, j⟩ ⟨hi, hij, hj, hlo, hhi⟩ Q' hb hx hr
  simp only at hi hij hj hlo hhi
  obtain ⟨m, hm⟩ : ∃ m, m = (i + j) / 2 := ⟨_, rfl⟩
  have hmid : cv .i64 (i2 .shr .u64 (cv .u64 (i2 .add .i64 i j)) 1) = m := by
    rw [hk.cv_eq, hk.cv_eq, hk.i2_eq, hm]
    exact mid_eq i j hi hij (by omega)
  obtain ⟨m1, hm1⟩ : ∃ m1, m1 = m + 1 := ⟨_, rfl⟩
  have hadd : i2 .add .i64 m 1 = m1 := by rw [hm1]; exact hk.add64 _ _ (by omega) (by omega)
  have hmm : i < j → i ≤ m ∧ m < j := fun h => by omega
  clear hm
  cbv
  refine hk.brLss (fun h1 => ?_) (fun h1 => ?_)
  · obtain ⟨hm0, hm2⟩ := hmm h1
    cbv
    repeat (rw [hbq]; cbv)
    rw [hmid]
    repeat' (first
      | assumption
      | (rw [hbq]; (conv => cbv))
      | (refine hk.brLss (fun _ => ?_) (fun _ => ?_) <;> (conv => cbv))
      | (refine hk.brLeq (fun _ => ?_) (fun _ => ?_) <;> (conv => cbv))
      | (refine hk.brGtr (fun _ => ?_) (fun _ => ?_) <;> (conv => cbv))
      | (refine hk.brGeq (fun _ => ?_) (fun _ => ?_) <;> (conv => cbv))
      | (refine hk.brEql (fun _ => ?_) (fun _ => ?_) <;> (conv => cbv))
      | (refine hk.brNeq (fun _ => ?_) (fun _ => ?_) <;> (conv => cbv))
      | (refine hk.brNotT ?_; (conv => cbv))
      | (refine hk.brNotF ?_; (conv => cbv))
      | (refine hk.idxI (by first | omega | assumption) (by first | omega | assumption) ?_; (conv => cbv))
      | (refine hk.nzI (by first | omega | assumption | decide) ?_; (conv => cbv))
      | (refine hk.ge0I (by first | omega | assumption) ?_; (conv => cbv))
      | (refine hk.needI (by simp only [rNd, hk.sb_eq, hk.ad_eq]; omega) ?_; (conv => cbv))
      | (refine hk.callA (by assumption) ?_; (conv => cbv))
      | (refine hk.calldA (by assumption) ?_; (conv => cbv))
      | (rw [hk.sb0]; (conv => cbv))
      | (rw [hk.ad0]; (conv => cbv))
      | exact hk.finB (by first | rfl | assumption)
      | exact hk.fin1 rfl)
    refine hk.callA (hless _ _) ?_
    obtain ⟨t, ht⟩ : ∃ t, t = lf (gtI l m) c := ⟨_, rfl⟩
    rw [← ht]
    rw [hlf, hgl] at ht
    cases t
    · have ht := of_decide_eq_false ht.symm
      cbv
      refine hb (i, m) _ ⟨by simp only; omega, by simp only; omega, by simp only; omega, hlo, fun k h3 h4 => ?_⟩ (by simp only; omega) ?_
      · simp only at h3
        have := hs' m.toNat k h3 h4
        omega
      refine Gh.tm ?_
      repeat' (first | exact Holds.nil _ _ | refine Holds.cons (Wk.refl _ _) ?_ | refine Holds.cons (Wk.of_eq ?_) ?_)
    · have ht := of_decide_eq_true ht.symm
      cbv
      rw [hadd]
      refine hb (m1, j) _ ⟨by simp only; omega, by simp only; omega, by simp only; omega, fun k h3 => ?_, hhi⟩ (by simp only; omega) ?_
      · simp only at h3
        have := hs' k m.toNat (by omega) (by omega)
        omega
      refine Gh.tm ?_
      repeat' (first | exact Holds.nil _ _ | refine Holds.cons (Wk.refl _ _) ?_ | refine Holds.cons (Wk.of_eq ?_) ?_)
  · have hij2 : i = j := by omega
    subst hij2
    have hat := hatI i hi hj hlo hhi
    refine hx _ _ ?_
    cbv
    repeat' (first
      | assumption
      | (rw [hbq]; (conv => cbv))
      | (refine hk.callA (nan110_spec _ _) ?_; (conv => cbv))
      | (refine hk.brLss (fun _ => ?_) (fun _ => ?_) <;> (conv => cbv))
      | (refine hk.brLeq (fun _ => ?_) (fun _ => ?_) <;> (conv => cbv))
      | (refine hk.brGtr (fun _ => ?_) (fun _ => ?_) <;> (conv => cbv))
      | (refine hk.brGeq (fun _ => ?_) (fun _ => ?_) <;> (conv => cbv))
      | (refine hk.brEql (fun _ => ?_) (fun _ => ?_) <;> (conv => cbv))
      | (refine hk.brNeq (fun _ => ?_) (fun _ => ?_) <;> (conv => cbv))
      | (refine hk.brNotT ?_; (conv => cbv))
      | (refine hk.brNotF ?_; (conv => cbv))
      | (refine hk.idxI (by first | omega | assumption) (by first | omega | assumption) ?_; (conv => cbv))
      | (refine hk.nzI (by first | omega | assumption | decide) ?_; (conv => cbv))
      | (refine hk.ge0I (by first | omega | assumption) ?_; (conv => cbv))
      | (refine hk.needI (by simp only [rNd, hk.sb_eq, hk.ad_eq]; omega) ?_; (conv => cbv))
      | (refine hk.callA (by assumption) ?_; (conv => cbv))
      | (refine hk.calldA (by assumption) ?_; (conv => cbv))
      | (rw [hk.sb0]; (conv => cbv))
      | (rw [hk.ad0]; (conv => cbv))
      | exact hk.finB (by first | rfl | assumption)
      | exact hk.fin1 rfl)
    all_goals exact hk.finI (fin_same (by rw [hR]; exact ⟨i, _, hat, rfl, rfl⟩))
end Go.Proofs.Ytnnpookoencpnaa
