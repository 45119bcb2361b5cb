/-
  Contracts of functions of the program, proved over the abstract machine of the Al texts.
-/
import Derived.Test.YtnnpookoencpnabTryTab
import Derived.Test.YtnnpookoencpnabAl4
import Derived.Test.YtnnpookoencpnabBase
import Derived.Test.YtnnpookoencpnabRkX
import Derived.Test.YtnnpookoencpnabHpX
import Derived.Test.YtnnpookoencpnabHpD
import Derived.Test.YtnnpookoencpnabRkY
set_option maxHeartbeats 4000000
set_option maxRecDepth 20000
set_option linter.unusedSimpArgs false
set_option linter.unusedVariables false
open Go Go.AL
namespace Go.Proofs.Ytnnpookoencpnab
theorem hpush_spec (g : Nat) (n c : Int) (L : List Int) (hn : n = (L.length : Nat)) (h1 : n ≤ 1000) : Does PP 31 [QI, .iface 3 (I c)] (HQ g n L) (Is (.tup []) (HQ (g + 1) (n + 1) (pushL ltI 0 L c))) := by
  have hpu := qpush_spec g n c L hn (by omega)
  obtain ⟨m, hm⟩ : ∃ m, m = n + 1 := ⟨_, rfl⟩
  obtain ⟨s, hs⟩ : ∃ s, s = L ++ [c] := ⟨_, rfl⟩
  have hsl : m = (s.length : Nat) := by rw [hs, List.length_append, List.length_singleton]; omega
  have hle := qlen_spec (g + 1) m s hsl
  have hup := up_spec (g + 1) m n s hsl (by omega) (by omega) (by omega)
  have hR : upL ltI 0 n.toNat s n.toNat = pushL ltI 0 L c := by rw [pushL, ← hs, hn]; rfl
  rw [hR] at hup
  obtain ⟨R, hR0⟩ : ∃ R, R = pushL ltI 0 L c := ⟨_, rfl⟩
  rw [← hR0] at hup ⊢
  rw [← hm, ← hs] at hpu
  rw [← hm]
  refine doesF P_ok Try.f31 (by kernel_rfl) (by kernel_rfl) ?_
  intro i2 c2 u1 cv mx mn ad sbt bn bq ba lnI gtI apI sbI stI rpI lnG gtG apG sbG stG rpG fi fb fs fl fg fc sln sgt sap ssb sc b2s s2b nd call calld callv callvd loop rfun fin hk
  have hsu : i2 .sub .i64 m 1 = n := by rw [hk.sub64 _ _ (by omega) (by omega)]; omega
  (conv => cbv)
  repeat' (first
    | assumption
    | (rw [hsu]; (conv => cbv))
    | (refine hk.callA hpu ?_; (conv => cbv))
    | (refine hk.callA hle ?_; (conv => cbv))
    | (refine hk.callA hup ?_; (conv => cbv))
    | (refine hk.brLssT (by omega) ?_; (conv => cbv))
    | (refine hk.brLssF (by omega) ?_; (conv => cbv))
    | (refine hk.brLeqT (by omega) ?_; (conv => cbv))
    | (refine hk.brLeqF (by omega) ?_; (conv => cbv))
    | (refine hk.brGtrT (by omega) ?_; (conv => cbv))
    | (refine hk.brGtrF (by omega) ?_; (conv => cbv))
    | (refine hk.brGeqT (by omega) ?_; (conv => cbv))
    | (refine hk.brGeqF (by omega) ?_; (conv => cbv))
    | (refine hk.brEqlT (by omega) ?_; (conv => cbv))
    | (refine hk.brEqlF (by omega) ?_; (conv => cbv))
    | (refine hk.brNeqT (by omega) ?_; (conv => cbv))
    | (refine hk.brNeqF (by omega) ?_; (conv => cbv))
    | (refine hk.brLss (fun _ => ?_) (fun _ => ?_) <;> (conv => cbv))
    | (refine hk.brLeq (fun _ => ?_) (fun _ => ?_) <;> (conv => cbv))
    | (refine hk.brGtr (fun _ => ?_) (fun _ => ?_) <;> (conv => cbv))
    | (refine hk.brGeq (fun _ => ?_) (fun _ => ?_) <;> (conv => cbv))
    | (refine hk.brEql (fun _ => ?_) (fun _ => ?_) <;> (conv => cbv))
    | (refine hk.brNeq (fun _ => ?_) (fun _ => ?_) <;> (conv => cbv))
    | (refine hk.brNotT ?_; (conv => cbv))
    | (refine hk.brNotF ?_; (conv => cbv))
    | (refine hk.brNotS _ (by simp [hk.c2_lss, hk.c2_leq, hk.c2_gtr, hk.c2_geq, hk.c2_eql, hk.c2_neq, hk.bn_eq, hk.bq_eq]; rfl) ?_; (conv => cbv))
    | (refine hk.brBqS _ (by simp [hk.c2_lss, hk.c2_leq, hk.c2_gtr, hk.c2_geq, hk.c2_eql, hk.c2_neq, hk.bn_eq, hk.bq_eq]; rfl) ?_; (conv => cbv))
    | (refine hk.idxI (by first | omega | assumption) (by first | omega | assumption) ?_; (conv => cbv))
    | (refine hk.nzI (by first | omega | assumption | decide) ?_; (conv => cbv))
    | (refine hk.ge0I (by first | omega | assumption) ?_; (conv => cbv))
    | (refine hk.needI (by first | (simp only [rNd, hk.sb_eq, hk.ad_eq]; omega) | (simp [rNd, hk.sb_eq, hk.ad_eq]; omega)) ?_; (conv => cbv))
    | (refine hk.callA (by assumption) ?_; (conv => cbv))
    | (refine hk.calldA (by assumption) ?_; (conv => cbv))
    | (rw [hk.sb0]; (conv => cbv))
    | (rw [hk.ad0]; (conv => cbv))
    | exact hk.finB (by first | rfl | (simp [hk.c2_lss, hk.c2_leq, hk.c2_gtr, hk.c2_geq, hk.c2_eql, hk.c2_neq, hk.bn_eq, hk.bq_eq]; done) | assumption)
    | exact hk.fin1 rfl)
theorem hpop_spec (g : Nat) (n : Int) (L : List Int) (hn : n = (L.length : Nat)) (h0 : 1 ≤ n) (h1 : n ≤ 1000) : Does PP 17 [QI] (HQ g n L) (Is (.iface 3 (I (L.getD 0 0))) (HQ (g + 1) (n - 1) (popL ltI 0 L))) := by
  have hle := qlen_spec g n L hn
  obtain ⟨m, hm⟩ : ∃ m, m = n - 1 := ⟨_, rfl⟩
  have hsw := qswap_spec g n 0 m L hn (by omega) (by omega) (by omega) (by omega)
  obtain ⟨s, hs⟩ : ∃ s, s = swpL 0 L 0 m.toNat := ⟨_, rfl⟩
  have hsl : n = (s.length : Nat) := by rw [hs, swpL_len]; exact hn
  have hdn := down_spec g n 0 m s hsl (by omega) (by omega) (by omega) (by omega)
  obtain ⟨t, ht⟩ : ∃ t, t = downL ltI 0 m.toNat s m.toNat 0 := ⟨_, rfl⟩
  have htl : n = (t.length : Nat) := by rw [ht, downL_len]; exact hsl
  have hpo := qpop_spec g n t htl h0 (by omega)
  have hmL : m.toNat = L.length - 1 := by omega
  have e1 : t.take (t.length - 1) = popL ltI 0 L := by
    rw [popL, ← hmL, ← hs, ← ht]; congr 1; omega
  have e2 : t.getD (t.length - 1) 0 = L.getD 0 0 := by
    rw [show t.length - 1 = m.toNat by omega]
    by_cases hm0 : m.toNat = 0
    · rw [hm0]
      have : t = s := by rw [ht, hm0]; rfl
      rw [this, hs, hm0]
      match L, hmL with
      | [x], _ => rfl
      | [], _ => rfl
      | x :: y :: r, h => simp at h; omega
    · rw [ht, downL_far ltI 0 _ s m.toNat 0 m.toNat (by omega) (by omega) (Nat.le_refl _), hs, swpL_get _ _ _ _ _ (by omega) (by omega), if_pos rfl]
  obtain ⟨b, hb⟩ : ∃ b, b = goesK ltI 0 s m.toNat (Int.toNat 0) := ⟨_, rfl⟩
  obtain ⟨P, hP⟩ : ∃ P, P = popL ltI 0 L := ⟨_, rfl⟩
  obtain ⟨x, hx⟩ : ∃ x, x = L.getD 0 0 := ⟨_, rfl⟩
  rw [e1, e2, ← hm, ← hP, ← hx] at hpo
  rw [← hm, ← hP, ← hx]
  rw [show Int.toNat 0 = 0 from rfl, ← hs] at hsw
  rw [← hb, show Int.toNat 0 = 0 from rfl, ← ht] at hdn
  refine doesF P_ok Try.f17 (by kernel_rfl) (by kernel_rfl) ?_
  intro i2 c2 u1 cv mx mn ad sbt bn bq ba lnI gtI apI sbI stI rpI lnG gtG apG sbG stG rpG fi fb fs fl fg fc sln sgt sap ssb sc b2s s2b nd call calld callv callvd loop rfun fin hk
  have hsu : i2 .sub .i64 n 1 = m := by rw [hk.sub64 _ _ (by omega) (by omega)]; omega
  clear hb
  (conv => cbv)
  repeat' (first
    | assumption
    | (rw [hsu]; (conv => cbv))
    | (refine hk.callA hle ?_; (conv => cbv))
    | (refine hk.callA hsw ?_; (conv => cbv))
    | (refine hk.callA hdn ?_; (conv => cbv))
    | (refine hk.callA hpo ?_; (conv => cbv))
    | (refine hk.brLssT (by omega) ?_; (conv => cbv))
    | (refine hk.brLssF (by omega) ?_; (conv => cbv))
    | (refine hk.brLeqT (by omega) ?_; (conv => cbv))
    | (refine hk.brLeqF (by omega) ?_; (conv => cbv))
    | (refine hk.brGtrT (by omega) ?_; (conv => cbv))
    | (refine hk.brGtrF (by omega) ?_; (conv => cbv))
    | (refine hk.brGeqT (by omega) ?_; (conv => cbv))
    | (refine hk.brGeqF (by omega) ?_; (conv => cbv))
    | (refine hk.brEqlT (by omega) ?_; (conv => cbv))
    | (refine hk.brEqlF (by omega) ?_; (conv => cbv))
    | (refine hk.brNeqT (by omega) ?_; (conv => cbv))
    | (refine hk.brNeqF (by omega) ?_; (conv => cbv))
    | (refine hk.brLss (fun _ => ?_) (fun _ => ?_) <;> (conv => cbv))
    | (refine hk.brLeq (fun _ => ?_) (fun _ => ?_) <;> (conv => cbv))
    | (refine hk.brGtr (fun _ => ?_) (fun _ => ?_) <;> (conv => cbv))
    | (refine hk.brGeq (fun _ => ?_) (fun _ => ?_) <;> (conv => cbv))
    | (refine hk.brEql (fun _ => ?_) (fun _ => ?_) <;> (conv => cbv))
    | (refine hk.brNeq (fun _ => ?_) (fun _ => ?_) <;> (conv => cbv))
    | (refine hk.brNotT ?_; (conv => cbv))
    | (refine hk.brNotF ?_; (conv => cbv))
    | (refine hk.brNotS _ (by simp [hk.c2_lss, hk.c2_leq, hk.c2_gtr, hk.c2_geq, hk.c2_eql, hk.c2_neq, hk.bn_eq, hk.bq_eq]; rfl) ?_; (conv => cbv))
    | (refine hk.brBqS _ (by simp [hk.c2_lss, hk.c2_leq, hk.c2_gtr, hk.c2_geq, hk.c2_eql, hk.c2_neq, hk.bn_eq, hk.bq_eq]; rfl) ?_; (conv => cbv))
    | (refine hk.idxI (by first | omega | assumption) (by first | omega | assumption) ?_; (conv => cbv))
    | (refine hk.nzI (by first | omega | assumption | decide) ?_; (conv => cbv))
    | (refine hk.ge0I (by first | omega | assumption) ?_; (conv => cbv))
    | (refine hk.needI (by first | (simp only [rNd, hk.sb_eq, hk.ad_eq]; omega) | (simp [rNd, hk.sb_eq, hk.ad_eq]; omega)) ?_; (conv => cbv))
    | (refine hk.callA (by assumption) ?_; (conv => cbv))
    | (refine hk.calldA (by assumption) ?_; (conv => cbv))
    | (rw [hk.sb0]; (conv => cbv))
    | (rw [hk.ad0]; (conv => cbv))
    | exact hk.finB (by first | rfl | (simp [hk.c2_lss, hk.c2_leq, hk.c2_gtr, hk.c2_geq, hk.c2_eql, hk.c2_neq, hk.bn_eq, hk.bq_eq]; done) | assumption)
    | exact hk.fin1 rfl)
/-- Those that have a master are pushed. -/
def frL (ms : List Int) (m : Int) (L : List Int) : Nat → List Int
  | 0 => L
  | i + 1 => if ms.getD i 0 = m then pushL ltI 0 (frL ms m L i) (i : Nat) else frL ms m L i
def frN (ms : List Int) (m : Int) : Nat → Nat
  | 0 => 0
  | i + 1 => if ms.getD i 0 = m then frN ms m i + 1 else frN ms m i
theorem frL_len (ms : List Int) (m : Int) (L : List Int) : ∀ i, (frL ms m L i).length = L.length + frN ms m i
  | 0 => rfl
  | i + 1 => by
    simp only [frL, frN]
    split
    · rw [pushL_len, frL_len]; rfl
    · exact frL_len ms m L i
theorem frN_le (ms : List Int) (m : Int) : ∀ i, frN ms m i ≤ i
  | 0 => Nat.le_refl _
  | i + 1 => by simp only [frN]; have := frN_le ms m i; split <;> omega
theorem free_spec (g : Nat) (n m : Int) (L ms : List Int) (hn : n = (L.length : Nat)) (h1 : n ≤ 500) (hms : ms.length ≤ 8) :
    Does PP 15 [.ptr 0 0, LI ms, I m] (HQ g n L) (Is (.tup []) (HQ (g + frN ms m ms.length) (n + frN ms m ms.length) (frL ms m L ms.length))) := by
  have hpu := fun g n c L hn h => hpush_spec g n c L hn h
  obtain ⟨F, hF⟩ : ∃ F : Int → List Int, ∀ i, F i = frL ms m L i.toNat := ⟨_, fun _ => rfl⟩
  obtain ⟨G, hG⟩ : ∃ G : Int → Nat, ∀ i, G i = g + frN ms m i.toNat := ⟨_, fun _ => rfl⟩
  obtain ⟨N, hN⟩ : ∃ N : Int → Int, ∀ i, N i = n + frN ms m i.toNat := ⟨_, fun _ => rfl⟩
  obtain ⟨k, hk0⟩ : ∃ k : Int, k = (ms.length : Nat) := ⟨_, rfl⟩
  have eF : frL ms m L ms.length = F k := by rw [hF, hk0]; rfl
  have eG : g + frN ms m ms.length = G k := by rw [hG, hk0]; rfl
  have eN : n + frN ms m ms.length = N k := by rw [hN, hk0]; rfl
  rw [eF, eG, eN]
  have hF0 : F 0 = L := hF 0
  have hG0 : G 0 = g := hG 0
  have hN0 : N 0 = n := by rw [hN]; simp [frN]
  have hy : ∀ i : Int, 0 ≤ i → i < k → ms.getD i.toNat 0 = m → F (i + 1) = pushL ltI 0 (F i) i ∧ G (i + 1) = G i + 1 ∧ N (i + 1) = N i + 1 := fun i a b e => by
    rw [hF, hF, hG, hG, hN, hN, show (i + 1).toNat = i.toNat + 1 by omega, frL, frN, if_pos e, if_pos e, show ((i.toNat : Nat) : Int) = i by omega]
    refine ⟨rfl, by omega, by omega⟩
  have hno : ∀ i : Int, 0 ≤ i → i < k → ms.getD i.toNat 0 ≠ m → F (i + 1) = F i ∧ G (i + 1) = G i ∧ N (i + 1) = N i := fun i a b e => by
    rw [hF, hF, hG, hG, hN, hN, show (i + 1).toNat = i.toNat + 1 by omega, frL, frN, if_neg e, if_neg e]
    exact ⟨rfl, rfl, rfl⟩
  have hNl : ∀ i : Int, 0 ≤ i → i ≤ k → N i = ((F i).length : Nat) ∧ N i ≤ 600 := fun i a b => by
    have := frN_le ms m i.toNat
    rw [hN, hF, frL_len]; omega
  clear eF eG eN hF hG hN
  refine doesF P_ok Try.f15 (by kernel_rfl) (by kernel_rfl) ?_
  intro i2 c2 u1 cv mx mn ad sbt bn bq ba lnI gtI apI sbI stI rpI lnG gtG apG sbG stG rpG fi fb fs fl fg fc sln sgt sap ssb sc b2s s2b nd call calld callv callvd loop rfun fin hk
  have hln : lnI ms = k := by rw [hk.lnI_eq]; omega
  have hgt := hk.gtI_eq ms
  (conv => cbv)
  repeat' (first
    | assumption
    | (rw [hln]; (conv => cbv))
    | (refine hk.brLssT (by omega) ?_; (conv => cbv))
    | (refine hk.brLssF (by omega) ?_; (conv => cbv))
    | (refine hk.brLeqT (by omega) ?_; (conv => cbv))
    | (refine hk.brLeqF (by omega) ?_; (conv => cbv))
    | (refine hk.brGtrT (by omega) ?_; (conv => cbv))
    | (refine hk.brGtrF (by omega) ?_; (conv => cbv))
    | (refine hk.brGeqT (by omega) ?_; (conv => cbv))
    | (refine hk.brGeqF (by omega) ?_; (conv => cbv))
    | (refine hk.brEqlT (by omega) ?_; (conv => cbv))
    | (refine hk.brEqlF (by omega) ?_; (conv => cbv))
    | (refine hk.brNeqT (by omega) ?_; (conv => cbv))
    | (refine hk.brNeqF (by omega) ?_; (conv => cbv))
    | (refine hk.brLss (fun _ => ?_) (fun _ => ?_) <;> (conv => cbv))
    | (refine hk.brLeq (fun _ => ?_) (fun _ => ?_) <;> (conv => cbv))
    | (refine hk.brGtr (fun _ => ?_) (fun _ => ?_) <;> (conv => cbv))
    | (refine hk.brGeq (fun _ => ?_) (fun _ => ?_) <;> (conv => cbv))
    | (refine hk.brEql (fun _ => ?_) (fun _ => ?_) <;> (conv => cbv))
    | (refine hk.brNeq (fun _ => ?_) (fun _ => ?_) <;> (conv => cbv))
    | (refine hk.brNotT ?_; (conv => cbv))
    | (refine hk.brNotF ?_; (conv => cbv))
    | (refine hk.brNotS _ (by simp [hk.c2_lss, hk.c2_leq, hk.c2_gtr, hk.c2_geq, hk.c2_eql, hk.c2_neq, hk.bn_eq, hk.bq_eq]; rfl) ?_; (conv => cbv))
    | (refine hk.brBqS _ (by simp [hk.c2_lss, hk.c2_leq, hk.c2_gtr, hk.c2_geq, hk.c2_eql, hk.c2_neq, hk.bn_eq, hk.bq_eq]; rfl) ?_; (conv => cbv))
    | (refine hk.idxI (by first | omega | assumption) (by first | omega | assumption) ?_; (conv => cbv))
    | (refine hk.nzI (by first | omega | assumption | decide) ?_; (conv => cbv))
    | (refine hk.ge0I (by first | omega | assumption) ?_; (conv => cbv))
    | (refine hk.needI (by first | (simp only [rNd, hk.sb_eq, hk.ad_eq]; omega) | (simp [rNd, hk.sb_eq, hk.ad_eq]; omega)) ?_; (conv => cbv))
    | (refine hk.callA (by assumption) ?_; (conv => cbv))
    | (refine hk.calldA (by assumption) ?_; (conv => cbv))
    | (rw [hk.sb0]; (conv => cbv))
    | (rw [hk.ad0]; (conv => cbv))
    | exact hk.finB (by first | rfl | (simp [hk.c2_lss, hk.c2_leq, hk.c2_gtr, hk.c2_geq, hk.c2_eql, hk.c2_neq, hk.bn_eq, hk.bq_eq]; done) | assumption)
    | exact hk.fin1 rfl)
  refine hk.loopI (loop_rule (α := Int) (fun i => [(0, .ptr 0 0), (2, .int .i64 m), (8, .ls (.il .i64 ms) .any), (9, .int .i64 k), (10, .int .i64 i)]) (fun i => [.box [.sl 1 (G i) 0 (N i)], .rw (G i) (.il .i64 (F i))])
    (fun i => 0 ≤ i ∧ i ≤ k) (fun i => (k - i).toNat) 0 ⟨by omega, by omega⟩ ?_ ?_)
  · rw [hF0, hG0, hN0]
    exact Gh.tm (by repeat (first | exact Holds.nil _ _ | refine Holds.cons (Wk.refl _ _) ?_))
  intro i ⟨hi, hi2⟩ Q' hb hx hr
  by_cases hik : i < k
  · have hpu := hpu (G i) (N i) i (F i) (hNl i hi hi2).1 (by have := (hNl i hi hi2).2; omega)
    obtain ⟨x, hx0⟩ : ∃ x, x = gtI ms i := ⟨_, rfl⟩
    have hxm := hx0
    rw [hgt] at hxm
    by_cases hxe : x = m
    · obtain ⟨y1, y2, y3⟩ := hy i hi hik (by rw [← hxm]; exact hxe)
      rw [← y1, ← y2, ← y3] at hpu
      obtain ⟨F1, hF1⟩ : ∃ F1, F1 = F (i + 1) := ⟨_, rfl⟩
      obtain ⟨G1, hG1⟩ : ∃ F1, F1 = G (i + 1) := ⟨_, rfl⟩
      obtain ⟨N1, hN1⟩ : ∃ F1, F1 = N (i + 1) := ⟨_, rfl⟩
      rw [← hF1, ← hG1, ← hN1] at hpu
      (conv => cbv)
      repeat' (first
        | assumption
        | (rw [hln]; (conv => cbv))
        | (refine hk.idxI hi hik ?_; (conv => cbv))
        | (rw [← hx0]; (conv => cbv))
        | (refine hk.callA hpu ?_; (conv => cbv))
        | (refine hk.brLssT (by omega) ?_; (conv => cbv))
        | (refine hk.brLssF (by omega) ?_; (conv => cbv))
        | (refine hk.brLeqT (by omega) ?_; (conv => cbv))
        | (refine hk.brLeqF (by omega) ?_; (conv => cbv))
        | (refine hk.brGtrT (by omega) ?_; (conv => cbv))
        | (refine hk.brGtrF (by omega) ?_; (conv => cbv))
        | (refine hk.brGeqT (by omega) ?_; (conv => cbv))
        | (refine hk.brGeqF (by omega) ?_; (conv => cbv))
        | (refine hk.brEqlT (by omega) ?_; (conv => cbv))
        | (refine hk.brEqlF (by omega) ?_; (conv => cbv))
        | (refine hk.brNeqT (by omega) ?_; (conv => cbv))
        | (refine hk.brNeqF (by omega) ?_; (conv => cbv))
        | (refine hk.brLss (fun _ => ?_) (fun _ => ?_) <;> (conv => cbv))
        | (refine hk.brLeq (fun _ => ?_) (fun _ => ?_) <;> (conv => cbv))
        | (refine hk.brGtr (fun _ => ?_) (fun _ => ?_) <;> (conv => cbv))
        | (refine hk.brGeq (fun _ => ?_) (fun _ => ?_) <;> (conv => cbv))
        | (refine hk.brEql (fun _ => ?_) (fun _ => ?_) <;> (conv => cbv))
        | (refine hk.brNeq (fun _ => ?_) (fun _ => ?_) <;> (conv => cbv))
        | (refine hk.brNotT ?_; (conv => cbv))
        | (refine hk.brNotF ?_; (conv => cbv))
        | (refine hk.brNotS _ (by simp [hk.c2_lss, hk.c2_leq, hk.c2_gtr, hk.c2_geq, hk.c2_eql, hk.c2_neq, hk.bn_eq, hk.bq_eq]; rfl) ?_; (conv => cbv))
        | (refine hk.brBqS _ (by simp [hk.c2_lss, hk.c2_leq, hk.c2_gtr, hk.c2_geq, hk.c2_eql, hk.c2_neq, hk.bn_eq, hk.bq_eq]; rfl) ?_; (conv => cbv))
        | (refine hk.idxI (by first | omega | assumption) (by first | omega | assumption) ?_; (conv => cbv))
        | (refine hk.nzI (by first | omega | assumption | decide) ?_; (conv => cbv))
        | (refine hk.ge0I (by first | omega | assumption) ?_; (conv => cbv))
        | (refine hk.needI (by first | (simp only [rNd, hk.sb_eq, hk.ad_eq]; omega) | (simp [rNd, hk.sb_eq, hk.ad_eq]; omega)) ?_; (conv => cbv))
        | (refine hk.callA (by assumption) ?_; (conv => cbv))
        | (refine hk.calldA (by assumption) ?_; (conv => cbv))
        | (rw [hk.sb0]; (conv => cbv))
        | (rw [hk.ad0]; (conv => cbv))
        | exact hk.finB (by first | rfl | (simp [hk.c2_lss, hk.c2_leq, hk.c2_gtr, hk.c2_geq, hk.c2_eql, hk.c2_neq, hk.bn_eq, hk.bq_eq]; done) | assumption)
        | exact hk.fin1 rfl)
      refine hb (i + 1) _ ⟨by omega, by omega⟩ (by omega) ?_
      rw [← hF1, ← hG1, ← hN1]
      refine Gh.tm ?_
      repeat' (first | exact Holds.nil _ _ | refine Holds.cons (Wk.refl _ _) ?_ | refine Holds.cons (Wk.of_eq ?_) ?_)
      all_goals first
        | (rw [← hk.add64 i 1 (by omega) (by omega)]; rfl)
        | rfl
        | skip
    · obtain ⟨y1, y2, y3⟩ := hno i hi hik (by rw [← hxm]; exact hxe)
      obtain ⟨F1, hF1⟩ : ∃ F1, F1 = F i := ⟨_, rfl⟩
      obtain ⟨G1, hG1⟩ : ∃ F1, F1 = G i := ⟨_, rfl⟩
      obtain ⟨N1, hN1⟩ : ∃ F1, F1 = N i := ⟨_, rfl⟩
      rw [← hF1, ← hG1, ← hN1]
      rw [← hF1] at y1
      rw [← hG1] at y2
      rw [← hN1] at y3
      (conv => cbv)
      repeat' (first
        | assumption
        | (rw [hln]; (conv => cbv))
        | (refine hk.idxI hi hik ?_; (conv => cbv))
        | (rw [← hx0]; (conv => cbv))
        | (refine hk.brLssT (by omega) ?_; (conv => cbv))
        | (refine hk.brLssF (by omega) ?_; (conv => cbv))
        | (refine hk.brLeqT (by omega) ?_; (conv => cbv))
        | (refine hk.brLeqF (by omega) ?_; (conv => cbv))
        | (refine hk.brGtrT (by omega) ?_; (conv => cbv))
        | (refine hk.brGtrF (by omega) ?_; (conv => cbv))
        | (refine hk.brGeqT (by omega) ?_; (conv => cbv))
        | (refine hk.brGeqF (by omega) ?_; (conv => cbv))
        | (refine hk.brEqlT (by omega) ?_; (conv => cbv))
        | (refine hk.brEqlF (by omega) ?_; (conv => cbv))
        | (refine hk.brNeqT (by omega) ?_; (conv => cbv))
        | (refine hk.brNeqF (by omega) ?_; (conv => cbv))
        | (refine hk.brLss (fun _ => ?_) (fun _ => ?_) <;> (conv => cbv))
        | (refine hk.brLeq (fun _ => ?_) (fun _ => ?_) <;> (conv => cbv))
        | (refine hk.brGtr (fun _ => ?_) (fun _ => ?_) <;> (conv => cbv))
        | (refine hk.brGeq (fun _ => ?_) (fun _ => ?_) <;> (conv => cbv))
        | (refine hk.brEql (fun _ => ?_) (fun _ => ?_) <;> (conv => cbv))
        | (refine hk.brNeq (fun _ => ?_) (fun _ => ?_) <;> (conv => cbv))
        | (refine hk.brNotT ?_; (conv => cbv))
        | (refine hk.brNotF ?_; (conv => cbv))
        | (refine hk.brNotS _ (by simp [hk.c2_lss, hk.c2_leq, hk.c2_gtr, hk.c2_geq, hk.c2_eql, hk.c2_neq, hk.bn_eq, hk.bq_eq]; rfl) ?_; (conv => cbv))
        | (refine hk.brBqS _ (by simp [hk.c2_lss, hk.c2_leq, hk.c2_gtr, hk.c2_geq, hk.c2_eql, hk.c2_neq, hk.bn_eq, hk.bq_eq]; rfl) ?_; (conv => cbv))
        | (refine hk.idxI (by first | omega | assumption) (by first | omega | assumption) ?_; (conv => cbv))
        | (refine hk.nzI (by first | omega | assumption | decide) ?_; (conv => cbv))
        | (refine hk.ge0I (by first | omega | assumption) ?_; (conv => cbv))
        | (refine hk.needI (by first | (simp only [rNd, hk.sb_eq, hk.ad_eq]; omega) | (simp [rNd, hk.sb_eq, hk.ad_eq]; omega)) ?_; (conv => cbv))
        | (refine hk.callA (by assumption) ?_; (conv => cbv))
        | (refine hk.calldA (by assumption) ?_; (conv => cbv))
        | (rw [hk.sb0]; (conv => cbv))
        | (rw [hk.ad0]; (conv => cbv))
        | exact hk.finB (by first | rfl | (simp [hk.c2_lss, hk.c2_leq, hk.c2_gtr, hk.c2_geq, hk.c2_eql, hk.c2_neq, hk.bn_eq, hk.bq_eq]; done) | assumption)
        | exact hk.fin1 rfl)
      refine hb (i + 1) _ ⟨by omega, by omega⟩ (by omega) ?_
      rw [y1, y2, y3]
      refine Gh.tm ?_
      repeat' (first | exact Holds.nil _ _ | refine Holds.cons (Wk.refl _ _) ?_ | refine Holds.cons (Wk.of_eq ?_) ?_)
      all_goals first
        | (rw [← hk.add64 i 1 (by omega) (by omega)]; rfl)
        | rfl
        | skip
  · have : i = k := by omega
    subst this
    (conv => cbv)
    repeat' (first
      | assumption
      | (refine hx _ _ ?_; (conv => cbv))
      | (refine hk.brLssT (by omega) ?_; (conv => cbv))
      | (refine hk.brLssF (by omega) ?_; (conv => cbv))
      | (refine hk.brLeqT (by omega) ?_; (conv => cbv))
      | (refine hk.brLeqF (by omega) ?_; (conv => cbv))
      | (refine hk.brGtrT (by omega) ?_; (conv => cbv))
      | (refine hk.brGtrF (by omega) ?_; (conv => cbv))
      | (refine hk.brGeqT (by omega) ?_; (conv => cbv))
      | (refine hk.brGeqF (by omega) ?_; (conv => cbv))
      | (refine hk.brEqlT (by omega) ?_; (conv => cbv))
      | (refine hk.brEqlF (by omega) ?_; (conv => cbv))
      | (refine hk.brNeqT (by omega) ?_; (conv => cbv))
      | (refine hk.brNeqF (by omega) ?_; (conv => cbv))
      | (refine hk.brLss (fun _ => ?_) (fun _ => ?_) <;> (conv => cbv))
      | (refine hk.brLeq (fun _ => ?_) (fun _ => ?_) <;> (conv => cbv))
      | (refine hk.brGtr (fun _ => ?_) (fun _ => ?_) <;> (conv => cbv))
      | (refine hk.brGeq (fun _ => ?_) (fun _ => ?_) <;> (conv => cbv))
      | (refine hk.brEql (fun _ => ?_) (fun _ => ?_) <;> (conv => cbv))
      | (refine hk.brNeq (fun _ => ?_) (fun _ => ?_) <;> (conv => cbv))
      | (refine hk.brNotT ?_; (conv => cbv))
      | (refine hk.brNotF ?_; (conv => cbv))
      | (refine hk.brNotS _ (by simp [hk.c2_lss, hk.c2_leq, hk.c2_gtr, hk.c2_geq, hk.c2_eql, hk.c2_neq, hk.bn_eq, hk.bq_eq]; rfl) ?_; (conv => cbv))
      | (refine hk.brBqS _ (by simp [hk.c2_lss, hk.c2_leq, hk.c2_gtr, hk.c2_geq, hk.c2_eql, hk.c2_neq, hk.bn_eq, hk.bq_eq]; rfl) ?_; (conv => cbv))
      | (refine hk.idxI (by first | omega | assumption) (by first | omega | assumption) ?_; (conv => cbv))
      | (refine hk.nzI (by first | omega | assumption | decide) ?_; (conv => cbv))
      | (refine hk.ge0I (by first | omega | assumption) ?_; (conv => cbv))
      | (refine hk.needI (by first | (simp only [rNd, hk.sb_eq, hk.ad_eq]; omega) | (simp [rNd, hk.sb_eq, hk.ad_eq]; omega)) ?_; (conv => cbv))
      | (refine hk.callA (by assumption) ?_; (conv => cbv))
      | (refine hk.calldA (by assumption) ?_; (conv => cbv))
      | (rw [hk.sb0]; (conv => cbv))
      | (rw [hk.ad0]; (conv => cbv))
      | exact hk.finB (by first | rfl | (simp [hk.c2_lss, hk.c2_leq, hk.c2_gtr, hk.c2_geq, hk.c2_eql, hk.c2_neq, hk.bn_eq, hk.bq_eq]; done) | assumption)
      | exact hk.fin1 rfl)
end Go.Proofs.Ytnnpookoencpnab
set_option linter.unusedSimpArgs false
set_option linter.unusedVariables false
open Go Go.AL
namespace Go.Proofs.Ytnnpookoencpnab
/-- May c stand next? -/
def av (ms out : List Int) (c : Nat) : Bool := !(decide ((c : Int) ∈ out)) && (decide (ms.getD c 0 = -1) || decide (ms.getD c 0 ∈ out))
theorem av_iff (ms out : List Int) (c : Nat) : av ms out c = true ↔ (c : Int) ∉ out ∧ (ms.getD c 0 = -1 ∨ ms.getD c 0 ∈ out) := by simp [av]
/-- The least of the last k that may. -/
def nx (ms out : List Int) (n : Nat) : Nat → Int
  | 0 => -1
  | k + 1 => if av ms out (n - 1 - k) = true then ((n - 1 - k : Nat) : Int) else nx ms out n k
theorem nx_spec (ms out : List Int) (n : Nat) : ∀ k, k ≤ n → (nx ms out n k = -1 ∧ ∀ c, n - k ≤ c → c < n → av ms out c = false) ∨
    ∃ c : Nat, nx ms out n k = c ∧ n - k ≤ c ∧ c < n ∧ av ms out c = true ∧ ∀ c', n - k ≤ c' → c' < c → av ms out c' = false
  | 0, _ => .inl ⟨rfl, fun c h1 h2 => by omega⟩
  | k + 1, h => by
    simp only [nx]
    split
    · rename_i ha
      exact .inr ⟨n - 1 - k, rfl, by omega, by omega, ha, fun c' h1 h2 => by omega⟩
    · rename_i ha
      have ha : av ms out (n - 1 - k) = false := by simpa using ha
      have hc : ∀ c, n - (k + 1) ≤ c → c < n - k → av ms out c = false := fun c h1 h2 => by
        rw [show c = n - 1 - k by omega]; exact ha
      rcases nx_spec ms out n k (by omega) with ⟨h1, h2⟩ | ⟨c, h1, h2, h3, h4, h5⟩
      · exact .inl ⟨h1, fun c a b => if e : c < n - k then hc c a e else h2 c (by omega) b⟩
      · exact .inr ⟨c, h1, by omega, h3, h4, fun c' a b => if e : c' < n - k then hc c' a e else h5 c' (by omega) b⟩
theorem nx_all (ms out : List Int) (n : Nat) : (nx ms out n n = -1 ∧ ∀ c, c < n → av ms out c = false) ∨
    ∃ c : Nat, nx ms out n n = c ∧ c < n ∧ av ms out c = true ∧ ∀ c', c' < c → av ms out c' = false := by
  rcases nx_spec ms out n n (Nat.le_refl _) with ⟨h1, h2⟩ | ⟨c, h1, h2, h3, h4, h5⟩
  · exact .inl ⟨h1, fun c h => h2 c (by omega) h⟩
  · exact .inr ⟨c, h1, h3, h4, fun c' h => h5 c' (by omega) h⟩
def srt (ms : List Int) (n : Nat) : Nat → List Int → Option (List Int)
  | 0, out => some out
  | k + 1, out => if nx ms out n n < 0 then none else srt ms n k (out ++ [nx ms out n n])
theorem srt_some (ms : List Int) (n : Nat) : ∀ (k : Nat) (out l : List Int), srt ms n k out = some l → l.length = out.length + k ∧ l.take out.length = out ∧
    ∀ i, out.length ≤ i → i < l.length → 0 ≤ l.getD i 0 ∧ l.getD i 0 = nx ms (l.take i) n n
  | 0, out, l, h => by
    simp only [srt, Option.some.injEq] at h
    subst h
    exact ⟨rfl, List.take_length, fun i a b => by omega⟩
  | k + 1, out, l, h => by
    simp only [srt] at h
    split at h
    · cases h
    rename_i hn
    obtain ⟨h1, h2, h3⟩ := srt_some ms n k _ l h
    rw [List.length_append, List.length_singleton] at h1 h2 h3
    have h4 : l.take out.length = out := by
      have := congrArg (List.take out.length) h2
      rw [List.take_take, Nat.min_eq_left (by omega), List.take_append_of_le_length (Nat.le_refl _), List.take_length] at this
      exact this
    refine ⟨by omega, h4, fun i a b => ?_⟩
    by_cases e : i = out.length
    · subst e
      have : l.getD out.length 0 = nx ms out n n := by
        have h5 := congrArg (fun x => x.getD out.length 0) h2
        rw [List.getD_eq_getElem?_getD, List.getElem?_take, if_pos (by omega), ← List.getD_eq_getElem?_getD] at h5
        rw [h5]; simp [List.getD]
      rw [this, h4]
      exact ⟨by omega, rfl⟩
    · exact h3 i (by omega) b
theorem len_le_range {a : List Int} {n : Nat} (hn : a.Nodup) (hs : ∀ x ∈ a, x ∈ rangeI n) : a.length ≤ n := by
  rcases Nat.lt_or_ge n a.length with h | h
  · have := (perm_of_subset a (rangeI n) hn hs (by rw [rangeI_len]; omega)).length_eq
    rw [rangeI_len] at this; exact Nat.le_of_eq this
  · exact h
theorem mem_take_get {l : List Int} {x : Int} {i : Nat} : x ∈ l.take i ↔ ∃ j, j < i ∧ j < l.length ∧ l.getD j 0 = x := by
  constructor
  · intro h
    obtain ⟨j, hj, e⟩ := List.getElem_of_mem h
    rw [List.length_take] at hj
    refine ⟨j, by omega, by omega, ?_⟩
    rw [← e, List.getElem_take, List.getD_eq_getElem?_getD, List.getElem?_eq_getElem (by omega)]; rfl
  · rintro ⟨j, h1, h2, rfl⟩
    rw [List.getD_eq_getElem?_getD, List.getElem?_eq_getElem h2]
    exact List.mem_of_getElem? (i := j) (by rw [List.getElem?_take, if_pos h1, List.getElem?_eq_getElem h2]; rfl)
theorem srt_goes {ms l : List Int} (hr : Right ms) (h : srt ms ms.length ms.length [] = some l) : GoesP l ms := by
  obtain ⟨h1, _, h3⟩ := srt_some ms ms.length ms.length [] l h
  simp only [List.length_nil, Nat.zero_add] at h1 h3
  have hav : ∀ i, i < l.length → ∃ c : Nat, l.getD i 0 = c ∧ c < ms.length ∧ av ms (l.take i) c = true := fun i hi => by
    obtain ⟨a, b⟩ := h3 i (Nat.zero_le _) hi
    rcases nx_all ms (l.take i) ms.length with ⟨e, _⟩ | ⟨c, e, hc, ha, _⟩
    · omega
    · exact ⟨c, b.trans e, hc, ha⟩
  have hnd : ∀ i j, i < j → j < l.length → l.getD i 0 ≠ l.getD j 0 := fun i j hij hj e => by
    obtain ⟨c, e1, e2, e3⟩ := hav j hj
    rw [av_iff] at e3
    refine e3.1 ?_
    rw [mem_take_get]
    exact ⟨i, hij, by omega, by rw [e, e1]⟩
  have hl0 : l.Nodup := by
    rw [List.nodup_iff_pairwise_ne, List.pairwise_iff_getElem]
    intro i j hi hj hij
    have := hnd i j hij hj
    rw [List.getD_eq_getElem?_getD, List.getElem?_eq_getElem hi, List.getD_eq_getElem?_getD, List.getElem?_eq_getElem hj] at this
    exact this
  have hsub : ∀ x ∈ l, x ∈ rangeI l.length := fun x hx => by
    obtain ⟨i, hi, e⟩ := List.getElem_of_mem hx
    obtain ⟨c, e1, e2, _⟩ := hav i hi
    rw [List.getD_eq_getElem?_getD, List.getElem?_eq_getElem hi] at e1
    rw [mem_rangeI]
    simp only [Option.getD_some] at e1
    omega
  have hp := perm_of_subset l (rangeI l.length) hl0 hsub (by rw [rangeI_len]; exact Nat.le_refl _)
  refine ⟨⟨by rw [h1]; exact hr.1, by rw [h1]; exact hr.2.1, fun i hi => hp.mem_iff.2 (by rw [mem_rangeI]; omega)⟩, h1, fun i hi => ?_⟩
  obtain ⟨c, e1, e2, e3⟩ := hav i hi
  rw [av_iff] at e3
  rw [e1]
  exact e3.2
theorem order_nodup {l : List Int} (h : Order l) : l.Nodup := (order_perm h.2.2).nodup_iff.1 (rangeI_nodup _)
theorem order_range {l : List Int} (h : Order l) : ∀ x ∈ l, x ∈ rangeI l.length := fun x hx => (order_perm h.2.2).mem_iff.2 hx
theorem least_of {p : Nat → Prop} : ∀ n, p n → ∃ m, m ≤ n ∧ p m ∧ ∀ k, k < m → ¬ p k := by
  intro n
  induction n using Nat.strongRecOn with
  | ind n ih =>
    intro h
    by_cases hx : ∃ k, k < n ∧ p k
    · obtain ⟨k, h1, h2⟩ := hx
      obtain ⟨m, a, b, c⟩ := ih k h1 h2
      exact ⟨m, by omega, b, c⟩
    · exact ⟨n, Nat.le_refl _, h, fun k h1 h2 => hx ⟨k, h1, h2⟩⟩
theorem goes_av {o ms out : List Int} (hg : GoesP o ms) (hlt : out.length < ms.length) : ∃ c, c < ms.length ∧ av ms out c = true := by
  obtain ⟨ho, hl, hm⟩ := hg
  have hex : ∃ i, i < o.length ∧ o.getD i 0 ∉ out := by
    by_cases h : ∃ i, i < o.length ∧ o.getD i 0 ∉ out
    · exact h
    · have hs : ∀ x ∈ o, x ∈ out := fun x hx => by
        obtain ⟨j, hj, e⟩ := mem_getD.1 hx
        by_cases hh : x ∈ out
        · exact hh
        · exact absurd ⟨j, hj, by rw [e]; exact hh⟩ h
      have := (perm_of_subset o out (order_nodup ho) hs (by omega)).length_eq
      omega
  obtain ⟨i0, h1, h2⟩ := hex
  obtain ⟨i, hi, ⟨h3, h4⟩, h5⟩ := least_of (p := fun i => i < o.length ∧ o.getD i 0 ∉ out) i0 ⟨h1, h2⟩
  have hb := ho.bounds i h3
  refine ⟨(o.getD i 0).toNat, by omega, ?_⟩
  rw [av_iff]
  refine ⟨by rw [show (((o.getD i 0).toNat : Nat) : Int) = o.getD i 0 by omega]; exact h4, ?_⟩
  rcases hm i h3 with h | h
  · exact .inl h
  · refine .inr ?_
    obtain ⟨j, a, b, c⟩ := mem_take_get.1 h
    by_cases hh : o.getD j 0 ∈ out
    · rw [c] at hh; exact hh
    · exact absurd ⟨b, hh⟩ (h5 j a)
theorem srt_total {o ms : List Int} (hg : GoesP o ms) : ∀ (k : Nat) (out : List Int), out.length + k = ms.length → srt ms ms.length k out ≠ none
  | 0, out, _ => by simp [srt]
  | k + 1, out, h => by
    simp only [srt]
    obtain ⟨c, hc, ha⟩ := goes_av (out := out) hg (by omega)
    rcases nx_all ms out ms.length with ⟨_, e⟩ | ⟨c', e, _⟩
    · rw [e c hc] at ha; cases ha
    · rw [if_neg (by omega)]
      exact srt_total hg k _ (by rw [List.length_append, List.length_singleton]; omega)
/-- None that goes comes ahead. -/
theorem srt_first {o ms l : List Int} (hg : GoesP o ms) (h : srt ms ms.length ms.length [] = some l) (i : Nat) (hi : i < l.length) (he : ∀ j, j < i → o.getD j 0 = l.getD j 0) : l.getD i 0 ≤ o.getD i 0 := by
  obtain ⟨h1, _, h3⟩ := srt_some ms ms.length ms.length [] l h
  simp only [List.length_nil, Nat.zero_add] at h1 h3
  obtain ⟨ho, hl, hm⟩ := hg
  have ht : ∀ x, x ∈ o.take i ↔ x ∈ l.take i := fun x => by
    rw [mem_take_get, mem_take_get]
    constructor
    · rintro ⟨j, a, b, c⟩; exact ⟨j, a, by omega, by rw [← he j a]; exact c⟩
    · rintro ⟨j, a, b, c⟩; exact ⟨j, a, by omega, by rw [he j a]; exact c⟩
  have hb := ho.bounds i (by omega)
  have hav : av ms (l.take i) (o.getD i 0).toNat = true := by
    rw [av_iff, show (((o.getD i 0).toNat : Nat) : Int) = o.getD i 0 by omega]
    refine ⟨fun hh => ?_, ?_⟩
    · obtain ⟨j, a, b, c⟩ := mem_take_get.1 ((ht _).2 hh)
      have := ho.inj j i b (by omega) c
      omega
    · rcases hm i (by omega) with e | e
      · exact .inl e
      · exact .inr ((ht _).1 e)
  obtain ⟨a, b⟩ := h3 i (Nat.zero_le _) hi
  rcases nx_all ms (l.take i) ms.length with ⟨e, h6⟩ | ⟨c, e, hc, h5, h6⟩
  · have := h6 (o.getD i 0).toNat (by omega)
    rw [this] at hav; cases hav
  · rw [b, e]
    by_cases hh : (o.getD i 0).toNat < c
    · rw [h6 _ hh] at hav; cases hav
    · omega
end Go.Proofs.Ytnnpookoencpnab
set_option linter.unusedSimpArgs false
set_option linter.unusedVariables false
open Go Go.AL
namespace Go.Proofs.Ytnnpookoencpnab
theorem frL_mem (ms : List Int) (m : Int) (L : List Int) : ∀ i x, x ∈ frL ms m L i ↔ x ∈ L ∨ ∃ k, k < i ∧ x = (k : Nat) ∧ ms.getD k 0 = m
  | 0, x => by simp [frL]
  | i + 1, x => by
    simp only [frL]
    split
    · rename_i e
      rw [(pushL_perm (lt := ltI) (d := 0) (frL ms m L i) (i : Nat)).mem_iff, List.mem_cons, frL_mem]
      constructor
      · rintro (h | h | ⟨k, a, b, c⟩)
        · exact .inr ⟨i, by omega, h, e⟩
        · exact .inl h
        · exact .inr ⟨k, by omega, b, c⟩
      · rintro (h | ⟨k, a, b, c⟩)
        · exact .inr (.inl h)
        · by_cases hk : k = i
          · subst hk; exact .inl b
          · exact .inr (.inr ⟨k, by omega, b, c⟩)
    · rename_i e
      rw [frL_mem]
      constructor
      · rintro (h | ⟨k, a, b, c⟩)
        · exact .inl h
        · exact .inr ⟨k, by omega, b, c⟩
      · rintro (h | ⟨k, a, b, c⟩)
        · exact .inl h
        · by_cases hk : k = i
          · subst hk; exact absurd c e
          · exact .inr ⟨k, by omega, b, c⟩
theorem frL_nodup (ms : List Int) (m : Int) (L : List Int) (hL : L.Nodup) (hk : ∀ k : Nat, ms.getD k 0 = m → (k : Int) ∉ L) : ∀ i, (frL ms m L i).Nodup
  | 0 => hL
  | i + 1 => by
    simp only [frL]
    split
    · rename_i e
      rw [(pushL_perm (lt := ltI) (d := 0) (frL ms m L i) (i : Nat)).nodup_iff, List.nodup_cons]
      refine ⟨fun h => ?_, frL_nodup ms m L hL hk i⟩
      rcases (frL_mem ms m L i _).1 h with h | ⟨k, a, b, c⟩
      · exact hk i e h
      · omega
    · exact frL_nodup ms m L hL hk i
theorem frL_heap (ms : List Int) (m : Int) (L : List Int) (hL : HpP ltI 0 L L.length) : ∀ i, HpP ltI 0 (frL ms m L i) (frL ms m L i).length
  | 0 => hL
  | i + 1 => by
    simp only [frL]
    split
    · rw [pushL_len]; exact pushL_heap ltI_ordr _ _ (frL_heap ms m L hL i)
    · exact frL_heap ms m L hL i
/-- What holds between two pops. -/
structure SrtI (ms out L : List Int) : Prop where
  heap : HpP ltI 0 L L.length
  nod : L.Nodup
  mem : ∀ x : Int, x ∈ L ↔ ∃ k : Nat, x = k ∧ k < ms.length ∧ av ms out k = true
  onod : out.Nodup
  orng : ∀ x ∈ out, x ∈ rangeI ms.length
  ocl : ∀ k : Nat, (k : Int) ∈ out → ms.getD k 0 = -1 ∨ ms.getD k 0 ∈ out
theorem SrtI.start (ms : List Int) : SrtI ms [] (frL ms (-1) [] ms.length) where
  heap := frL_heap ms (-1) [] (fun c a b => by simp at b) _
  nod := frL_nodup ms (-1) [] List.nodup_nil (fun k _ => by simp) _
  mem := fun x => by
    rw [frL_mem]
    constructor
    · rintro (h | ⟨k, a, b, c⟩)
      · cases h
      · exact ⟨k, b, a, by rw [av_iff]; exact ⟨by simp, .inl c⟩⟩
    · rintro ⟨k, a, b, c⟩
      rw [av_iff] at c
      rcases c.2 with h | h
      · exact .inr ⟨k, b, a, h⟩
      · cases h
  onod := List.nodup_nil
  orng := fun x h => by cases h
  ocl := fun k h => by cases h
theorem getD0_mem {L : List Int} (h : 0 < L.length) : L.getD 0 0 ∈ L := by
  rw [List.getD_eq_getElem?_getD, List.getElem?_eq_getElem h]
  exact List.getElem_mem h
theorem SrtI.top {ms out L : List Int} (h : SrtI ms out L) (h0 : 0 < L.length) : nx ms out ms.length ms.length = L.getD 0 0 ∧ 0 ≤ L.getD 0 0 := by
  obtain ⟨k, a, b, c⟩ := (h.mem _).1 (getD0_mem h0)
  have hmin := popL_min ltI_ordr L h0 h.heap
  rcases nx_all ms out ms.length with ⟨e, h6⟩ | ⟨c', e, hc, h5, h6⟩
  · rw [h6 k b] at c; cases c
  · have h7 := hmin c' ((h.mem _).2 ⟨c', rfl, hc, h5⟩)
    simp only [ltI, decide_eq_false_iff_not] at h7
    have h8 : ¬ k < c' := fun hh => by rw [h6 k hh] at c; cases c
    omega
theorem SrtI.none {ms out L : List Int} (h : SrtI ms out L) (h0 : L.length = 0) : nx ms out ms.length ms.length = -1 := by
  rcases nx_all ms out ms.length with ⟨e, h6⟩ | ⟨c', e, hc, h5, h6⟩
  · exact e
  · have := (h.mem _).2 ⟨c', rfl, hc, h5⟩
    rw [List.length_eq_zero_iff.1 h0] at this
    cases this
theorem SrtI.olen {ms out L : List Int} (h : SrtI ms out L) : out.length ≤ ms.length := len_le_range h.onod h.orng
theorem SrtI.llen {ms out L : List Int} (h : SrtI ms out L) : L.length ≤ ms.length := len_le_range h.nod fun x hx => by
  obtain ⟨k, a, b, c⟩ := (h.mem _).1 hx
  rw [mem_rangeI]; omega
theorem SrtI.step {ms out L : List Int} (h : SrtI ms out L) (h0 : 0 < L.length) : SrtI ms (out ++ [L.getD 0 0]) (frL ms (L.getD 0 0) (popL ltI 0 L) ms.length) := by
  have hpm := popL_perm (lt := ltI) (d := 0) L h0
  have hhp := popL_heap ltI_ordr L h.heap
  have hpl := popL_len (lt := ltI) (d := 0) L
  rw [← hpl] at hhp
  obtain ⟨kc, a, b, c⟩ := (h.mem _).1 (getD0_mem h0)
  generalize L.getD 0 0 = x at *
  generalize popL ltI 0 L = P at *
  subst a
  have hnd := hpm.nodup_iff.2 h.nod
  rw [List.nodup_cons] at hnd
  have hmP : ∀ y, y ∈ P ↔ y ∈ L ∧ y ≠ kc := fun y => by
    rw [← hpm.mem_iff, List.mem_cons]
    constructor
    · intro hy; exact ⟨.inr hy, fun e => by subst e; exact hnd.1 hy⟩
    · rintro ⟨h1 | h1, h2⟩
      · exact absurd h1 h2
      · exact h1
  have c' := (av_iff ms out kc).1 c
  have hself : ∀ k : Nat, ms.getD k 0 = (kc : Int) → k ≠ kc := fun k e e2 => by
    subst e2
    rcases c'.2 with h | h
    · omega
    · rw [e] at h; exact c'.1 h
  refine ⟨frL_heap _ _ _ hhp _, frL_nodup _ _ _ hnd.2 (fun k e hk => ?_) _, fun y => ?_, ?_, ?_, ?_⟩
  · obtain ⟨k', a1, a2, a3⟩ := (h.mem _).1 ((hmP _).1 hk).1
    have : k = k' := by omega
    subst this
    rcases ((av_iff _ _ _).1 a3).2 with h | h
    · omega
    · rw [e] at h; exact c'.1 h
  · rw [frL_mem]
    constructor
    · rintro (h1 | ⟨k, a1, a2, a3⟩)
      · obtain ⟨h1, h2⟩ := (hmP _).1 h1
        obtain ⟨k', a1, a2, a3⟩ := (h.mem _).1 h1
        refine ⟨k', a1, a2, ?_⟩
        rw [av_iff] at a3 ⊢
        refine ⟨fun hh => ?_, a3.2.imp id fun hh => List.mem_append_left _ hh⟩
        rcases List.mem_append.1 hh with hh | hh
        · exact a3.1 hh
        · exact h2 (by rw [a1]; exact List.mem_singleton.1 hh)
      · refine ⟨k, a2, a1, ?_⟩
        rw [av_iff]
        refine ⟨fun hh => ?_, .inr (by rw [a3]; simp)⟩
        rcases List.mem_append.1 hh with hh | hh
        · rcases h.ocl k hh with e | e
          · omega
          · rw [a3] at e; exact c'.1 e
        · have := List.mem_singleton.1 hh
          exact hself k a3 (by omega)
    · rintro ⟨k, a1, a2, a3⟩
      rw [av_iff] at a3
      obtain ⟨a3, a4⟩ := a3
      have a5 : (k : Int) ∉ out := fun hh => a3 (List.mem_append_left _ hh)
      have a6 : k ≠ kc := fun e => a3 (by rw [e]; simp)
      by_cases e : ms.getD k 0 = (kc : Int)
      · exact .inr ⟨k, a2, a1, e⟩
      · refine .inl ((hmP _).2 ⟨(h.mem _).2 ⟨k, a1, a2, ?_⟩, by omega⟩)
        rw [av_iff]
        refine ⟨a5, a4.imp id fun hh => ?_⟩
        rcases List.mem_append.1 hh with hh | hh
        · exact hh
        · exact absurd (List.mem_singleton.1 hh) e
  · rw [List.nodup_append]
    exact ⟨h.onod, by simp, fun y hy z hz e => by
      have := List.mem_singleton.1 hz
      subst this; subst e; exact c'.1 hy⟩
  · intro y hy
    rcases List.mem_append.1 hy with hy | hy
    · exact h.orng y hy
    · rw [List.mem_singleton.1 hy, mem_rangeI]; omega
  · intro k hk
    rcases List.mem_append.1 hk with hk | hk
    · exact (h.ocl k hk).imp id fun hh => List.mem_append_left _ hh
    · have := List.mem_singleton.1 hk
      have : k = kc := by omega
      subst this
      exact c'.2.imp id fun hh => List.mem_append_left _ hh
theorem SrtI.srt {ms out L : List Int} (h : SrtI ms out L) (h0 : 0 < L.length) : Go.Proofs.Ytnnpookoencpnab.srt ms ms.length (ms.length - out.length) out = Go.Proofs.Ytnnpookoencpnab.srt ms ms.length (ms.length - (out ++ [L.getD 0 0]).length) (out ++ [L.getD 0 0]) ∧ out.length < ms.length := by
  obtain ⟨h1, h2⟩ := h.top h0
  have h3 := (h.step h0).olen
  rw [List.length_append, List.length_singleton] at h3
  refine ⟨?_, by omega⟩
  rw [List.length_append, List.length_singleton]
  obtain ⟨k, hk⟩ : ∃ k, ms.length - out.length = k + 1 := ⟨ms.length - out.length - 1, by omega⟩
  rw [hk, show ms.length - (out.length + 1) = k by omega, Go.Proofs.Ytnnpookoencpnab.srt, h1, if_neg (by omega)]
theorem SrtI.fin {ms out L : List Int} (h : SrtI ms out L) (h0 : L.length = 0) : Go.Proofs.Ytnnpookoencpnab.srt ms ms.length (ms.length - out.length) out = if out.length < ms.length then Option.none else some out := by
  split
  · obtain ⟨k, hk⟩ : ∃ k, ms.length - out.length = k + 1 := ⟨ms.length - out.length - 1, by omega⟩
    rw [hk, Go.Proofs.Ytnnpookoencpnab.srt, h.none h0]; rfl
  · rw [show ms.length - out.length = 0 by omega]; rfl
end Go.Proofs.Ytnnpookoencpnab
