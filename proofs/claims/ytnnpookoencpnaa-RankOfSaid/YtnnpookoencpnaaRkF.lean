/-
  Contracts of functions of the program, proved over the abstract machine of the Al texts.
-/
import Derived.Test.YtnnpookoencpnaaRkE
set_option maxHeartbeats 4000000
set_option maxRecDepth 20000
set_option linter.unusedSimpArgs false
set_option linter.unusedVariables false
open Go Go.AL
namespace Go.Proofs.Ytnnpookoencpnaa
/-- The places, of the first k. -/
def plc (l : List Int) : Nat → List Int
  | 0 => List.replicate l.length 0
  | k + 1 => (plc l k).set (l.getD k 0).toNat k
theorem plc_len (l : List Int) : ∀ k, (plc l k).length = l.length
  | 0 => by simp [plc]
  | k + 1 => by simp [plc, plc_len l k]
def places (l : List Int) : List Int := plc l l.length
theorem places_spec (l : List Int) (h : Heap) (h8 : l.length ≤ 8) (hB : ∀ i, i < l.length → 0 ≤ l.getD i 0 ∧ l.getD i 0 < l.length) : Does PP 26 [LI l] h (Is (LI (places l)) h) := by
  obtain ⟨r, hr0⟩ : ∃ r, r = places l := ⟨_, rfl⟩
  rw [← hr0]
  refine pure0 ?_ rfl rfl h
  refine doesF P_ok Try.f26 (by kernel_rfl) (by kernel_rfl) ?_
  intro i2 c2 u1 cv mx mn ad sbt bn bq ba lnI gtI apI sbI stI rpI lnG gtG apG sbG stG rpG fi fb fs fl fg fc sln sgt sap ssb sc b2s s2b nd call calld callv callvd loop rfun fin hk
  have hlen := hk.lnI_eq l
  have hnn := hk.lnI_nn l
  have h8' : lnI l ≤ 8 := hk.lnI_le l 8 (by omega)
  have hB : ∀ i : Int, 0 ≤ i → i < lnI l → 0 ≤ gtI l i ∧ gtI l i < lnI l := fun i h0 h1 => by
    rw [hk.gtI_eq, hlen]
    exact hB _ (by omega)
  have hst : ∀ i : Int, 0 ≤ i → stI (plc l i.toNat) (gtI l i) i = plc l (i + 1).toNat := fun i h0 => by
    rw [hk.stI_eq, hk.gtI_eq, show (i + 1).toNat = i.toNat + 1 by omega]
    simp only [plc]
    rw [show ((i.toNat : Nat) : Int) = i by omega]
  have hrp : rpI (lnI l) 0 = plc l 0 := by rw [hk.rpI_eq, hk.lnI_toNat]; rfl
  have hend : plc l (lnI l).toNat = r := by rw [hk.lnI_toNat, hr0]; rfl
  have hsub : rSub r 0 (lnI l) = r := by
    unfold rSub
    simp only [Int.toNat_zero, List.drop_zero]
    rw [hr0, show (lnI l - 0).toNat = (places l).length by rw [places, plc_len]; omega, List.take_length]
  have hnd : nd (.room (lnI l) 8) := hk.ndI ⟨hnn, by simp; omega, by omega⟩
  obtain ⟨F, hF⟩ : ∃ F : Nat → List Int, F = plc l := ⟨_, rfl⟩
  rw [← hF] at hst hrp hend
  clear hlen
  have hst : ∀ (k : Nat) (i : Int), 0 ≤ i → i.toNat = k → stI (F k) (gtI l i) i = F (k + 1) := fun k i h0 h1 => by
    have := hst i h0
    rw [h1, show (i + 1).toNat = k + 1 by omega] at this
    exact this
  have hend : ∀ k, (lnI l).toNat = k → F k = r := fun k h => by rw [← h]; exact hend
  have hadz : ∀ x, ad 0 x = x := fun x => by rw [hk.ad_eq]; omega
  have hix : ∀ i, 0 ≤ i → i < lnI l → nd (.idx i (sbt (lnI l) 0)) := fun i h0 h1 => hk.idx h0 (by rw [hk.sb_eq]; omega)
  cbv
  refine ⟨hnd, ?_⟩
  refine hk.loopI (loop_rule (α := Nat × Int) (fun x => [(0, .ls (.il .i64 l) .any), (3, .sl 0 0 0 (lnI l)), (9, .ls (.il .i64 l) .any), (10, .int .i64 (lnI l)), (11, .int .i64 x.2)]) (fun x => [.rw 0 (.il .i64 (F x.1))])
    (fun x => 0 ≤ x.2 ∧ x.2 ≤ lnI l ∧ x.2.toNat = x.1) (fun x => (lnI l - x.2).toNat) (0, 0) ⟨by omega, by omega, rfl⟩ ?_ ?_)
  · rw [hrp]
    exact Gh.tm (by repeat (first | exact Holds.nil _ _ | refine Holds.cons (Wk.refl _ _) ?_))
  intro ⟨k, i⟩ ⟨hi, hi2, hik⟩ Q' hb hx hr
  simp only at hi hi2 hik
  cbv
  split
  · rename_i hlt
    rw [hk.c2_lss, decide_eq_true_eq] at hlt
    obtain ⟨c0, c1⟩ := hB i hi hlt
    refine ⟨hk.idx hi hlt, ?_⟩
    have hs := hst k i hi hik
    obtain ⟨c, hc⟩ : ∃ c, c = gtI l i := ⟨_, rfl⟩
    rw [← hc] at c0 c1 hs
    have hixc := hix c c0 c1
    cbv
    rw [← hc, hadz, hs]
    refine ⟨hixc, hb (k + 1, i + 1) _ ⟨by simp only; omega, by simp only; omega, by simp only; omega⟩ (by simp only; omega) ?_⟩
    refine Gh.tm ?_
    repeat' (first | exact Holds.nil _ _ | refine Holds.cons (Wk.refl _ _) ?_ | refine Holds.cons (Wk.of_eq ?_) ?_)
    all_goals first
      | (rw [← hk.add64 i 1 (by omega) (by omega)]; rfl)
      | rfl
      | skip
  · rename_i hge
    rw [hk.c2_lss, decide_eq_false_iff_not] at hge
    have hi4 : i = lnI l := by omega
    subst hi4
    have he := hend k hik
    refine hx _ _ ?_
    cbv
    rw [he]
    refine hk.finI (fin_rz 0 0 (.il .i64 r) rfl rfl ?_)
    have e : rz 0 0 (.il .i64 r) (.sl 0 0 0 (lnI l)) = LI r := by
      rw [rz_sl]
      show AVal.ls (.il .i64 (rSub r 0 (lnI l))) .any = _
      rw [hsub]
    show rFin _ _ (rz 0 0 (.il .i64 r) (.sl 0 0 0 (lnI l))) _
    rw [e]
    exact fin_low (.refl _ _) rfl rfl ⟨rfl, rfl⟩
end Go.Proofs.Ytnnpookoencpnaa
