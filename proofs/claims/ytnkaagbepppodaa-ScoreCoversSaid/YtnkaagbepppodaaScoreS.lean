/- Scores: each part is told; the parts cover all. -/
import Derived.Test.YtnkaagbepppodaaScoreR
set_option linter.unusedSimpArgs false
set_option linter.unusedVariables false
set_option maxHeartbeats 4000000
open Go Go.AL
namespace Go.Proofs.Ytnkaagbepppodaa
def st28 (m : Int) (x : Int × Bool) (p : List UInt8 × Int × Int) : (Int × Bool) × Bool := ((x.1 + 1, x.2), decide (x.1 + 1 < m))
def st29 (x : Int × Bool) (p : List UInt8 × Int × Int) : (Int × Bool) × Bool := ((p.2.2, true), true)
theorem feed_28 (l : List Cue) (n m : Int) : ∀ (d k : Nat), k + d = l.length → (k = 0 ∨ (k : Int) < m) → feed3 (st28 m) (partsFrom l n k) ((k : Int), true) = (min (l.length : Int) (max m 1), true)
  | 0, k, h, hk => by
    rw [partsFrom_end l n (by omega), feed3]
    congr 1; omega
  | d + 1, k, h, hk => by
    have ih := feed_28 l n m d (k + 1) (by omega)
    rw [partsFrom_step l n (by omega), feed3]
    simp only [st28]
    split
    · rename_i h2
      rw [decide_eq_true_eq] at h2
      have := ih (.inr (by omega))
      simpa using this
    · rename_i h2
      rw [decide_eq_false_iff_not] at h2
      congr 1; omega
def atI (l : List Cue) (n : Int) (i : Nat) : Int := if i < l.length then min (cat l i).1 n else n
theorem feed_29 (l : List Cue) (n : Int) : ∀ (d k : Nat), k + d = l.length → feed3 st29 (partsFrom l n k) (atI l n k, true) = (n, true)
  | 0, k, h => by
    rw [partsFrom_end l n (by omega), feed3, atI, if_neg (by omega)]
  | d + 1, k, h => by
    have ih := feed_29 l n d (k + 1) (by omega)
    rw [partsFrom_step l n (by omega), feed3]
    simp only [st29]
    rw [← ih]; rfl
theorem parts_law (l : List Cue) (n most : Int) (hl0 : l.length ≤ 9223372036854775807) (hm0 : 0 ≤ most) (hm1 : most ≤ 255) : Does PP 8 [cuesA l, .int .i64 n, .int .u8 most] [] (Is (.bool true) []) := by
  have hfew := fun h => few_spec l h hl0
  have hgood := good_spec l
  have href := ref_spec l
  have hfacts := fun h => few_facts (l := l) h
  have hparts := parts_spec l n
  simp only [partsC] at hparts
  rw [cuesA] at hfew hgood href hparts ⊢
  obtain ⟨L, hL⟩ : ∃ L, L = l.map cueA := ⟨_, rfl⟩
  rw [← hL] at hfew hgood href hparts ⊢
  obtain ⟨fw, hfw⟩ : ∃ fw, fw = fewB l := ⟨_, rfl⟩
  obtain ⟨gd, hgd⟩ : ∃ gd, gd = goodB l := ⟨_, rfl⟩
  rw [← hfw] at hfew hfacts
  rw [← hgd] at hgood
  obtain ⟨m, hm⟩ : ∃ m, m = most := ⟨_, rfl⟩
  obtain ⟨e, he⟩ : ∃ e : Int, e = min (l.length : Int) (max m 1) := ⟨_, rfl⟩
  have hcall : l.length ≤ 130 → Does PP 44 [.clo (.func 28) [] [.ptr 2 0, .ptr 0 0, .ptr 4 0, .ptr 1 0, .ptr 3 0], .pp [.ls (.gl (.rc [.int .i64, .str]) L) .any], .pp [.int .i64 n]] (h28 L n m (0, true)) (Is (.tup []) (h28 L n m (e, true))) := fun hl => by
    have := p44A l n m hl L hL (st28 m) (fun i x => x = ((i : Int), true)) (fun x i hi hx => by
      subst hx
      exact ⟨p28 l n m hl L hL i hi, fun _ => rfl⟩) (0, true) rfl
    rwa [show ((0 : Int), true) = (((0 : Nat) : Int), true) from rfl, feed_28 l n m l.length 0 (by omega) (.inl rfl), ← he] at this
  simp only [h28] at hcall
  refine doesF P_ok Try.f8 (by kernel_rfl) (by kernel_rfl) ?_
  intro i2 c2 u1 cv mx mn ad sbt bn bq ba lnI gtI apI sbI stI rpI lnG gtG apG sbG stG rpG fi fb fs fl fg fc sln sgt sap ssb sc b2s s2b nd call calld callv callvd loop rfun fin hk
  have hLn : lnG L = (l.length : Int) := by rw [hk.lnG_eq, hL, List.length_map]
  have hgn := hk.lnG_nn L
  have hlb : l.length ≤ 130 → lnG L ≤ 130 := fun h => by omega
  have hat : ∀ i : Int, 0 ≤ i → i < lnG L → fi (fc (gtG L i) 0) = (cat l i.toNat).1 ∧ fs (fc (gtG L i) 1) = (cat l i.toNat).2 := fun i h0 h1 => by
    rw [hk.gtG_eq, hk.fi_eq, hk.fs_eq, hk.fc_eq, hL, map_get l _ (by omega)]
    exact ⟨rfl, rfl⟩
  have hcv : cv .i64 most = m := by rw [hk.cv_eq, wrap64 (by omega) (by omega), hm]
  have hend : c2 .eql e (mn (lnG L) (mx m 1)) = true := by
    rw [hk.c2_eql, decide_eq_true_eq, he, hk.mn_eq, hk.mx_eq, hLn]
    split <;> split <;> omega
  cbv
  refine hk.call1 (awakeS_spec _) ?_
  cbv
  split <;> cbv
  · rename_i h1
    exact absurd h1 (by rw [hk.bn_eq]; decide)
  refine hk.call1 (hfew _) ?_
  cbv
  split <;> cbv
  · refine hk.call1 (awakeS_spec _) ?_
    cbv
    exact hk.fin0 rfl rfl (Wk.refl _ _)
  rename_i h1
  rw [hk.bn_eq, Bool.not_eq_false'] at h1
  obtain ⟨hl, hN⟩ := hfacts h1
  have hlb := hlb hl
  refine hk.call1 (href _ hl) ?_
  cbv
  refine hk.call1 (hgood _ hl hN) ?_
  cbv
  split <;> cbv
  · refine hk.call1 (awakeS_spec _) ?_
    cbv
    exact hk.fin0 rfl rfl (Wk.refl _ _)
  rename_i h2
  rw [hk.bn_eq, Bool.not_eq_false'] at h2
  split <;> cbv
  · refine hk.call1 (awakeS_spec _) ?_
    cbv
    exact hk.fin0 rfl rfl (Wk.refl _ _)
  rename_i h3
  refine hk.call1 (hparts _) ?_
  cbv
  rw [hcv]
  refine hk.callI (hcall hl) ?_
  rintro _ _ ⟨rfl, rfl⟩
  cbv
  rw [hend]
  exact hk.fin0 rfl rfl (Wk.refl _ _)
theorem covers_law (l : List Cue) (n : Int) (hl0 : l.length ≤ 9223372036854775807) : Does PP 9 [cuesA l, .int .i64 n] [] (Is (.bool true) []) := by
  have hfew := fun h => few_spec l h hl0
  have hgood := good_spec l
  have href := ref_spec l
  have hfacts := fun h => few_facts (l := l) h
  have hparts := parts_spec l n
  simp only [partsC] at hparts
  rw [cuesA] at hfew hgood href hparts ⊢
  obtain ⟨L, hL⟩ : ∃ L, L = l.map cueA := ⟨_, rfl⟩
  rw [← hL] at hfew hgood href hparts ⊢
  obtain ⟨fw, hfw⟩ : ∃ fw, fw = fewB l := ⟨_, rfl⟩
  obtain ⟨gd, hgd⟩ : ∃ gd, gd = goodB l := ⟨_, rfl⟩
  rw [← hfw] at hfew hfacts
  rw [← hgd] at hgood
  have hcall : l.length ≤ 130 → gd = true → 0 ≤ n → 0 < l.length → (cat l 0).1 = 0 → Does PP 44 [.clo (.func 29) [] [.ptr 1 0, .ptr 0 0], .pp [.ls (.gl (.rc [.int .i64, .str]) L) .any], .pp [.int .i64 n]] (h29 (0, true)) (Is (.tup []) (h29 (n, true))) := fun hl hg hn h0 h1 => by
    have hg : goodB l = true := hgd ▸ hg
    have e0 : (0 : Int) = atI l n 0 := by rw [atI, if_pos h0, h1]; omega
    have := p44B l n hl L hL st29 (fun i x => x = (atI l n i, true)) (fun x i hi hx => by
      subst hx
      have hle : (partAt l n i).2.1 ≤ (partAt l n i).2.2 := by
        simp only [partAt]
        split
        · have := good_step hg (j := i) (by omega); omega
        · omega
      refine ⟨?_, fun _ => rfl⟩
      have := p29 0 (partAt l n i).2.1 (partAt l n i).2.2 (partAt l n i).1 hle
      rw [atI, if_pos hi]
      exact this) (0, true) (by rw [← e0])
    rwa [e0, feed_29 l n l.length 0 (by omega), ← e0] at this
  simp only [h29] at hcall
  refine doesF P_ok Try.f9 (by kernel_rfl) (by kernel_rfl) ?_
  intro i2 c2 u1 cv mx mn ad sbt bn bq ba lnI gtI apI sbI stI rpI lnG gtG apG sbG stG rpG fi fb fs fl fg fc sln sgt sap ssb sc b2s s2b nd call calld callv callvd loop rfun fin hk
  have hLn : lnG L = (l.length : Int) := by rw [hk.lnG_eq, hL, List.length_map]
  have hgn := hk.lnG_nn L
  have hlb : l.length ≤ 130 → lnG L ≤ 130 := fun h => by omega
  have hat : ∀ i : Int, 0 ≤ i → i < lnG L → fi (fc (gtG L i) 0) = (cat l i.toNat).1 ∧ fs (fc (gtG L i) 1) = (cat l i.toNat).2 := fun i h0 h1 => by
    rw [hk.gtG_eq, hk.fi_eq, hk.fs_eq, hk.fc_eq, hL, map_get l _ (by omega)]
    exact ⟨rfl, rfl⟩
  have hnn : c2 .lss n 0 = false → 0 ≤ n := fun h => by rw [hk.c2_lss, decide_eq_false_iff_not] at h; omega
  have hpos : c2 .eql (lnG L) 0 = false → 0 < l.length ∧ 0 < lnG L := fun h => by
    rw [hk.c2_eql, decide_eq_false_iff_not] at h
    exact ⟨by omega, by omega⟩
  have hat0 : 0 < lnG L → c2 .neq (fi (fc (gtG L 0) 0)) 0 = false → (cat l 0).1 = 0 := fun h0 h => by
    rw [hk.c2_neq, decide_eq_false_iff_not, (hat 0 (by omega) h0).1] at h
    simpa using h
  have hend : c2 .eql n n = true := by rw [hk.c2_eql]; simp
  cbv
  refine hk.call1 (awakeS_spec _) ?_
  cbv
  split <;> cbv
  · rename_i h1
    exact absurd h1 (by rw [hk.bn_eq]; decide)
  refine hk.call1 (hfew _) ?_
  cbv
  split <;> cbv
  · refine hk.call1 (awakeS_spec _) ?_
    cbv
    exact hk.fin0 rfl rfl (Wk.refl _ _)
  rename_i h1
  rw [hk.bn_eq, Bool.not_eq_false'] at h1
  obtain ⟨hl, hN⟩ := hfacts h1
  have hlb := hlb hl
  refine hk.call1 (href _ hl) ?_
  cbv
  refine hk.call1 (hgood _ hl hN) ?_
  cbv
  split <;> cbv
  · refine hk.call1 (awakeS_spec _) ?_
    cbv
    exact hk.fin0 rfl rfl (Wk.refl _ _)
  rename_i h2
  rw [hk.bn_eq, Bool.not_eq_false'] at h2
  split <;> cbv
  · refine hk.call1 (awakeS_spec _) ?_
    cbv
    exact hk.fin0 rfl rfl (Wk.refl _ _)
  rename_i h3
  split <;> cbv
  · refine hk.call1 (awakeS_spec _) ?_
    cbv
    exact hk.fin0 rfl rfl (Wk.refl _ _)
  rename_i h4
  obtain ⟨h5, h6⟩ := hpos h4
  refine ⟨hk.ndI ⟨by decide, h6⟩, ?_⟩
  split <;> cbv
  · refine hk.call1 (awakeS_spec _) ?_
    cbv
    exact hk.fin0 rfl rfl (Wk.refl _ _)
  rename_i h7
  refine hk.call1 (hparts _) ?_
  cbv
  refine hk.callI (hcall hl h2 (hnn h3) h5 (hat0 h6 h7)) ?_
  rintro _ _ ⟨rfl, rfl⟩
  cbv
  rw [hend]
  exact hk.fin0 rfl rfl (Wk.refl _ _)
end Go.Proofs.Ytnkaagbepppodaa
