/- The document's bits. -/
import Derived.Test.YtfjdmgnhklpiiaaGreatTryTab
import Derived.Test.YtfjdmgnhklpiiaaGreatAl4
import Derived.Test.YtfjdmgnhklpiiaaGreatBaseX
import Derived.Test.YtfjdmgnhklpiiaaGreatPpX
set_option maxHeartbeats 4000000
set_option maxRecDepth 20000
set_option linter.unusedSimpArgs false
set_option linter.unusedVariables false
open Go Go.AL
namespace Go.Proofs.YtfjdmgnhklpiiaaGreat
def strB (bits : List Bool) : List UInt8 := bits.map fun b => if b then 49 else 48
theorem strB_len (bits : List Bool) : (strB bits).length = bits.length := by simp [strB]
theorem strB_append (a b : List Bool) : strB (a ++ b) = strB a ++ strB b := by simp [strB]
theorem strB_get (bits : List Bool) (i : Nat) (h : i < bits.length) : (strB bits).getD i 0 = if bits.getD i false then 49 else 48 := by
  simp [strB, List.getD, h]
theorem bitsOf_cons (v n : Nat) : bitsOf v (n + 1) = v.testBit n :: bitsOf v n := by
  induction n generalizing v with
  | zero => simp [bitsOf]; rw [Bool.eq_iff_iff]; simp
  | succ n ih =>
    rw [bitsOf, ih, bitsOf, Nat.testBit_div_two]
    rfl
theorem refPut_spec (v n : Int) (h : Heap) (hv : 0 ≤ v) (hv2 : v < 9223372036854775808) (hn : n ≤ 1000000) : Does PP 42 [I v, I n] h (Is (.str (strB (bitsOf v.toNat n.toNat))) h) := by
  obtain ⟨S, hS⟩ : ∃ S : Int → List UInt8, ∀ i, S i = strB (bitsOf v.toNat i.toNat) := ⟨_, fun _ => rfl⟩
  obtain ⟨V, hV⟩ : ∃ V : Int → Nat, ∀ i, V i = v.toNat / 2 ^ i.toNat := ⟨_, fun _ => rfl⟩
  obtain ⟨Vi, hVi⟩ : ∃ Vi : Int → Int, ∀ i, Vi i = (V i : Nat) := ⟨_, fun _ => rfl⟩
  rw [← hS]
  obtain ⟨r, hr0⟩ : ∃ r, r = S n := ⟨_, rfl⟩
  rw [← hr0]
  refine pure0 ?_ rfl rfl h
  refine wlk Tryz.f42 ?_
  unhygienic intros
  have hV0 : Vi 0 = v := by rw [hVi, hV]; simp; omega
  have hS0 : S 0 = [] := by rw [hS]; rfl
  have hSe : n ≤ 0 → S n = [] := fun h => by rw [hS, show n.toNat = 0 by omega]; rfl
  have hVn : ∀ i : Int, 0 ≤ i → V (i + 1) = V i / 2 := fun i h => by
    rw [hV, hV, show (i + 1).toNat = i.toNat + 1 by omega, Nat.pow_succ, ← Nat.div_div_eq_div_mul]
  have hstep : ∀ i : Int, 0 ≤ i → i < n → sap (b2s [cv .u8 (i2 .add .i64 48 (i2 .rem .i64 (Vi i) 2))]) (S i) = S (i + 1) := fun i h0 h1 => by
    have hvi := hVi i
    rw [hk.i2_rem, Int.tmod_eq_emod_of_nonneg (by omega), hk.add64 _ _ (by omega) (by omega), hk.cv_eq, wrapu8 (by omega) (by omega), hk.b2s_eq, hk.sap_eq, hS, hS, show (i + 1).toNat = i.toNat + 1 by omega, bitsOf_cons]
    rw [hvi, Nat.testBit_eq_decide_div_mod_eq, ← hV]
    rcases Nat.mod_two_eq_zero_or_one (V i) with h | h
    · rw [show (((V i : Nat) : Int) % 2) = 0 by omega, h]; rfl
    · rw [show (((V i : Nat) : Int) % 2) = 1 by omega, h]; rfl
  have hle : ∀ i, V i ≤ v.toNat := fun i => by rw [hV]; exact Nat.div_le_self _ _
  have hquo : ∀ i : Int, 0 ≤ i → i2 .quo .i64 (Vi i) 2 = Vi (i + 1) := fun i h0 => by
    have h2 := hVn i h0
    have h3 := hle i
    have h4 := hVi i
    have h5 := hVi (i + 1)
    rw [hk.i2_quo, Int.tdiv_eq_ediv_of_nonneg (by omega), wrap64 (by omega) (by omega)]
    omega
  have hln : ∀ i : Int, 0 ≤ i → i < n → sln (b2s [cv .u8 (i2 .add .i64 48 (i2 .rem .i64 (Vi i) 2))]) = 1 ∧ sln (S i) = i := fun i h0 h1 => by
    rw [hk.sln_eq, hk.sln_eq, hk.b2s_eq, hS, strB_len, bitsOf_len]
    exact ⟨rfl, by omega⟩
  clear hS hV hVi hVn hle hv
  (conv => cbv)
  refine hk.loopI (loop_rule (α := Int) (fun i => [(0, .int .i64 (Vi i)), (1, .int .i64 n), (4, .str []), (5, .str (S i)), (6, .int .i64 i)]) (fun _ => [])
    (fun i => 0 ≤ i ∧ (i ≤ n ∨ i = 0)) (fun i => (n - i).toNat) 0 ⟨by omega, .inr rfl⟩ ?_ ?_)
  · rw [hV0, hS0]
    exact Gh.tm (by repeat (first | exact Holds.nil _ _ | refine Holds.cons (Wk.refl _ _) ?_))
  intro i ⟨hi, hi2⟩ Q' hb hx hr
  (conv => cbv)
  refine hk.brLss (fun h2 => ?_) (fun h2 => ?_)
  · have hstep := hstep i hi h2
    have hquo := hquo i hi
    obtain ⟨l1, l2⟩ := hln i hi h2
    (conv => cbv)
    refine hk.nzI (by decide) ?_
    (conv => cbv)
    repeat' (first | assumption | ((first | refine stp ?_ | refine stpB (fun _ => ?_) (fun _ => ?_)) <;> (conv => cbv)) | exact stpF | fail)
    rw [hstep, hquo]
    refine hb (i + 1) _ ⟨by omega, by omega⟩ (by omega) ?_
    refine Gh.low 0 (Nat.le_of_ble_eq_true rfl) ?_ rfl rfl rfl
    repeat' (first | exact Holds.nil _ _ | refine Holds.cons (Wk.refl _ _) ?_ | refine Holds.cons (Wk.of_eq ?_) ?_)
    all_goals first
      | (rw [← hk.add64 i 1 (by omega) (by omega)]; rfl)
      | rfl
      | skip
  · refine hx _ _ ?_
    (conv => cbv)
    have : S i = r := by
      rcases hi2 with h | h
      · rw [hr0, show i = n by omega]
      · rw [h, hS0, hr0, hSe (by omega)]
    rw [this]
    exact hk.fin1 rfl
def padTo (bits : List Bool) : List Bool := bits ++ List.replicate ((8 - bits.length % 8) % 8) false
theorem refAlign_spec (bits : List Bool) (h : Heap) (hl : bits.length < 1099511627776) : Does PP 75 [.str (strB bits)] h (Is (.str (strB (padTo bits))) h) := by
  obtain ⟨S, hS⟩ : ∃ S : Int → List UInt8, ∀ i, S i = strB (bits ++ List.replicate i.toNat false) := ⟨_, fun _ => rfl⟩
  obtain ⟨n, hn⟩ : ∃ n : Int, n = (bits.length : Nat) := ⟨_, rfl⟩
  have hS0 : strB bits = S 0 := by rw [hS]; simp
  obtain ⟨m, hm⟩ : ∃ m : Int, m = ((8 - bits.length % 8) % 8 : Nat) := ⟨_, rfl⟩
  have hSm : strB (padTo bits) = S m := by rw [hS, hm]; rfl
  rw [hS0, hSm]
  refine pure0 ?_ rfl rfl h
  refine wlk Tryz.f75 ?_
  unhygienic intros
  have hln : ∀ i : Int, 0 ≤ i → sln (S i) = n + i := fun i h => by rw [hk.sln_eq, hS, strB_len, List.length_append, List.length_replicate]; omega
  have hap : ∀ i : Int, 0 ≤ i → sap (S i) [48] = S (i + 1) := fun i h => by
    rw [hk.sap_eq, hS, hS, show (i + 1).toNat = i.toNat + 1 by omega, List.replicate_succ', ← List.append_assoc, strB_append _ [false]]
    rfl
  have hrem : ∀ i : Int, 0 ≤ i → i2 .rem .i64 (sln (S i)) 8 = (n + i) % 8 := fun i h => by rw [hln i h, hk.i2_rem, Int.tmod_eq_emod_of_nonneg (by omega)]
  have hl1 : sln [48] = 1 := hk.sln_eq _
  have hn8 : n < 1099511627776 := by omega
  have hmr : 0 ≤ m ∧ m < 8 ∧ (n + m) % 8 = 0 ∧ ∀ i : Int, 0 ≤ i → i < m → ¬ (n + i) % 8 = 0 := ⟨by omega, by omega, by omega, fun i h0 h1 => by omega⟩
  have hn0 : 0 ≤ n := by omega
  clear hS hn hm hl
  (conv => cbv)
  refine hk.loopI (loop_rule (α := Int) (fun i => [(0, .str (S i)), (2, .str [])]) (fun _ => [])
    (fun i => 0 ≤ i ∧ i ≤ m) (fun i => (m - i).toNat) 0 ⟨by omega, by omega⟩ ?_ ?_)
  · exact Gh.tm (by repeat (first | exact Holds.nil _ _ | refine Holds.cons (Wk.refl _ _) ?_))
  intro i ⟨hi, hi2⟩ Q' hb hx hr
  have hln := hln i hi
  have hrem := hrem i hi
  have hap := hap i hi
  obtain ⟨q, hq⟩ : ∃ q, q = (n + i) % 8 := ⟨_, rfl⟩
  rw [← hq] at hrem
  (conv => cbv)
  refine hk.nzI (by decide) ?_
  (conv => cbv)
  rw [hrem]
  refine hk.brNeq (fun h2 => ?_) (fun h2 => ?_)
  · have him : i < m := by
      rcases Int.lt_or_eq_of_le hi2 with h | h
      · exact h
      · rw [h] at hq; omega
    (conv => cbv)
    repeat' (first | assumption | ((first | refine stp ?_ | refine stpB (fun _ => ?_) (fun _ => ?_)) <;> (conv => cbv)) | exact stpF | fail)
    rw [hap]
    refine hb (i + 1) _ ⟨by omega, by omega⟩ (by omega) ?_
    refine Gh.tm ?_
    repeat' (first | exact Holds.nil _ _ | refine Holds.cons (Wk.refl _ _) ?_ | refine Holds.cons (Wk.of_eq ?_) ?_)
    all_goals first
      | (rw [← hk.add64 i 1 (by omega) (by omega)]; rfl)
      | rfl
      | skip
  · have : i = m := by
      rcases Int.lt_or_eq_of_le hi2 with h | h
      · exact absurd (by omega) (hmr.2.2.2 i hi h)
      · exact h
    subst this
    refine hx _ _ ?_
    (conv => cbv)
    exact hk.fin1 rfl
end Go.Proofs.YtfjdmgnhklpiiaaGreat
/- The document's bits, 2. -/
set_option maxHeartbeats 4000000
set_option maxRecDepth 20000
set_option linter.unusedSimpArgs false
set_option linter.unusedVariables false
open Go Go.AL
namespace Go.Proofs.YtfjdmgnhklpiiaaGreat
theorem num_lt62 (bits : List Bool) (h : bits.length ≤ 62) : num bits < 4611686018427387904 := by
  have := num_lt bits
  exact Nat.lt_of_lt_of_le this (Nat.pow_le_pow_right (n := 2) (by decide) h)
theorem refNumber_spec (bits : List Bool) (h : Heap) (hl : bits.length ≤ 62) : Does PP 76 [.str (strB bits)] h (Is (I (num bits : Nat)) h) := by
  obtain ⟨n, hn⟩ : ∃ n : Int, n = (bits.length : Nat) := ⟨_, rfl⟩
  obtain ⟨N, hN⟩ : ∃ N : Int → Int, ∀ i, N i = (num (bits.take i.toNat) : Nat) := ⟨_, fun _ => rfl⟩
  have hNe : ((num bits : Nat) : Int) = N n := by rw [hN, hn]; simp
  rw [hNe]
  have hsg : ∀ i : Int, 0 ≤ i → i < n → (strB bits).getD i.toNat 0 = if bits.getD i.toNat false then 49 else 48 := fun i h0 h1 => strB_get bits i.toNat (by omega)
  obtain ⟨S, hS⟩ : ∃ S, S = strB bits := ⟨_, rfl⟩
  have hSl : S.length = bits.length := by rw [hS, strB_len]
  rw [← hS] at hsg ⊢
  refine pure0 ?_ rfl rfl h
  refine wlk Tryz.f76 ?_
  unhygienic intros
  have hln : sln S = n := by rw [hk.sln_eq]; omega
  have hN0 : N 0 = 0 := by rw [hN]; simp [num]
  have hNr : ∀ i : Int, 0 ≤ N i ∧ N i < 4611686018427387904 := fun i => by
    have := num_lt62 (bits.take i.toNat) (by rw [List.length_take]; omega)
    rw [hN]; omega
  have hstep : ∀ i : Int, 0 ≤ i → i < n → (sgt S i = 49 → N (i + 1) = 2 * N i + 1) ∧ (¬ sgt S i = 49 → N (i + 1) = 2 * N i) := fun i h0 h1 => by
    have h2 := num_cons_take bits i.toNat (by omega)
    have h3 := hN i
    have h4 := hN (i + 1)
    rw [show (i + 1).toNat = i.toNat + 1 by omega, h2] at h4
    rw [hk.sgt_eq, hsg i h0 h1]
    clear h2
    revert h4
    generalize bits.getD i.toNat false = b
    intro h4
    cases b
    · exact ⟨fun h => absurd h (by decide), fun _ => by rw [h4, h3]; simp⟩
    · exact ⟨fun _ => by rw [h4, h3]; simp, fun h => absurd rfl h⟩
  have hn0 : 0 ≤ n ∧ n ≤ 62 := by omega
  clear hN hNe hsg hS hSl hl hn
  (conv => cbv)
  refine hk.loopI (loop_rule (α := Int) (fun i => [(0, .str S), (2, .int .i64 0), (3, .int .i64 (N i)), (4, .int .i64 i)]) (fun _ => [])
    (fun i => 0 ≤ i ∧ i ≤ n) (fun i => (n - i).toNat) 0 ⟨by omega, by omega⟩ ?_ ?_)
  · rw [hN0]
    exact Gh.tm (by repeat (first | exact Holds.nil _ _ | refine Holds.cons (Wk.refl _ _) ?_))
  intro i ⟨hi, hi2⟩ Q' hb hx hr
  (conv => cbv)
  try rw [hln]
  refine hk.brLss (fun h2 => ?_) (fun h2 => ?_)
  · obtain ⟨h3, h4⟩ := hstep i hi h2
    have h5 := hNr i
    have h6 := hNr (i + 1)
    obtain ⟨d, hd⟩ : ∃ d, d = N i * 2 := ⟨_, rfl⟩
    have hmul : i2 .mul .i64 (N i) 2 = d := by rw [hd]; exact hk.mul64 _ _ (by omega) (by omega)
    have hadd : sgt S i = 49 → i2 .add .i64 d 1 = N (i + 1) := fun h => by rw [h3 h, hd, hk.add64 _ _ (by have := h3 h; omega) (by have := h3 h; omega)]; omega
    have hd2 : ¬ sgt S i = 49 → d = N (i + 1) := fun h => by rw [h4 h, hd]; omega
    (conv => cbv)
    try rw [hln]
    refine hk.idxI hi h2 ?_
    (conv => cbv)
    rw [hmul]
    refine hk.brEql (fun h7 => ?_) (fun h7 => ?_)
    · have hadd := hadd h7
      (conv => cbv)
      rw [hadd]
      refine hb (i + 1) _ ⟨by omega, by omega⟩ (by omega) ?_
      refine Gh.tm ?_
      repeat' (first | exact Holds.nil _ _ | refine Holds.cons (Wk.refl _ _) ?_ | refine Holds.cons (Wk.of_eq ?_) ?_)
      all_goals first
        | (rw [← hk.add64 i 1 (by omega) (by omega)]; rfl)
        | rfl
        | skip
    · have hd2 := hd2 h7
      rw [hd2]
      (conv => cbv)
      refine hb (i + 1) _ ⟨by omega, by omega⟩ (by omega) ?_
      refine Gh.tm ?_
      repeat' (first | exact Holds.nil _ _ | refine Holds.cons (Wk.refl _ _) ?_ | refine Holds.cons (Wk.of_eq ?_) ?_)
      all_goals first
        | (rw [← hk.add64 i 1 (by omega) (by omega)]; rfl)
        | rfl
        | skip
  · have : i = n := by omega
    subst this
    refine hx _ _ ?_
    (conv => cbv)
    exact hk.fin1 rfl
theorem padTo_len (bits : List Bool) : (padTo bits).length = 8 * nby bits.length := by
  rw [padTo, List.length_append, List.length_replicate, nby]; omega
theorem padTo_get (bits : List Bool) (k : Nat) : (padTo bits).getD k false = bits.getD k false := by
  unfold padTo
  rw [List.getD_eq_getElem?_getD, List.getD_eq_getElem?_getD, List.getElem?_append]
  split
  · rfl
  · rw [List.getElem?_replicate, List.getElem?_eq_none (by omega)]
    split <;> rfl
theorem num8 (a b c d e f g h : Bool) : num [a, b, c, d, e, f, g, h] = 128 * a.toNat + 64 * b.toNat + 32 * c.toNat + 16 * d.toNat + 8 * e.toNat + 4 * f.toNat + 2 * g.toNat + h.toNat := by
  simp only [num, List.foldl]; omega
theorem take8 (l : List Bool) (k : Nat) (h : k + 8 ≤ l.length) : (l.drop k).take 8 = [l.getD k false, l.getD (k + 1) false, l.getD (k + 2) false, l.getD (k + 3) false, l.getD (k + 4) false, l.getD (k + 5) false, l.getD (k + 6) false, l.getD (k + 7) false] := by
  have e : ∀ j, j < l.length → l.drop j = l.getD j false :: l.drop (j + 1) := fun j hj => by rw [List.drop_eq_getElem_cons hj]; simp [List.getD, hj]
  rw [e k (by omega), e (k + 1) (by omega), e (k + 1 + 1) (by omega), e (k + 1 + 1 + 1) (by omega), e (k + 1 + 1 + 1 + 1) (by omega), e (k + 1 + 1 + 1 + 1 + 1) (by omega), e (k + 1 + 1 + 1 + 1 + 1 + 1) (by omega), e (k + 1 + 1 + 1 + 1 + 1 + 1 + 1) (by omega)]
  rfl
theorem byte_pad (bits : List Bool) (i : Nat) (h : i < nby bits.length) : num (((padTo bits).drop (8 * i)).take 8) = byteAt bits i := by
  rw [take8 _ _ (by rw [padTo_len]; omega), num8]
  simp only [padTo_get]
  rfl
theorem strB_drop (bits : List Bool) (k : Nat) : (strB bits).drop k = strB (bits.drop k) := by simp [strB]
theorem strB_take (bits : List Bool) (k : Nat) : (strB bits).take k = strB (bits.take k) := by simp [strB]
theorem refBytes_spec (bits : List Bool) (h : Heap) (hl : bits.length < 1099511627776) : Does PP 27 [.str (strB bits)] h (Is (L8 (pack bits)) h) := by
  have hal := refAlign_spec bits [] hl
  obtain ⟨B, hB⟩ : ∃ B : Int, B = (nby bits.length : Nat) := ⟨_, rfl⟩
  obtain ⟨S, hS⟩ : ∃ S, S = strB (padTo bits) := ⟨_, rfl⟩
  have hSl : S.length = 8 * B.toNat := by rw [hS, strB_len, padTo_len, hB]; simp
  rw [← hS] at hal
  obtain ⟨S0, hS0⟩ : ∃ S, S = strB bits := ⟨_, rfl⟩
  rw [← hS0] at hal ⊢
  have hpk : ∀ k : Int, 0 ≤ k → k < B → (pack bits).take (k + 1).toNat = (pack bits).take k.toNat ++ [(byteAt bits k.toNat : Int)] := fun k h0 h1 => by
    rw [show (k + 1).toNat = k.toNat + 1 by omega, List.take_add_one, List.getElem?_eq_getElem (by rw [pack_len]; omega)]
    have := pack_get bits k.toNat (by omega)
    rw [List.getD_eq_getElem?_getD, List.getElem?_eq_getElem (by rw [pack_len]; omega)] at this
    rw [← this]; rfl
  have hsub : ∀ k : Int, 0 ≤ k → k < B → ∀ h, Does PP 76 [.str ((S.drop (8 * k).toNat).take 8)] h (Is (I (byteAt bits k.toNat : Nat)) h) := fun k h0 h1 h => by
    have := refNumber_spec (((padTo bits).drop (8 * k.toNat)).take 8) h (by rw [List.length_take]; omega)
    rwa [byte_pad _ _ (by omega), ← strB_take, ← strB_drop, ← hS, show 8 * k.toNat = (8 * k).toNat by omega] at this
  obtain ⟨P, hP⟩ : ∃ P : Int → List Int, ∀ k, P k = (pack bits).take k.toNat := ⟨_, fun _ => rfl⟩
  obtain ⟨bt, hbt⟩ : ∃ bt : Int → Int, ∀ k, bt k = (byteAt bits k.toNat : Nat) := ⟨_, fun _ => rfl⟩
  have hPl : ∀ k : Int, 0 ≤ k → k ≤ B → (P k).length = k.toNat := fun k h0 h1 => by rw [hP, List.length_take, pack_len]; omega
  have hbr : ∀ k, 0 ≤ bt k ∧ bt k < 256 := fun k => by rw [hbt]; have := byteAt_lt bits k.toNat; omega
  simp only [← hP, ← hbt] at hpk hsub
  have hPB : pack bits = P B := by rw [hP, hB]; rw [List.take_of_length_le]; rw [pack_len]; simp
  rw [hPB]
  have hP0 : P 0 = [] := by rw [hP]; rfl
  have hB0 : 0 ≤ B ∧ B < 1099511627776 := by rw [hB, nby]; omega
  clear hS hP hbt hPB hB hl hS0
  refine pure0 ?_ rfl rfl h
  refine wlk Tryz.f27 ?_
  unhygienic intros
  have hln : sln S = 8 * B := by rw [hk.sln_eq]; omega
  have hap : ∀ k : Int, 0 ≤ k → k < B → apI (P k) [cv .u8 (bt k)] = P (k + 1) := fun k h0 h1 => by rw [hk.apI_eq, hpk k h0 h1, hk.cv_eq, wrapu8 (hbr k).1 (hbr k).2]
  have hss : ∀ i k j : Int, 0 ≤ k → k < B → i = 8 * k → j = i + 8 → ssb S i j = (S.drop (8 * k).toNat).take 8 := fun i k j h0 h1 h2 h3 => by rw [hk.ssb_eq, h2, show (j - 8 * k).toNat = 8 by omega]
  have hl1 : ∀ x, lnI [x] = 1 := fun x => hk.lnI_eq _
  have hlP : ∀ k : Int, 0 ≤ k → k ≤ B → lnI (P k) = k := fun k h0 h1 => by rw [hk.lnI_eq, hPl k h0 h1]; omega
  obtain ⟨Sk, hSk⟩ : ∃ Sk : Int → List UInt8, ∀ k, Sk k = (S.drop (8 * k).toNat).take 8 := ⟨_, fun _ => rfl⟩
  simp only [← hSk] at hss hsub
  obtain ⟨B8, hB8⟩ : ∃ b, b = 8 * B := ⟨_, rfl⟩
  rw [← hB8] at hln
  clear hSk hSl
  (conv => cbv)
  refine hk.callA hal ?_
  (conv => cbv)
  refine hk.loopI (loop_rule (α := Int × Int) (fun x => [(0, .str S), (2, .ls .nl .nil), (3, .ls (.il .u8 (P x.2)) (.tok 0 0)), (4, .int .i64 x.1)]) (fun _ => [.tok 0])
    (fun x => 0 ≤ x.2 ∧ x.2 ≤ B ∧ x.1 = 8 * x.2) (fun x => (B - x.2).toNat) (0, 0) ⟨by omega, by simp only; omega, by omega⟩ ?_ ?_)
  · simp only [hP0]
    refine Gh.trans (Gh.thaw 3 (.il .u8 []) rfl trivial rfl) (Gh.tm ?_)
    repeat' (first | exact Holds.nil _ _ | refine Holds.cons (Wk.refl _ _) ?_)
  intro ⟨i, k⟩ ⟨hi, hi2, hik⟩ Q' hb hx hr
  simp only at hi hi2 hik
  obtain ⟨j, hj⟩ : ∃ j, j = i + 8 := ⟨_, rfl⟩
  have hadd : i2 .add .i64 i 8 = j := by rw [hj]; exact hk.add64 _ _ (by omega) (by omega)
  (conv => cbv)
  try rw [hln]
  refine hk.brLss (fun h2 => ?_) (fun h2 => ?_)
  · have hkB : k < B := by omega
    have hap := hap k hi hkB
    have hss := hss i k j hi hkB hik hj
    have hsub := hsub k hi hkB
    have hlP := hlP k hi hi2
    (conv => cbv)
    rw [hadd, hln]
    refine hk.needI (by simp only [rNd]; omega) ?_
    (conv => cbv)
    rw [hss]
    refine hk.callA (hsub _) ?_
    (conv => cbv)
    rw [hlP, hl1]
    refine hk.needI (by first | (simp only [rNd, hk.ad_eq, hk.sb_eq]; omega) | (simp [rNd, hk.ad_eq, hk.sb_eq]; omega)) ?_
    (conv => cbv)
    rw [hap, hadd]
    refine hb (j, k + 1) _ ⟨by simp only; omega, by simp only; omega, by simp only; omega⟩ (by simp only; omega) ?_
    refine Gh.retok 0 1 rfl (Nat.le_of_ble_eq_true rfl) ?_ rfl rfl
    repeat' (first | exact HoldsT.nil _ _ _ _ | refine HoldsT.tok rfl ?_ | refine HoldsT.cons (Wk.refl _ _) rfl ?_ | refine HoldsT.cons (Wk.of_eq ?_) rfl ?_)
    all_goals first
      | rfl
      | skip
  · have : k = B := by omega
    subst this
    refine hx _ _ ?_
    (conv => cbv)
    exact hk.fin0 rfl rfl (Wk.any _ _ _)
theorem tkN_nn (rem : List Bool) (f n : Int) : 0 ≤ tkN rem f n := by
  unfold tkN
  split
  · rename_i h; exact (tkF_ok h).2.1
  · exact Int.le_refl _
theorem tkN_le (rem : List Bool) (f n : Int) : (tkN rem f n).toNat ≤ rem.length := by
  unfold tkN
  split
  · rename_i h; exact (tkF_ok h).2.2.2
  · simp
theorem tkV_range (rem : List Bool) (f n : Int) : 0 ≤ tkV rem f n ∧ tkV rem f n < 9223372036854775808 := by
  unfold tkV
  split
  · rename_i h
    obtain ⟨_, h1, h2, h3⟩ := tkF_ok h
    have := num_lt62 (rem.take n.toNat) (by rw [List.length_take]; omega)
    omega
  · omega
end Go.Proofs.YtfjdmgnhklpiiaaGreat
/- Readers: the document's and the program's. -/
set_option maxHeartbeats 4000000
set_option maxRecDepth 20000
set_option linter.unusedSimpArgs false
set_option linter.unusedVariables false
open Go Go.AL
namespace Go.Proofs.YtfjdmgnhklpiiaaGreat
theorem open_spec (bs : List Int) : Does PP 7 [L8 bs] [] (Is (.ptr 0 0) (rd bs 0 0)) := by
  unfold rd
  refine wlk Tryz.f7 ?_
  unhygienic intros
  (conv => cbv)
  exact hk.fin1 rfl
end Go.Proofs.YtfjdmgnhklpiiaaGreat
/- How a Reader ended. -/
set_option maxHeartbeats 4000000
set_option maxRecDepth 20000
set_option linter.unusedSimpArgs false
set_option linter.unusedVariables false
open Go Go.AL
namespace Go.Proofs.YtfjdmgnhklpiiaaGreat
theorem align_k (bs : List Int) (at_ : Int) (h0 : 0 ≤ at_) (h1 : at_.toNat ≤ 8 * bs.length) : ((8 - at_ % 8) % 8 : Int) = ((remOf bs at_).length % 8 : Nat) := by
  rw [remOf_len]; omega
theorem tk_small (rem : List Bool) (f k : Int) (h0 : 0 ≤ k) (h1 : k ≤ 48) (h2 : k.toNat ≤ rem.length) : tkF rem f k = f := by
  unfold tkF
  split
  · rfl
  · rw [if_neg (by omega), if_neg (by omega)]; omega
theorem ralign_spec (bs : List Int) (at_ fail : Int) (hB : Bytes8 bs) (h0 : 0 ≤ at_) (h1 : at_.toNat ≤ 8 * bs.length) (hl : bs.length < 137438953472) :
    ∃ a2 : Int, Does PP 77 [.ptr 0 0] (rd bs at_ fail) (Is (.tup []) (rd bs a2 (alV (remOf bs at_) fail))) := by
  obtain ⟨k, hk0⟩ : ∃ k : Int, k = ((remOf bs at_).length % 8 : Nat) := ⟨_, rfl⟩
  have ht := rtake_spec bs at_ fail k hB h0 h1 hl
  have hF := tk_small (remOf bs at_) fail k (by omega) (by omega) (by omega)
  have hak := align_k bs at_ h0 h1
  have hA : alV (remOf bs at_) fail = if tkV (remOf bs at_) fail k ≠ 0 then (if fail = 0 then 5 else fail) else fail := by
    unfold alV tkV
    rw [← hk0]
    simp only [hF]
    by_cases h : fail = 0
    · subst h
      simp only [if_true]
      by_cases h2 : num ((remOf bs at_).take k.toNat) = 0
      · simp [h2]
      · rw [if_neg h2, if_pos (by omega)]
    · simp [h]
  rw [hA]
  rw [hF] at ht
  obtain ⟨a2, ha2⟩ : ∃ a, a = at_ + tkN (remOf bs at_) fail k := ⟨_, rfl⟩
  obtain ⟨V, hV⟩ : ∃ V, V = tkV (remOf bs at_) fail k := ⟨_, rfl⟩
  rw [← ha2, ← hV] at ht
  rw [← hV]
  refine ⟨a2, ?_⟩
  have hg := give_spec bs a2 fail 5
  obtain ⟨f5, hf5⟩ : ∃ f, f = if fail = 0 then (5 : Int) else fail := ⟨_, rfl⟩
  rw [← hf5] at hg ⊢
  obtain ⟨f6, hf6⟩ : ∃ f, f = if V ≠ 0 then f5 else fail := ⟨_, rfl⟩
  rw [← hf6]
  rw [← hk0] at hak
  unfold rd at ht hg ⊢
  clear hA hF ha2 hV hf5 hk0 hB h1 hl
  refine wlk Tryz.f77 ?_
  unhygienic intros
  have e : i2 .rem .i64 (i2 .sub .i64 8 (i2 .rem .i64 at_ 8)) 8 = k := by
    rw [hk.i2_rem, hk.i2_rem, Int.tmod_eq_emod_of_nonneg h0, hk.sub64 _ _ (by omega) (by omega), Int.tmod_eq_emod_of_nonneg (by omega), hak]
  clear hak h0
  (conv => cbv)
  try rw [e]
  repeat' (first | assumption | ((first | refine stp ?_ | refine stpB (fun _ => ?_) (fun _ => ?_)) <;> (conv => cbv)) | exact stpF | fail)
  try rw [e]
  repeat' (first | assumption | ((first | refine stp ?_ | refine stpB (fun _ => ?_) (fun _ => ?_)) <;> (conv => cbv)) | exact stpF | fail)
  · rename_i h
    rw [if_pos h] at hf6
    subst hf6
    exact hk.fin1 rfl
  · rename_i h
    rw [if_neg (by omega)] at hf6
    subst hf6
    exact hk.fin1 rfl
theorem rend_spec (bs : List Int) (at_ fail : Int) (hB : Bytes8 bs) (h0 : 0 ≤ at_) (h1 : at_.toNat ≤ 8 * bs.length) (hl : bs.length < 137438953472) :
    Does PP 28 [.ptr 0 0] (rd bs at_ fail) (Is (I (enV (remOf bs at_) fail)) (rd bs at_ fail)) := by
  have hleft := left_spec bs at_ fail h0 h1 hl
  obtain ⟨a2, hal⟩ := ralign_spec bs at_ fail hB h0 h1 hl
  obtain ⟨A, hA⟩ : ∃ A, A = alV (remOf bs at_) fail := ⟨_, rfl⟩
  obtain ⟨E, hE⟩ : ∃ A, A = enV (remOf bs at_) fail := ⟨_, rfl⟩
  obtain ⟨L, hL⟩ : ∃ L : Int, L = ((remOf bs at_).length : Nat) := ⟨_, rfl⟩
  have hE2 : E = if fail = 0 ∧ L ≥ 8 then 4 else A := by
    rw [hE, enV, hA]
    by_cases h : fail = 0 ∧ (remOf bs at_).length ≥ 8
    · rw [if_pos h, if_pos ⟨h.1, by omega⟩]
    · rw [if_neg h, if_neg (fun h' => h ⟨h'.1, by omega⟩)]
  rw [← hA] at hal
  rw [← hL] at hleft
  rw [← hE]
  clear hA hE hL hB h1 hl h0
  unfold rd at hleft hal ⊢
  have hal : Does PP 77 [.ptr 1 0] [.box [.ls (.il .u8 bs) .any, .int .i64 at_, .int .i64 fail], .box [.ls (.il .u8 bs) .any, .int .i64 at_, .int .i64 fail]]
      (Is (.tup []) [.box [.ls (.il .u8 bs) .any, .int .i64 at_, .int .i64 fail], .box [.ls (.il .u8 bs) .any, .int .i64 a2, .int .i64 A]]) :=
    hal.renI [1] rfl (by decide) rfl ⟨rfl, trivial⟩ rfl rfl rfl rfl rfl rfl
  refine wlk Tryz.f28 ?_
  unhygienic intros
  (conv => cbv)
  refine hk.brEql (fun h => ?_) (fun h => ?_)
  · (conv => cbv)
    refine hk.callA hleft ?_
    (conv => cbv)
    refine hk.brGeq (fun h2 => ?_) (fun h2 => ?_)
    · rw [if_pos ⟨h, h2⟩] at hE2
      subst hE2
      (conv => cbv)
      exact hk.fin1 rfl
    · rw [if_neg (fun h' => h2 h'.2)] at hE2
      subst hE2
      (conv => cbv)
      refine hk.callA hal ?_
      (conv => cbv)
      exact hk.finI (fin_lowN 1 (Nat.le_refl 1) (.refl _ _) rfl rfl ⟨rfl, rfl⟩)
  · rw [if_neg (fun h' => h h'.1)] at hE2
    subst hE2
    (conv => cbv)
    refine hk.callA hal ?_
    (conv => cbv)
    exact hk.finI (fin_lowN 1 (Nat.le_refl 1) (.refl _ _) rfl rfl ⟨rfl, rfl⟩)
end Go.Proofs.YtfjdmgnhklpiiaaGreat
