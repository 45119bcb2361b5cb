/-
  Contracts of functions of the program, proved over the abstract machine of the Al texts.
-/
import Derived.Test.YtnnpookoencpnaaTryTab
import Derived.Test.YtnnpookoencpnaaAl4
import Derived.Test.YtnnpookoencpnaaRkY
set_option maxHeartbeats 1000000
set_option linter.unusedSimpArgs false
set_option linter.unusedVariables false
open Go Go.AL
namespace Go.Proofs.Ytnnpookoencpnaa
/-- A bit of a number. -/
def pb (a : Int) (j : Nat) : Int := a / 2 ^ j % 2
theorem pb_two (a : Int) (j : Nat) : pb a j = 0 ∨ pb a j = 1 := Int.emod_two_eq _
theorem pow2_pos (j : Nat) : (0 : Int) < 2 ^ j := Int.pow_pos (by decide)
theorem pb_add (a q : Int) (j : Nat) (hj : j < 64) : pb (a + 2 ^ 64 * q) j = pb a j := by
  unfold pb
  have e1 : (2 : Int) ^ 64 * q = 2 ^ j * (2 ^ (64 - j) * q) := by
    rw [← Int.mul_assoc, ← Int.pow_add, show j + (64 - j) = 64 by omega]
  rw [e1, Int.add_mul_ediv_left _ _ (by have := pow2_pos j; omega)]
  have e2 : (2 : Int) ^ (64 - j) * q = 2 * (2 ^ (63 - j) * q) := by
    rw [show 64 - j = (63 - j) + 1 by omega, Int.pow_succ, Int.mul_comm (2 ^ (63 - j)) 2, Int.mul_assoc]
  rw [e2, Int.add_mul_emod_self_left]
theorem pb_mod (a : Int) (j : Nat) (hj : j < 64) : pb (a % 2 ^ 64) j = pb a j := by
  have h := pb_add (a % 2 ^ 64) (a / 2 ^ 64) j hj
  rw [Int.emod_add_mul_ediv] at h
  exact h.symm
theorem wrap_or (a : Int) : IntKind.wrap .i64 a = a % 2 ^ 64 ∨ IntKind.wrap .i64 a = a % 2 ^ 64 - 2 ^ 64 := by
  have h : ∀ c : Bool, (if c = true then a % 2 ^ 64 - 2 ^ 64 else a % 2 ^ 64) = a % 2 ^ 64 ∨ (if c = true then a % 2 ^ 64 - 2 ^ 64 else a % 2 ^ 64) = a % 2 ^ 64 - 2 ^ 64 := fun c => by cases c <;> simp
  exact h _
theorem pb_wrap (a : Int) (j : Nat) (hj : j < 64) : pb (IntKind.wrap .i64 a) j = pb a j := by
  rcases wrap_or a with h | h <;> rw [h]
  · exact pb_mod a j hj
  · have h := pb_add (a % 2 ^ 64 - 2 ^ 64) 1 j hj
    rw [show a % 2 ^ 64 - 2 ^ 64 + 2 ^ 64 * 1 = a % 2 ^ 64 by omega] at h
    rw [← h, pb_mod a j hj]
theorem pb_nat (m j : Nat) : pb (m : Int) j = if m.testBit j then 1 else 0 := by
  unfold pb
  rw [Nat.testBit_eq_decide_div_mod_eq]
  have e1 : ((m : Int) / 2 ^ j % 2) = ((m / 2 ^ j % 2 : Nat) : Int) := by simp
  rw [e1]
  rcases Nat.mod_two_eq_zero_or_one (m / 2 ^ j) with h | h <;> simp [h]
theorem toNat_ofInt64 (a : Int) : (((BitVec.ofInt 64 a).toNat : Nat) : Int) = a % 2 ^ 64 := by
  rw [BitVec.toNat_ofInt]
  have : 0 ≤ a % 2 ^ 64 := Int.emod_nonneg _ (by decide)
  simp at this ⊢
  omega
theorem pb_or (a b : Int) (j : Nat) (hj : j < 64) : pb (rI2 .or .i64 a b) j = 1 ↔ pb a j = 1 ∨ pb b j = 1 := by
  show pb (IntKind.wrap .i64 (((BitVec.ofInt 64 a ||| BitVec.ofInt 64 b).toNat : Nat) : Int)) j = 1 ↔ _
  rw [pb_wrap _ _ hj, BitVec.toNat_or, pb_nat, Nat.testBit_or]
  have ha := pb_nat (BitVec.ofInt 64 a).toNat j
  have hb := pb_nat (BitVec.ofInt 64 b).toNat j
  rw [toNat_ofInt64, pb_mod _ _ hj] at ha hb
  rw [ha, hb]
  cases (BitVec.ofInt 64 a).toNat.testBit j <;> cases (BitVec.ofInt 64 b).toNat.testBit j <;> simp
theorem and_one (a : Int) (s : Nat) (hs : s < 64) : rI2 .and .i64 (rI2 .shr .i64 a s) 1 = pb a s := by
  show IntKind.wrap .i64 (((BitVec.ofInt 64 (a.fdiv (2 ^ (min (s : Int).toNat 64))) &&& BitVec.ofInt 64 1).toNat : Nat) : Int) = _
  rw [show min (s : Int).toNat 64 = s by omega, Int.fdiv_eq_ediv_of_nonneg _ (by have := pow2_pos s; omega)]
  rw [BitVec.toNat_and, show (BitVec.ofInt 64 1).toNat = 1 by decide, Nat.and_one_is_mod]
  have h1 := toNat_ofInt64 (a / 2 ^ s)
  have h2 : (((BitVec.ofInt 64 (a / 2 ^ s)).toNat % 2 : Nat) : Int) = pb a s := by
    unfold pb
    omega
  rw [h2]
  rcases pb_two a s with h | h <;> rw [h] <;> rfl
/-- The least place of a bit, 24 at most. -/
def IsLow (p : Nat → Prop) (w : Int) : Prop := 0 ≤ w ∧ w ≤ 24 ∧ (∀ j : Nat, j < w.toNat → ¬ p j) ∧ (w = 24 ∨ p w.toNat)
theorem IsLow.uniq {p : Nat → Prop} {a b : Int} (ha : IsLow p a) (hb : IsLow p b) : a = b := by
  obtain ⟨a0, a1, a2, a3⟩ := ha
  obtain ⟨b0, b1, b2, b3⟩ := hb
  rcases Int.lt_trichotomy a b with h | h | h
  · rcases a3 with h' | h'
    · omega
    · exact absurd h' (b2 a.toNat (by omega))
  · exact h
  · rcases b3 with h' | h'
    · omega
    · exact absurd h' (a2 b.toNat (by omega))
/-- Some number among the first i has the bit. -/
def anyBit (l : List Int) (i : Nat) (j : Nat) : Prop := ∃ m, m < i ∧ pb (l.getD m 0) j = 1
theorem pb24 : ∀ j : Nat, j < 25 → (pb 16777216 j = 1 ↔ j = 24) := by decide
theorem exists_low (p : Nat → Prop) : ∃ w, IsLow p w := by
  by_cases h : ∃ j, j < 24 ∧ p j
  · obtain ⟨n, ⟨h1, h2⟩, h3⟩ := nat_min (p := fun j => j < 24 ∧ p j) h
    exact ⟨n, by omega, by omega, fun j hj hp => by have := h3 j ⟨by omega, hp⟩; omega, .inr (by simpa using h2)⟩
  · exact ⟨24, by omega, by omega, fun j hj hp => h ⟨j, by omega, hp⟩, .inl rfl⟩
theorem shift_spec (l : List Int) (h : Heap) (hl : l.length < 4611686018427387904) {w : Int} (hw : IsLow (anyBit l l.length) w) : Does PP 17 [.ls (.il .i64 l) .any] h (Is (.int .i64 w) h) := by
  refine doesF P_ok Try.f17 (by kernel_rfl) (by kernel_rfl) ?_
  intro i2 c2 u1 cv mx mn ad sbt bn bq ba lnI gtI apI sbI stI rpI lnG gtG apG sbG stG rpG fi fb fs fl fg fc sln sgt sap ssb sc b2s s2b nd call calld callv callvd loop rfun fin hk
  have hn := hk.lnI_nn l
  have hl := hk.lnI_lt l 4611686018427387904 (by omega)
  cbv
  refine hk.loopI (loop_rule (α := Int × Int) (fun x => [(0, .ls (.il .i64 l) .any), (2, .int .i64 0), (3, .int .i64 x.2), (7, .ls (.il .i64 l) .any), (8, .int .i64 (lnI l)), (9, .int .i64 x.1)]) (fun x => h)
    (fun x => 0 ≤ x.1 ∧ x.1 ≤ lnI l ∧ ∀ j : Nat, j < 25 → (pb x.2 j = 1 ↔ j = 24 ∨ anyBit l x.1.toNat j)) (fun x => (lnI l - x.1).toNat) (0, 16777216) ⟨by omega, by omega, fun j hj => ?_⟩ ?_ ?_)
  · rw [pb24 j hj]
    exact ⟨.inl, fun h => h.elim id fun ⟨m, hm, _⟩ => absurd hm (by simp)⟩
  · exact Gh.tm (by repeat (first | exact Holds.nil _ _ | refine Holds.cons (Wk.refl _ _) ?_))
  intro ⟨i, a⟩ ⟨hi, hi2, hi3⟩ Q' hb hx hr
  simp only at hi hi2 hi3
  cbv
  split
  · rename_i hlt
    rw [hk.c2_lss, decide_eq_true_eq] at hlt
    refine ⟨hk.idx hi hlt, ?_⟩
    refine hb (i + 1, i2 .or .i64 a (gtI l i)) _ ⟨by omega, by omega, fun j hj => ?_⟩ (by simp only; omega) ?_
    · simp only
      rw [hk.i2_eq, pb_or _ _ _ (by omega), hi3 j hj, hk.gtI_eq, show (i + 1).toNat = i.toNat + 1 by omega]
      constructor
      · rintro ((h | ⟨m, hm, h⟩) | h)
        · exact .inl h
        · exact .inr ⟨m, by omega, h⟩
        · exact .inr ⟨i.toNat, by omega, h⟩
      · rintro (h | ⟨m, hm, h⟩)
        · exact .inl (.inl h)
        · by_cases e : m = i.toNat
          · subst e; exact .inr h
          · exact .inl (.inr ⟨m, by omega, h⟩)
    · refine Gh.tm ?_
      refine Holds.cons (Wk.refl _ _) <| Holds.cons (Wk.refl _ _) <| Holds.cons (Wk.refl _ _) <| Holds.cons (Wk.refl _ _) <| Holds.cons (Wk.refl _ _) <| Holds.cons (Wk.of_eq ?_) <| Holds.nil _ _
      rw [← hk.add64 i 1 (by omega) (by omega)]
      rfl
  · rename_i hge
    rw [hk.c2_lss, decide_eq_false_iff_not] at hge
    have hi4 : i = lnI l := by omega
    subst hi4
    refine hx _ _ ?_
    rw [hk.lnI_toNat] at hi3
    cbv
    have hall : ∀ j : Nat, j < 25 → (i2 .and .i64 (i2 .shr .i64 a j) 1 = 0 ↔ ¬ (j = 24 ∨ anyBit l l.length j)) := fun j hj => by
      rw [hk.i2_eq, and_one a j (by omega), ← hi3 j hj]
      rcases pb_two a j with h | h <;> rw [h] <;> simp
    refine hk.loopI (loop_rule (α := Int) (fun s => [(2, .int .i64 0), (3, .int .i64 a), (6, .int .i64 s)]) (fun _ => h)
      (fun s => 0 ≤ s ∧ s ≤ 24 ∧ ∀ j : Nat, j < s.toNat → ¬ anyBit l l.length j) (fun s => (24 - s).toNat) 0 ⟨by omega, by omega, fun j hj => by omega⟩ ?_ ?_)
    · exact Gh.tm (by repeat (first | exact Holds.nil _ _ | refine Holds.cons (Wk.refl _ _) ?_))
    intro s ⟨hs, hs2, hs3⟩ Q' hb hx hr
    have h1 := hall s.toNat (by omega)
    rw [show ((s.toNat : Nat) : Int) = s by omega] at h1
    cbv
    refine ⟨hk.ndI hs, ?_⟩
    split
    · rename_i he
      rw [hk.c2_eql, decide_eq_true_eq] at he
      have h2 := h1.1 he
      refine hb (s + 1) _ ⟨by omega, by have : s.toNat ≠ 24 := fun h => h2 (.inl h); omega, fun j hj => ?_⟩ (by omega) ?_
      · by_cases e : j = s.toNat
        · subst e; exact fun h => h2 (.inr h)
        · exact hs3 j (by omega)
      · refine Gh.tm ?_
        refine Holds.cons (Wk.refl _ _) <| Holds.cons (Wk.refl _ _) <| Holds.cons (Wk.of_eq ?_) <| Holds.nil _ _
        rw [← hk.add64 s 1 (by omega) (by omega)]
        rfl
    · rename_i he
      rw [hk.c2_eql, decide_eq_false_iff_not] at he
      have h2 := Classical.not_not.1 fun h => he (h1.2 h)
      have hw2 : IsLow (anyBit l l.length) s := ⟨hs, hs2, hs3, h2.imp_left fun h => by omega⟩
      refine hx _ _ ?_
      cbv
      exact hk.fin1 (congrArg _ (hw2.uniq hw))
end Go.Proofs.Ytnnpookoencpnaa
set_option maxHeartbeats 1000000
set_option linter.unusedSimpArgs false
set_option linter.unusedVariables false
open Go Go.AL
namespace Go.Proofs.Ytnnpookoencpnaa
set_option maxRecDepth 100000 in
theorem awake10_run : (ex PP T M (fun _ => true) 400).F 12 [] [] = some (.bool true, []) := by kernel_rfl
theorem awake10 (h : Heap) : Does PP 12 [] h (Is (.bool true) h) := pure0 (ex_does P_ok 400 awake10_run) rfl rfl h
theorem pb_half (n : Int) (j : Nat) : pb (n / 2) j = pb n (j + 1) := by
  unfold pb
  rw [Int.pow_succ, Int.mul_comm, Int.ediv_ediv_of_nonneg (by decide)]
theorem pb_zero (n : Int) : pb n 0 = n % 2 := by unfold pb; simp
theorem half_even (n : Int) (h : n.tmod 2 = 0) : n.tdiv 2 = n / 2 ∧ pb n 0 = 0 := by
  obtain ⟨c, rfl⟩ := Int.dvd_of_tmod_eq_zero h
  rw [Int.mul_tdiv_cancel_left c (by decide), pb_zero]
  omega
theorem odd_one (n : Int) (h : n.tmod 2 ≠ 0) : pb n 0 = 1 := by
  rcases pb_two n 0 with h1 | h1
  · rw [pb_zero] at h1
    exact absurd (Int.tmod_eq_zero_of_dvd (Int.dvd_of_emod_eq_zero h1)) h
  · exact h1
theorem IsLow.grow {l : List Int} {i : Nat} {w k : Int} (h1 : IsLow (anyBit l i) w) (h2 : IsLow (fun j => pb (l.getD i 0) j = 1) k) : IsLow (anyBit l (i + 1)) (if k < w then k else w) := by
  obtain ⟨a0, a1, a2, a3⟩ := h1
  obtain ⟨b0, b1, b2, b3⟩ := h2
  have hor : ∀ j, anyBit l (i + 1) j ↔ anyBit l i j ∨ pb (l.getD i 0) j = 1 := fun j => by
    constructor
    · rintro ⟨m, hm, h⟩
      by_cases e : m = i
      · subst e; exact .inr h
      · exact .inl ⟨m, by omega, h⟩
    · rintro (⟨m, hm, h⟩ | h)
      · exact ⟨m, by omega, h⟩
      · exact ⟨i, by omega, h⟩
  refine ⟨by split <;> assumption, by split <;> assumption, fun j hj => ?_, ?_⟩
  · rw [hor]
    rintro (h | h)
    · exact a2 j (by split at hj <;> omega) h
    · exact b2 j (by split at hj <;> omega) h
  · rw [hor]
    split
    · exact b3.imp_right .inr
    · exact a3.imp_right .inl
theorem shifts_law (l : List Int) (hl : l.length ≤ 9223372036854775807) (hrg : ∀ i ∈ l, -9223372036854775808 ≤ i ∧ i ≤ 9223372036854775807) : Does PP 4 [.ls (.il .i64 l) .any] [] (Is (.bool true) []) := by
  obtain ⟨w, hw⟩ := exists_low (anyBit l l.length)
  refine doesF P_ok Try.f4 (by kernel_rfl) (by kernel_rfl) ?_
  intro i2 c2 u1 cv mx mn ad sbt bn bq ba lnI gtI apI sbI stI rpI lnG gtG apG sbG stG rpG fi fb fs fl fg fc sln sgt sap ssb sc b2s s2b nd call calld callv callvd loop rfun fin hk
  have hn := hk.lnI_nn l
  have hn2 := hk.lnI_le l 9223372036854775807 (by omega)
  cbv
  refine hk.call1 (awake10 _) ?_
  have hbt : bn true = false := by rw [hk.bn_eq]; rfl
  cbv
  rw [hbt]
  cbv
  split
  · cbv
    refine hk.call1 (awake10 _) ?_
    cbv
    exact hk.fin1 rfl
  · rename_i h100
    rw [hk.c2_gtr, decide_eq_false_iff_not] at h100
    have hL : lnI l ≤ 100 := by omega
    cbv
    refine hk.loopI (loop_rule (α := Int × Int) (fun x => [(0, .ls (.il .i64 l) .any), (2, .bool false), (3, .int .i64 x.2), (15, .ls (.il .i64 l) .any), (16, .int .i64 (lnI l)), (17, .int .i64 x.1)]) (fun x => [])
      (fun x => 0 ≤ x.1 ∧ x.1 ≤ lnI l ∧ IsLow (anyBit l x.1.toNat) x.2) (fun x => (lnI l - x.1).toNat) (0, 24) ⟨by omega, by omega, by omega, by omega, fun j hj h => ?_, .inl rfl⟩ ?_ ?_)
    · obtain ⟨m, hm, _⟩ := h
      exact absurd hm (by simp)
    · exact Gh.tm (by repeat (first | exact Holds.nil _ _ | refine Holds.cons (Wk.refl _ _) ?_))
    intro ⟨i, w1⟩ ⟨hi, hi2, hi3⟩ Q' hb hx hr
    simp only at hi hi2 hi3
    cbv
    split
    · rename_i hlt
      rw [hk.c2_lss, decide_eq_true_eq] at hlt
      refine ⟨hk.idx hi hlt, ?_⟩
      cbv
      have hil := hk.lt_lnI l i hi hlt
      obtain ⟨x, hx0⟩ : ∃ x, x = gtI l i := ⟨_, rfl⟩
      rw [← hx0]
      have hx1 : x = l.getD i.toNat 0 := by rw [hx0, hk.gtI_eq]
      have hxr : -9223372036854775808 ≤ x ∧ x ≤ 9223372036854775807 := by
        rw [hx1, List.getD_eq_getElem?_getD, List.getElem?_eq_getElem hil]
        exact hrg _ (List.getElem_mem hil)
      refine hk.loopI (loop_rule (α := Int × Int) (fun y => [(0, .ls (.il .i64 l) .any), (2, .bool false), (3, .int .i64 w1), (15, .ls (.il .i64 l) .any), (16, .int .i64 (lnI l)), (17, .int .i64 i), (5, .int .i64 y.1), (6, .int .i64 y.2)]) (fun x => [])
        (fun y => 0 ≤ y.2 ∧ y.2 ≤ 24 ∧ -9223372036854775808 ≤ y.1 ∧ y.1 ≤ 9223372036854775807 ∧ (∀ j : Nat, j < y.2.toNat → pb x j = 0) ∧ ∀ j : Nat, pb x (y.2.toNat + j) = pb y.1 j) (fun y => (24 - y.2).toNat) (x, 0) ⟨by omega, by omega, hxr.1, hxr.2, fun j hj => absurd hj (by simp), fun j => by simp⟩ ?_ ?_)
      · exact Gh.tm (by repeat (first | exact Holds.nil _ _ | refine Holds.cons (Wk.refl _ _) ?_))
      intro ⟨n, k⟩ ⟨k0, k1, n0, n1, z1, z2⟩ Q2 hb2 hx2 hr2
      simp only at k0 k1 n0 n1 z1 z2
      cbv
      split
      · rename_i hk24
        rw [hk.c2_lss, decide_eq_true_eq] at hk24
        cbv
        refine ⟨hk.ndI (by simp [rNd]), ?_⟩
        split
        · rename_i he
          rw [hk.c2_eql, decide_eq_true_eq, hk.i2_rem] at he
          obtain ⟨e1, e2⟩ := half_even n he
          cbv
          refine ⟨hk.ndI (by simp [rNd]), ?_⟩
          have e3 : i2 .quo .i64 n 2 = n / 2 := by
            rw [hk.i2_quo, e1]
            exact wrap64 (by omega) (by omega)
          refine hb2 (n / 2, k + 1) _ ⟨by simp only; omega, by simp only; omega, by simp only; omega, by simp only; omega, fun j hj => ?_, fun j => ?_⟩ (by simp only; omega) ?_
          · simp only at hj
            by_cases e : j = k.toNat
            · subst e
              have := z2 0
              rw [Nat.add_zero] at this
              rw [this, e2]
            · exact z1 j (by omega)
          · simp only
            rw [pb_half, ← z2, show (k + 1).toNat + j = k.toNat + (j + 1) by omega]
          · refine Gh.tm ?_
            refine Holds.cons (Wk.refl _ _) <| Holds.cons (Wk.refl _ _) <| Holds.cons (Wk.refl _ _) <| Holds.cons (Wk.refl _ _) <| Holds.cons (Wk.refl _ _) <| Holds.cons (Wk.refl _ _) <| Holds.cons (Wk.of_eq ?_) <| Holds.cons (Wk.of_eq ?_) <| Holds.nil _ _
            · rw [← e3]; rfl
            · rw [← hk.add64 k 1 (by omega) (by omega)]
              rfl
        · rename_i he
          rw [hk.c2_eql, decide_eq_false_iff_not, hk.i2_rem] at he
          have e2 := odd_one n he
          have hlow : IsLow (fun j => pb (l.getD i.toNat 0) j = 1) k := ⟨k0, k1, fun j hj => by show ¬ pb (l.getD i.toNat 0) j = 1; rw [← hx1, z1 j hj]; decide, .inr (by
            have := z2 0
            rw [Nat.add_zero] at this
            simp only
            rw [← hx1, this, e2])⟩
          refine hx2 _ _ ?_
          cbv
          refine hb (i + 1, if k < w1 then k else w1) _ ⟨by simp only; omega, by simp only; omega, ?_⟩ (by simp only; omega) ?_
          · simp only
            rw [show (i + 1).toNat = i.toNat + 1 by omega]
            exact hi3.grow hlow
          · refine Gh.tm ?_
            refine Holds.cons (Wk.refl _ _) <| Holds.cons (Wk.refl _ _) <| Holds.cons (Wk.of_eq ?_) <| Holds.cons (Wk.refl _ _) <| Holds.cons (Wk.refl _ _) <| Holds.cons (Wk.of_eq ?_) <| Holds.nil _ _
            · show AVal.int .i64 (mn w1 k) = _
              rw [hk.mn_eq]
            · rw [← hk.add64 i 1 (by omega) (by omega)]
              rfl
      · rename_i hk24
        rw [hk.c2_lss, decide_eq_false_iff_not] at hk24
        have hlow : IsLow (fun j => pb (l.getD i.toNat 0) j = 1) k := ⟨k0, k1, fun j hj => by show ¬ pb (l.getD i.toNat 0) j = 1; rw [← hx1, z1 j hj]; decide, .inl (by omega)⟩
        cbv
        refine hx2 _ _ ?_
        cbv
        refine hb (i + 1, if k < w1 then k else w1) _ ⟨by simp only; omega, by simp only; omega, ?_⟩ (by simp only; omega) ?_
        · simp only
          rw [show (i + 1).toNat = i.toNat + 1 by omega]
          exact hi3.grow hlow
        · refine Gh.tm ?_
          refine Holds.cons (Wk.refl _ _) <| Holds.cons (Wk.refl _ _) <| Holds.cons (Wk.of_eq ?_) <| Holds.cons (Wk.refl _ _) <| Holds.cons (Wk.refl _ _) <| Holds.cons (Wk.of_eq ?_) <| Holds.nil _ _
          · show AVal.int .i64 (mn w1 k) = _
            rw [hk.mn_eq]
          · rw [← hk.add64 i 1 (by omega) (by omega)]
            rfl
    · rename_i hge
      rw [hk.c2_lss, decide_eq_false_iff_not] at hge
      have hi4 : i = lnI l := by omega
      subst hi4
      rw [hk.lnI_toNat] at hi3
      refine hx _ _ ?_
      cbv
      refine hk.call1 (shift_spec l [] (by have := hk.lnI_eq l; omega) hw) ?_
      cbv
      refine hk.fin1 ?_
      rw [hk.c2_eql, hw.uniq hi3]
      simp
end Go.Proofs.Ytnnpookoencpnaa
