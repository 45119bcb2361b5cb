/- The bits that numbers, parts and blocks have. -/
import Derived.Test.YtoeekjddeknmbaaGreatTryTab
import Derived.Test.YtoeekjddeknmbaaGreatAl4
import Derived.Test.YtoeekjddeknmbaaGreatBaseX
import Derived.Test.YtoeekjddeknmbaaGreatRkX
import Derived.Test.YtoeekjddeknmbaaGreatPpX
set_option maxHeartbeats 4000000
set_option maxRecDepth 20000
set_option linter.unusedSimpArgs false
set_option linter.unusedVariables false
open Go Go.AL
namespace Go.Proofs.YtoeekjddeknmbaaGreat
theorem shl_one : ∀ k : Nat, k < 48 → rI2 .shl .i64 1 (k : Int) = 2 ^ k ∧ rI2 .shl .i64 (-1) (k : Int) = -2 ^ k := by decide
def sb (v n : Int) : List Bool := bitsOf (v % 2 ^ n.toNat).toNat n.toNat
theorem sb_len (v n : Int) : (sb v n).length = n.toNat := bitsOf_len _ _
def sbs (n : Int) (l : List Int) : List Bool := (l.map fun v => sb v n).flatten
theorem sbs_len (n : Int) (l : List Int) : (sbs n l).length = n.toNat * l.length := by
 unfold sbs
 induction l with
 | nil => simp
 | cons a r ih => simp only [List.map_cons, List.flatten_cons, List.length_append, sb_len, ih, List.length_cons, Nat.mul_add, Nat.mul_one]; omega
theorem sbs_step (n : Int) (l : List Int) (i : Nat) (h : i < l.length) : sbs n (l.take (i + 1)) = sbs n (l.take i) ++ sb (l.getD i 0) n := by
 unfold sbs
 rw [List.take_add_one, List.map_append, List.flatten_append]
 simp [List.getD, h]
def pbits (kd vl : Int) (da : List Int) (d : Int) : List Bool := bitsOf kd.toNat 2 ++ (if kd = 1 then sb vl d else if kd = 3 then sbs d da else [])
def zb (n : Int) : List Bool := List.replicate n.toNat false ++ [true]
theorem zb_len (n : Int) : (zb n).length = n.toNat + 1 := by simp [zb]
def foldZ (n : Int) : Int := if n < 0 then -2 * n - 1 else 2 * n
theorem foldZ_range {n : Int} (h0 : -8589934592 ≤ n) (h1 : n < 8589934592) : 0 ≤ foldZ n ∧ foldZ n < 17179869184 := by unfold foldZ; split <;> omega
def rcode (n k : Int) : List Bool := if foldZ n / 2 ^ k.toNat < 24 then zb (foldZ n / 2 ^ k.toNat) ++ bitsOf (foldZ n % 2 ^ k.toNat).toNat k.toNat else zb 24 ++ bitsOf (foldZ n).toNat 34
theorem rcode_len (n k : Int) (h0 : -8589934592 ≤ n) (h1 : n < 8589934592) (h3 : k ≤ 24) : (rcode n k).length ≤ 59 := by
 obtain ⟨a, b⟩ := foldZ_range h0 h1
 unfold rcode
 split
 ·rw [List.length_append, zb_len, bitsOf_len]; omega
 ·rw [List.length_append, zb_len, bitsOf_len]; omega
theorem shr_pow (z : Int) (k : Nat) (hz : 0 ≤ z) (hk : k ≤ 64) : rI2 .shr .i64 z (k : Int) = z / 2 ^ k := by
 obtain ⟨v, rfl⟩ : ∃ v : Nat, z = v := ⟨z.toNat, by omega⟩
 rw [shr_nat .i64 v k (by simpa [IntKind.bits] using hk)]
 simp
def partL (l : List Int) (s i : Nat) : List Int := (l.drop (i * s)).take s
def rcodes (k : Int) (x : List Int) : List Bool := (x.map fun n => rcode n k).flatten
theorem rcodes_step (k : Int) (x : List Int) (j : Nat) (h : j < x.length) : rcodes k (x.take (j + 1)) = rcodes k (x.take j) ++ rcode (x.getD j 0) k := by
 unfold rcodes
 rw [List.take_add_one, List.map_append, List.flatten_append]
 simp [List.getD, h]
def pcode (k : Int) (x : List Int) : List Bool := bitsOf k.toNat 5 ++ rcodes k x
def pcodes (l ks : List Int) (s : Nat) : Nat → List Bool
 | 0 => []
 | i + 1 => pcodes l ks s i ++ pcode (ks.getD i 0) (partL l s i)
theorem rcodes_len (k : Int) (x : List Int) (hk : k ≤ 24) (hx : ∀ j, j < x.length → -8589934592 ≤ x.getD j 0 ∧ x.getD j 0 < 8589934592) : ∀ j, j ≤ x.length → (rcodes k (x.take j)).length ≤ 59 * j
 | 0, _ => by simp [rcodes]
 | j + 1, h => by
   rw [rcodes_step k x j (by omega), List.length_append]
   have := rcodes_len k x hk hx j (by omega)
   obtain ⟨a, b⟩ := hx j (by omega)
   have := rcode_len (x.getD j 0) k a b hk
   omega
def lagbits (lg gn : Int) : List Bool := if lg = 0 then bitsOf 0 1 else bitsOf 1 1 ++ (bitsOf lg.toNat 8 ++ bitsOf gn.toNat 4)
def nhead (sh : Int) (ix : List Int) (lg gn : Int) : List Bool := bitsOf 2 2 ++ (bitsOf sh.toNat 5 ++ (bitsOf ix.length 5 ++ (sbs 7 ix ++ lagbits lg gn)))
theorem pcodes_len (l ks : List Int) (s : Nat) (hks : ∀ i, i < ks.length → ks.getD i 0 ≤ 24) (hfar : ∀ x ∈ l, -8589934592 ≤ x ∧ x < 8589934592) : ∀ i, i ≤ ks.length → (pcodes l ks s i).length ≤ i * (5 + 59 * s)
 | 0, _ => by simp [pcodes]
 | i + 1, h => by
   have ih := pcodes_len l ks s hks hfar i (by omega)
   rw [pcodes, List.length_append, pcode, List.length_append, bitsOf_len, Nat.succ_mul]
   have hx : (partL l s i).length ≤ s := by rw [partL, List.length_take]; omega
   have := rcodes_len (ks.getD i 0) (partL l s i) (hks i (by omega)) (fun j hj => hfar _ (by
    have : (partL l s i).getD j 0 ∈ partL l s i := mem_getD.2 ⟨j, hj, rfl⟩
    generalize (partL l s i).getD j 0 = y at *
    rw [partL] at this
    exact List.mem_of_mem_drop (List.mem_of_mem_take this))) (partL l s i).length (Nat.le_refl _)
   rw [List.take_length] at this
   have h2 : 59 * (partL l s i).length ≤ 59 * s := Nat.mul_le_mul_left _ hx
   omega
def nbits (sh : Int) (ix : List Int) (lg gn pt : Int) (rc da : List Int) : List Bool := nhead sh ix lg gn ++ (bitsOf pt.toNat 2 ++ pcodes da rc (da.length / 2 ^ pt.toNat) rc.length)
set_option maxHeartbeats 1000000
def pb (a : Int) (j : Nat) : Int := a / 2 ^ j % 2
theorem pb_two (a : Int) (j : Nat) : pb a j = 0 ∨ pb a j = 1 := Int.emod_two_eq _
theorem pow2_pos (j : Nat) : (0 : Int) < 2 ^ j := Int.pow_pos (by decide)
theorem pb_add (a q : Int) (j : Nat) (hj : j < 64) : pb (a + 2 ^ 64 * q) j = pb a j := by
 unfold pb
 have e1 : (2 : Int) ^ 64 * q = 2 ^ j * (2 ^ (64 - j) * q) := by
  rw [← Int.mul_assoc, ← Int.pow_add, show j + (64 - j) = 64 by omega]
 rw [e1, Int.add_mul_ediv_left _ _ (by have := pow2_pos j; omega)]
 have e2 : (2 : Int) ^ (64 - j) * q = 2 * (2 ^ (63 - j) * q) := by
  rw [show 64 - j = (63 - j) + 1 by omega, Int.pow_succ, Int.mul_comm (2 ^ (63 - j)) 2, Int.mul_assoc]
 rw [e2, Int.add_mul_emod_self_left]
theorem pb_mod (a : Int) (j : Nat) (hj : j < 64) : pb (a % 2 ^ 64) j = pb a j := by
 have h := pb_add (a % 2 ^ 64) (a / 2 ^ 64) j hj
 rw [Int.emod_add_mul_ediv] at h
 exact h.symm
theorem wrap_or (a : Int) : IntKind.wrap .i64 a = a % 2 ^ 64 ∨ IntKind.wrap .i64 a = a % 2 ^ 64 - 2 ^ 64 := by
 have h : ∀ c : Bool, (if c = true then a % 2 ^ 64 - 2 ^ 64 else a % 2 ^ 64) = a % 2 ^ 64 ∨ (if c = true then a % 2 ^ 64 - 2 ^ 64 else a % 2 ^ 64) = a % 2 ^ 64 - 2 ^ 64 := fun c => by cases c <;> simp
 exact h _
theorem pb_wrap (a : Int) (j : Nat) (hj : j < 64) : pb (IntKind.wrap .i64 a) j = pb a j := by
 rcases wrap_or a with h | h <;> rw [h]
 ·exact pb_mod a j hj
 ·have h := pb_add (a % 2 ^ 64 - 2 ^ 64) 1 j hj
  rw [show a % 2 ^ 64 - 2 ^ 64 + 2 ^ 64 * 1 = a % 2 ^ 64 by omega] at h
  rw [← h, pb_mod a j hj]
theorem pb_nat (m j : Nat) : pb (m : Int) j = if m.testBit j then 1 else 0 := by
 unfold pb
 rw [Nat.testBit_eq_decide_div_mod_eq]
 have e1 : ((m : Int) / 2 ^ j % 2) = ((m / 2 ^ j % 2 : Nat) : Int) := by simp
 rw [e1]
 rcases Nat.mod_two_eq_zero_or_one (m / 2 ^ j) with h | h <;> simp [h]
theorem toNat_ofInt64 (a : Int) : (((BitVec.ofInt 64 a).toNat : Nat) : Int) = a % 2 ^ 64 := by
 rw [BitVec.toNat_ofInt]
 have : 0 ≤ a % 2 ^ 64 := Int.emod_nonneg _ (by decide)
 simp at this ⊢
 omega
theorem pb_or (a b : Int) (j : Nat) (hj : j < 64) : pb (rI2 .or .i64 a b) j = 1 ↔ pb a j = 1 ∨ pb b j = 1 := by
 show pb (IntKind.wrap .i64 (((BitVec.ofInt 64 a ||| BitVec.ofInt 64 b).toNat : Nat) : Int)) j = 1 ↔ _
 rw [pb_wrap _ _ hj, BitVec.toNat_or, pb_nat, Nat.testBit_or]
 have ha := pb_nat (BitVec.ofInt 64 a).toNat j
 have hb := pb_nat (BitVec.ofInt 64 b).toNat j
 rw [toNat_ofInt64, pb_mod _ _ hj] at ha hb
 rw [ha, hb]
 cases (BitVec.ofInt 64 a).toNat.testBit j <;> cases (BitVec.ofInt 64 b).toNat.testBit j <;> simp
theorem and_one (a : Int) (s : Nat) (hs : s < 64) : rI2 .and .i64 (rI2 .shr .i64 a s) 1 = pb a s := by
 show IntKind.wrap .i64 (((BitVec.ofInt 64 (a.fdiv (2 ^ (min (s : Int).toNat 64))) &&& BitVec.ofInt 64 1).toNat : Nat) : Int) = _
 rw [show min (s : Int).toNat 64 = s by omega, Int.fdiv_eq_ediv_of_nonneg _ (by have := pow2_pos s; omega)]
 rw [BitVec.toNat_and, show (BitVec.ofInt 64 1).toNat = 1 by decide, Nat.and_one_is_mod]
 have h1 := toNat_ofInt64 (a / 2 ^ s)
 have h2 : (((BitVec.ofInt 64 (a / 2 ^ s)).toNat % 2 : Nat) : Int) = pb a s := by
  unfold pb
  omega
 rw [h2]
 rcases pb_two a s with h | h <;> rw [h] <;> rfl
def IsLow (p : Nat → Prop) (w : Int) : Prop := 0 ≤ w ∧ w ≤ 24 ∧ (∀ j : Nat, j < w.toNat → ¬ p j) ∧ (w = 24 ∨ p w.toNat)
theorem IsLow.uniq {p : Nat → Prop} {a b : Int} (ha : IsLow p a) (hb : IsLow p b) : a = b := by
 obtain ⟨a0, a1, a2, a3⟩ := ha
 obtain ⟨b0, b1, b2, b3⟩ := hb
 rcases Int.lt_trichotomy a b with h | h | h
 ·rcases a3 with h' | h'
  ·omega
  ·exact absurd h' (b2 a.toNat (by omega))
 ·exact h
 ·rcases b3 with h' | h'
  ·omega
  ·exact absurd h' (a2 b.toNat (by omega))
def anyBit (l : List Int) (i : Nat) (j : Nat) : Prop := ∃ m, m < i ∧ pb (l.getD m 0) j = 1
theorem pb24 : ∀ j : Nat, j < 25 → (pb 16777216 j = 1 ↔ j = 24) := by decide
theorem exists_low (p : Nat → Prop) : ∃ w, IsLow p w := by
 by_cases h : ∃ j, j < 24 ∧ p j
 ·obtain ⟨n, ⟨h1, h2⟩, h3⟩ := nat_min (p := fun j => j < 24 ∧ p j) h
  exact ⟨n, by omega, by omega, fun j hj hp => by have := h3 j ⟨by omega, hp⟩; omega, .inr (by simpa using h2)⟩
 ·exact ⟨24, by omega, by omega, fun j hj hp => h ⟨j, by omega, hp⟩, .inl rfl⟩
theorem shift_spec (l : List Int) (h : Heap) (hl : l.length < 4611686018427387904) {w : Int} (hw : IsLow (anyBit l l.length) w) : Does PP 43 [.ls (.il .i64 l) .any] h (Is (.int .i64 w) h) := by
 refine wlk Tryz.f43 ?_
 unhygienic intros
 have hn := hk.lnI_nn l
 have hl := hk.lnI_lt l 4611686018427387904 (by omega)
 cbv
 refine hk.loopI (loop_rule (α := Int × Int) (fun x => [(0, .ls (.il .i64 l) .any), (2, .int .i64 0), (3, .int .i64 x.2), (7, .ls (.il .i64 l) .any), (8, .int .i64 (lnI l)), (9, .int .i64 x.1)]) (fun x => h)
  (fun x => 0 ≤ x.1 ∧ x.1 ≤ lnI l ∧ ∀ j : Nat, j < 25 → (pb x.2 j = 1 ↔ j = 24 ∨ anyBit l x.1.toNat j)) (fun x => (lnI l - x.1).toNat) (0, 16777216) ⟨by omega, by omega, fun j hj => ?_⟩ ?_ ?_)
 ·rw [pb24 j hj]
  exact ⟨.inl, fun h => h.elim id fun ⟨m, hm, _⟩ => absurd hm (by simp)⟩
 ·exact ghT
 intro ⟨i, a⟩ ⟨hi, hi2, hi3⟩ Q' hb hx hr
 simp only at hi hi2 hi3
 cbv
 split
 ·rename_i hlt
  rw [hk.c2_lss, decide_eq_true_eq] at hlt
  refine ⟨hk.idx hi hlt, ?_⟩
  refine hb (i + 1, i2 .or .i64 a (gtI l i)) _ ⟨by omega, by omega, fun j hj => ?_⟩ (by simp only; omega) ?_
  ·simp only
   rw [hk.i2_eq, pb_or _ _ _ (by omega), hi3 j hj, hk.gtI_eq, show (i + 1).toNat = i.toNat + 1 by omega]
   constructor
   ·rintro ((h | ⟨m, hm, h⟩) | h)
    ·exact .inl h
    ·exact .inr ⟨m, by omega, h⟩
    ·exact .inr ⟨i.toNat, by omega, h⟩
   ·rintro (h | ⟨m, hm, h⟩)
    ·exact .inl (.inl h)
    ·by_cases e : m = i.toNat
     ·subst e; exact .inr h
     ·exact .inl (.inr ⟨m, by omega, h⟩)
  ·refine Gh.tm ?_
   refine Holds.cons (Wk.refl _ _) <| Holds.cons (Wk.refl _ _) <| Holds.cons (Wk.refl _ _) <| Holds.cons (Wk.refl _ _) <| Holds.cons (Wk.refl _ _) <| Holds.cons (Wk.of_eq ?_) <| Holds.nil _ _
   rw [← hk.add64 i 1 (by omega) (by omega)]
   rfl
 ·rename_i hge
  rw [hk.c2_lss, decide_eq_false_iff_not] at hge
  have hi4 : i = lnI l := by omega
  subst hi4
  refine hx _ _ ?_
  rw [hk.lnI_toNat] at hi3
  cbv
  have hall : ∀ j : Nat, j < 25 → (i2 .and .i64 (i2 .shr .i64 a j) 1 = 0 ↔ ¬ (j = 24 ∨ anyBit l l.length j)) := fun j hj => by
   rw [hk.i2_eq, and_one a j (by omega), ← hi3 j hj]
   rcases pb_two a j with h | h <;> rw [h] <;> simp
  refine hk.loopI (loop_rule (α := Int) (fun s => [(2, .int .i64 0), (3, .int .i64 a), (6, .int .i64 s)]) (fun _ => h)
   (fun s => 0 ≤ s ∧ s ≤ 24 ∧ ∀ j : Nat, j < s.toNat → ¬ anyBit l l.length j) (fun s => (24 - s).toNat) 0 ⟨by omega, by omega, fun j hj => by omega⟩ ?_ ?_)
  ·exact ghT
  intro s ⟨hs, hs2, hs3⟩ Q' hb hx hr
  have h1 := hall s.toNat (by omega)
  rw [show ((s.toNat : Nat) : Int) = s by omega] at h1
  cbv
  refine ⟨hk.ndI hs, ?_⟩
  split
  ·rename_i he
   rw [hk.c2_eql, decide_eq_true_eq] at he
   have h2 := h1.1 he
   refine hb (s + 1) _ ⟨by omega, by have : s.toNat ≠ 24 := fun h => h2 (.inl h); omega, fun j hj => ?_⟩ (by omega) ?_
   ·by_cases e : j = s.toNat
    ·subst e; exact fun h => h2 (.inr h)
    ·exact hs3 j (by omega)
   ·refine Gh.tm ?_
    refine Holds.cons (Wk.refl _ _) <| Holds.cons (Wk.refl _ _) <| Holds.cons (Wk.of_eq ?_) <| Holds.nil _ _
    rw [← hk.add64 s 1 (by omega) (by omega)]
    rfl
  ·rename_i he
   rw [hk.c2_eql, decide_eq_false_iff_not] at he
   have h2 := Classical.not_not.1 fun h => he (h1.2 h)
   have hw2 : IsLow (anyBit l l.length) s := ⟨hs, hs2, hs3, h2.imp_left fun h => by omega⟩
   refine hx _ _ ?_
   cbv
   exact hk.fin1 (congrArg _ (hw2.uniq hw))
end Go.Proofs.YtoeekjddeknmbaaGreat
