/- A Writer's contracts. -/
import Derived.Test.YtoeekjddeknmbaaGreatTryTab
import Derived.Test.YtoeekjddeknmbaaGreatAl4
import Derived.Test.YtoeekjddeknmbaaGreatBaseX
import Derived.Test.YtoeekjddeknmbaaGreatPpX
set_option maxHeartbeats 4000000
set_option maxRecDepth 20000
set_option linter.unusedSimpArgs false
set_option linter.unusedVariables false
open Go Go.AL
namespace Go.Proofs.YtoeekjddeknmbaaGreat
def wl (bits : List Bool) : Heap := [.box [.sl 1 (nby bits.length) 0 (nby bits.length : Nat), .int .i64 (bits.length : Nat)], .rw (nby bits.length) (.il .u8 (pack bits))]
theorem shr128 : ∀ r : Nat, r < 8 → rI2 .shr .u8 128 (r : Int) = ((2 ^ (7 - r) : Nat) : Int) := by decide
theorem or_byte (bits : List Bool) (r : Int) (hr : r = ((bits.length % 8 : Nat) : Int)) : rI2 .or .u8 ((byteAt bits (bits.length / 8) : Nat) : Int) (rI2 .shr .u8 128 r) = ((byteAt bits (bits.length / 8) + 2 ^ (7 - bits.length % 8) : Nat) : Int) := by
 have hm : bits.length % 8 < 8 := Nat.mod_lt _ (by decide)
 rw [hr, shr128 _ hm]
 obtain ⟨a, ha⟩ := byteAt_low bits
 have hlt := byteAt_lt (bits ++ [true]) (bits.length / 8)
 rw [byteAt_snoc, if_pos rfl, Bool.toNat_true, Nat.one_mul] at hlt
 have hp : 2 ^ (7 - bits.length % 8) < 2 ^ (8 - bits.length % 8) := Nat.pow_lt_pow_right (by decide) (by omega)
 rw [ha] at hlt ⊢
 show IntKind.wrap .u8 _ = _
 rw [or_low .u8 _ _ _ hp hlt]
 exact wrapu8 (Int.natCast_nonneg _) (Int.ofNat_lt.2 hlt)
theorem bitL_spec (bits : List Bool) (b : Bool) (hl : bits.length < 1099511627776) : Does PP 127 [.ptr 0 0, .bool b] (wl bits) (Is (.tup []) (wl (bits ++ [b]))) := by
 unfold wl
 obtain ⟨B, hB⟩ : ∃ B, B = nby bits.length := ⟨_, rfl⟩
 obtain ⟨B1, hB1⟩ : ∃ B, B = nby (bits ++ [b]).length := ⟨_, rfl⟩
 obtain ⟨Bz, hBz⟩ : ∃ Bz : Int, Bz = (B : Nat) := ⟨_, rfl⟩
 obtain ⟨Bz1, hBz1⟩ : ∃ Bz : Int, Bz = (B1 : Nat) := ⟨_, rfl⟩
 obtain ⟨n, hn⟩ : ∃ n : Int, n = (bits.length : Nat) := ⟨_, rfl⟩
 obtain ⟨n1, hn1⟩ : ∃ n1 : Int, n1 = ((bits ++ [b]).length : Nat) := ⟨_, rfl⟩
 obtain ⟨Pk, hPk⟩ : ∃ Pk, Pk = pack bits := ⟨_, rfl⟩
 obtain ⟨P1, hP1⟩ : ∃ Pk, Pk = pack (bits ++ [b]) := ⟨_, rfl⟩
 rw [← hB, ← hB1, ← hBz, ← hBz1, ← hn, ← hn1, ← hPk, ← hP1]
 obtain ⟨R, hR⟩ : ∃ R, R = room1 bits := ⟨_, rfl⟩
 obtain ⟨r, hr⟩ : ∃ r : Int, r = ((bits.length % 8 : Nat) : Int) := ⟨_, rfl⟩
 obtain ⟨q, hq⟩ : ∃ q : Int, q = ((bits.length / 8 : Nat) : Int) := ⟨_, rfl⟩
 have hRl : R.length = bits.length / 8 + 1 := by rw [hR, room1_len]
 have hPl : Pk.length = B := by rw [hPk, pack_len, hB]
 simp only [nby, List.length_append, List.length_singleton] at hB hB1 hn1
 have hRq : R.getD (bits.length / 8) 0 = (byteAt bits (bits.length / 8) : Nat) := by rw [hR]; exact room1_get bits
 have hor := or_byte bits r hr
 have hps := pack_snoc bits b
 have hpf := pack_snoc_false bits
 rw [← hR] at hps hpf
 have hR0 : r = 0 → Pk ++ [0] = R := fun h => by rw [hR, hPk, room1, if_pos (by omega)]
 have hR1 : ¬ r = 0 → Pk = R := fun h => by rw [hR, hPk, room1, if_neg (by omega)]
 refine wlk Tryz.f127 ?_
 unhygienic intros
 have hbq : Nat.beq B B = true := Nat.beq_refl B
 have hln : lnI Pk = Bz := by rw [hk.lnI_eq]; omega
 have hlR : lnI R = Bz1 := by rw [hk.lnI_eq]; omega
 have hrem : i2 .rem .i64 n 8 = r := by rw [hk.i2_rem, Int.tmod_eq_emod_of_nonneg (by omega)]; omega
 have hquo : i2 .quo .i64 n 8 = q := by rw [hk.i2_quo, Int.tdiv_eq_ediv_of_nonneg (by omega), wrap64 (by omega) (by omega)]; omega
 have hadd : i2 .add .i64 n 1 = n1 := by rw [hk.add64 _ _ (by omega) (by omega)]; omega
 have hap : r = 0 → apI Pk [0] = R := fun h => by rw [hk.apI_eq]; exact hR0 h
 have hl0 : lnI [0] = 1 := hk.lnI_eq _
 have hbs : r = 0 → B.succ = B1 ∧ Bz + 1 = Bz1 := fun h => by omega
 have hbs1 : ¬ r = 0 → B = B1 ∧ Bz = Bz1 := fun h => by omega
 have hset : b = true → stI R q (i2 .or .u8 (gtI R q) (i2 .shr .u8 128 r)) = P1 := fun h => by
  rw [hk.stI_eq, hk.i2_eq, hk.gtI_eq, show q.toNat = bits.length / 8 by omega, hRq, hor, hP1, hps, h]
  simp
 have hfal : b = false → R = P1 := fun h => by rw [hP1, h]; exact hpf.symm
 have hq0 : 0 ≤ q ∧ q < Bz1 := by omega
 have hr0 : 0 ≤ r := by omega
 have hBz0 : 0 ≤ Bz ∧ Bz < 200000000000 := by omega
 clear hq hr hB hB1 hBz hBz1 hn hn1 hPk hP1 hR hRl hPl hRq hor hps hpf hR0
 (conv at hbq => cbv)
 (conv => cbv)
 rw [hrem]
 by_cases h0 : r = 0
 ·have hap := hap h0
  obtain ⟨e1, e2⟩ := hbs h0
  subst e1
  cases b
  ·have hfal := hfal rfl
   repeat' (first | assumption | ((first | rw [hbq] | refine stp ?_ | refine stpB (fun _ => ?_) (fun _ => ?_)) <;> (conv => cbv)) | exact stpF | fail)
   rw [hap, hlR, hadd, hfal]
   exact hk.finI (fin_lowN 2 (Nat.le_refl 2) (.refl _ _) rfl rfl ⟨rfl, rfl⟩)
  ·have hset := hset rfl
   repeat' (first | assumption | ((first | rw [hbq] | refine stp ?_ | refine stpB (fun _ => ?_) (fun _ => ?_)) <;> (conv => cbv)) | exact stpF | fail)
   rw [hap, hlR, hadd, hrem, hquo, hset]
   refine ((hk.idxI hq0.1 hq0.2 (hk.nzI (by decide) (hk.ge0I hr0 (hk.idxI hq0.1 hq0.2 ?_)))))
   exact hk.finI (fin_lowN 2 (Nat.le_refl 2) (.refl _ _) rfl rfl ⟨rfl, rfl⟩)
 ·have hR1 := hR1 h0
  obtain ⟨e1, e2⟩ := hbs1 h0
  subst e1 e2
  rw [hR1]
  cases b
  ·have hfal := hfal rfl
   repeat' (first | assumption | ((first | rw [hbq] | refine stp ?_ | refine stpB (fun _ => ?_) (fun _ => ?_)) <;> (conv => cbv)) | exact stpF | fail)
   rw [hadd, hfal]
   exact hk.finI (fin_lowN 2 (Nat.le_refl 2) (.refl _ _) rfl rfl ⟨rfl, rfl⟩)
  ·have hset := hset rfl
   repeat' (first | assumption | ((first | rw [hbq] | refine stp ?_ | refine stpB (fun _ => ?_) (fun _ => ?_)) <;> (conv => cbv)) | exact stpF | fail)
   rw [hadd, hrem, hquo, hset]
   exact hk.finI (fin_lowN 2 (Nat.le_refl 2) (.refl _ _) rfl rfl ⟨rfl, rfl⟩)
def wr : List Bool → Heap
 | [] => [.box [.ls .nl .nil, I 0], .rw 0 (.il .u8 [])]
 | b :: r => wl (b :: r)
theorem wr_snoc (bits : List Bool) (b : Bool) : wr (bits ++ [b]) = wl (bits ++ [b]) := by cases bits <;> rfl
theorem bit_spec (bits : List Bool) (b : Bool) (hl : bits.length < 1099511627776) : Does PP 127 [.ptr 0 0, .bool b] (wr bits) (Is (.tup []) (wr (bits ++ [b]))) := by
 rw [wr_snoc]
 cases bits with
 | nil => exact Does.ghost (GE.link 0 0 1 [.ls .nl .nil, I 0] (.il .u8 []) rfl rfl rfl rfl) (bitL_spec [] b hl) (Nat.le_refl 2)
 | cons c r => exact bitL_spec (c :: r) b hl
/- A Writer's contracts, 2. -/
theorem bit_of (v i : Nat) (h : v < 18446744073709551616) (hi : i ≤ 64) : (rI2 .and .u64 (rI2 .shr .u64 (v : Int) (i : Int)) 1 = 1) ↔ v.testBit i = true := by
 rw [shr_nat .u64 v i hi, and1_nat _ (Nat.lt_of_le_of_lt (Nat.div_le_self _ _) h), Nat.testBit_eq_decide_div_mod_eq, decide_eq_true_eq]
 omega
theorem each_spec (x : AVal) (f : Nat) (v n : Int) (Hf : Nat → Heap) (hv : 0 ≤ v) (hv2 : v < 18446744073709551616) (hn : 0 ≤ n) (hn2 : n ≤ 48)
 (hy : ∀ k : Nat, k < n.toNat → Does PP f [x, .bool ((bitsOf v.toNat n.toNat).getD k false)] (Hf k) (Is (.tup []) (Hf (k + 1)))) :
 Does PP 126 [.int .u64 v, I n, .clo (.func f) [x] []] (Hf 0) (Is (.tup []) (Hf n.toNat)) := by
 have hy : ∀ (k : Nat) (i : Int), 0 ≤ i → i < n → k = (n - 1 - i).toNat → Does PP f [x, .bool (v.toNat.testBit i.toNat)] (Hf k) (Is (.tup []) (Hf (k + 1))) := fun k i h0 h1 h2 => by
  have := hy k (by omega)
  rwa [bitsOf_get _ _ _ (by omega), show n.toNat - 1 - k = i.toNat by omega] at this
 obtain ⟨E, hE⟩ : ∃ E, E = Hf n.toNat := ⟨_, rfl⟩
 have hE2 : ∀ k : Nat, (k : Int) = n → Hf k = E := fun k h => by rw [hE, ← h]; rfl
 rw [← hE]
 refine wlk Tryz.f126 ?_
 unhygienic intros
 obtain ⟨n1, hn1⟩ : ∃ n1, n1 = n - 1 := ⟨_, rfl⟩
 have hsub : i2 .sub .i64 n 1 = n1 := by rw [hn1]; exact hk.sub64 _ _ (by omega) (by omega)
 have hbit : ∀ i : Int, 0 ≤ i → i < n → c2 .eql (i2 .and .u64 (i2 .shr .u64 v i) 1) 1 = v.toNat.testBit i.toNat := fun i h0 h1 => by
  rw [hk.c2_eql, hk.i2_eq, Bool.eq_iff_iff, decide_eq_true_eq]
  have := bit_of v.toNat i.toNat (by omega) (by omega)
  rwa [show ((v.toNat : Nat) : Int) = v by omega, show ((i.toNat : Nat) : Int) = i by omega] at this
 obtain ⟨tb, htb⟩ : ∃ tb : Int → Bool, ∀ i, tb i = v.toNat.testBit i.toNat := ⟨_, fun _ => rfl⟩
 simp only [← htb] at hy hbit
 clear hE htb
 (conv => cbv)
 rw [hsub]
 refine hk.loopI (loop_rule (α := Nat × Int) (fun y => [(0, .int .u64 v), (2, .clo (.func f) [x] []), (6, .int .i64 y.2)]) (fun y => Hf y.1)
  (fun y => -1 ≤ y.2 ∧ y.2 < n ∧ (y.1 : Int) = n - 1 - y.2) (fun y => (y.2 + 1).toNat) (0, n1) ⟨by simp only; omega, by simp only; omega, by simp only; omega⟩ ?_ ?_)
 ·exact ghT
 intro ⟨k, i⟩ ⟨hi, hi2, hk2⟩ Q' hb hx hr
 simp only at hi hi2 hk2
 (conv => cbv)
 refine hk.brGeq (fun h1 => ?_) (fun h1 => ?_)
 ·have hy := hy k i h1 hi2 (by omega)
  obtain ⟨i1, hi1⟩ : ∃ i1, i1 = i - 1 := ⟨_, rfl⟩
  have hsub : i2 .sub .i64 i 1 = i1 := by rw [hi1]; exact hk.sub64 _ _ (by omega) (by omega)
  (conv => cbv)
  refine hk.ge0I h1 ?_
  (conv => cbv)
  rw [hbit i h1 hi2]
  refine hk.callA hy ?_
  (conv => cbv)
  rw [hsub]
  refine hb (k + 1, i1) _ ⟨by simp only; omega, by simp only; omega, by simp only; omega⟩ (by simp only; omega) ?_
  refine Gh.tm ?_
  repeat' (first | exact Holds.nil _ _ | refine Holds.cons (Wk.refl _ _) ?_ | refine Holds.cons (Wk.of_eq ?_) ?_)
 ·have hE2 := hE2 k (by omega)
  rw [hE2]
  refine hx _ _ ?_
  (conv => cbv)
  exact hk.fin1 rfl
theorem put_spec (bits : List Bool) (v n : Int) (hl : bits.length < 1000000000000) (hn : 0 ≤ n) (hn2 : n ≤ 48) (hv : 0 ≤ v) (hv2 : v < 2 ^ n.toNat) :
 Does PP 110 [.ptr 0 0, .int .u64 v, I n] (wr bits) (Is (.bool true) (wr (bits ++ bitsOf v.toNat n.toNat))) := by
 have hp48 : (2 : Int) ^ n.toNat ≤ 2 ^ 48 := by
  have := Nat.pow_le_pow_right (n := 2) (by decide) (show n.toNat ≤ 48 by omega)
  exact Int.ofNat_le.2 this
 have hv3 : v < 281474976710656 := Int.lt_of_lt_of_le hv2 hp48
 have hev := each_spec (.ptr 0 0) 127 v n (fun k => wr (bits ++ (bitsOf v.toNat n.toNat).take k)) hv (by omega) hn hn2 (fun k hk' => by
  rw [take_snoc _ _ (by rw [bitsOf_len]; exact hk'), ← List.append_assoc]
  exact bit_spec _ _ (by rw [List.length_append, List.length_take, bitsOf_len]; omega))
 simp only [List.take_zero, List.append_nil] at hev
 rw [List.take_of_length_le (by rw [bitsOf_len]; exact Nat.le_refl _)] at hev
 obtain ⟨H0, hH0⟩ : ∃ H, H = wr bits := ⟨_, rfl⟩
 obtain ⟨H1, hH1⟩ : ∃ H, H = wr (bits ++ bitsOf v.toNat n.toNat) := ⟨_, rfl⟩
 rw [← hH0, ← hH1] at hev
 rw [← hH0, ← hH1]
 clear hH0 hH1
 refine wlk Tryz.f110 ?_
 unhygienic intros
 have hsh : i2 .shr .u64 v n = 0 := by
  rw [hk.i2_eq, show v = ((v.toNat : Nat) : Int) by omega, show n = ((n.toNat : Nat) : Int) by omega, shr_nat .u64 _ _ (by simp [IntKind.bits]; omega)]
  rw [Nat.div_eq_of_lt (Int.ofNat_lt.1 (by rw [show ((v.toNat : Nat) : Int) = v by omega]; simpa using hv2))]
  rfl
 (conv => cbv)
 repeat' (first | assumption | ((first | refine stp ?_ | refine stpB (fun _ => ?_) (fun _ => ?_)) <;> (conv => cbv)) | exact stpF | fail)
theorem lenL_spec (bits : List Bool) : Does PP 39 [.ptr 0 0] (wl bits) (Is (I (bits.length : Nat)) (wl bits)) := by
 unfold wl
 obtain ⟨n, hn⟩ : ∃ n : Int, n = (bits.length : Nat) := ⟨_, rfl⟩
 obtain ⟨P, hP⟩ : ∃ P, P = pack bits := ⟨_, rfl⟩
 obtain ⟨B, hB⟩ : ∃ B, B = nby bits.length := ⟨_, rfl⟩
 obtain ⟨Bz, hBz⟩ : ∃ Bz : Int, Bz = (B : Nat) := ⟨_, rfl⟩
 rw [← hB, ← hBz, ← hn, ← hP]
 refine wlk Tryz.f39 ?_
 unhygienic intros
 (conv => cbv)
 exact hk.fin1 rfl
end Go.Proofs.YtoeekjddeknmbaaGreat
