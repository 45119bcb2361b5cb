/-
  Contracts of functions of the program, proved over the abstract machine of the Al texts.
-/
import Derived.Test.YtoeekjddeknmbaaGreatTryTab
import Derived.Test.YtoeekjddeknmbaaGreatAl4
import Derived.Test.YtoeekjddeknmbaaGreatBaseX
import Derived.Test.YtoeekjddeknmbaaGreatPpX
import Derived.Test.YtoeekjddeknmbaaGreatPpZ
import Derived.Test.YtoeekjddeknmbaaGreatSlX
import Derived.Test.YtoeekjddeknmbaaGreatBsX1
import Derived.Test.YtoeekjddeknmbaaGreatBsX3
import Derived.Test.YtoeekjddeknmbaaGreatBsX7
import Derived.Test.YtoeekjddeknmbaaGreatRkX
import Derived.Test.YtoeekjddeknmbaaGreatBsX5
import Derived.Test.YtoeekjddeknmbaaGreatBsX4
import Derived.Test.YtoeekjddeknmbaaGreatBsX8
set_option maxHeartbeats 4000000
set_option maxRecDepth 20000
set_option linter.unusedSimpArgs false
set_option linter.unusedVariables false
open Go Go.AL
namespace Go.Proofs.YtoeekjddeknmbaaGreat
theorem and_mask (v n : Nat) (h : v < 18446744073709551616) (hn : n ≤ 63) : rI2 .and .u64 (v : Int) (((2 ^ n - 1 : Nat)) : Int) = ((v % 2 ^ n : Nat) : Int) := by
 have hp : 2 ^ n ≤ 2 ^ 63 := Nat.pow_le_pow_right (by decide) hn
 have hp2 : 0 < 2 ^ n := Nat.pow_pos (by decide)
 have e : (BitVec.ofInt 64 (v : Int) &&& BitVec.ofInt 64 (((2 ^ n - 1 : Nat)) : Int)).toNat = v % 2 ^ n := by
  rw [BitVec.toNat_and, BitVec.toNat_ofInt, BitVec.toNat_ofInt]
  have e1 : ((v : Int) % ((2 ^ 64 : Nat) : Int)).toNat = v := by omega
  have e2 : ((((2 ^ n - 1 : Nat)) : Int) % ((2 ^ 64 : Nat) : Int)).toNat = 2 ^ n - 1 := by omega
  rw [e1, e2, Nat.and_two_pow_sub_one_eq_mod]
 have hm : v % 2 ^ n < 18446744073709551616 := Nat.lt_of_le_of_lt (Nat.mod_le _ _) h
 have : rI2 .and .u64 (v : Int) (((2 ^ n - 1 : Nat)) : Int) = IntKind.wrap .u64 (((BitVec.ofInt 64 (v : Int) &&& BitVec.ofInt 64 (((2 ^ n - 1 : Nat)) : Int)).toNat : Nat) : Int) := rfl
 rw [this, e]
 exact wrapu64 (by omega) (by omega)
theorem shl_mask : ∀ k : Nat, k < 49 → rI2 .shl .u64 1 (k : Int) = ((2 ^ k : Nat) : Int) := by decide
theorem wsigned_spec (bits : List Bool) (v n : Int) (hl : bits.length < 1000000000000) (h1 : 1 ≤ n) (h2 : n ≤ 48) (hv : -2 ^ (n - 1).toNat ≤ v) (hv2 : v < 2 ^ (n - 1).toNat) :
 Does PP 111 [.ptr 0 0, I v, I n] (wr bits) (Is (.bool true) (wr (bits ++ sb v n))) := by
 have hp48 : (2 : Int) ^ n.toNat ≤ 2 ^ 48 := by
  have := Nat.pow_le_pow_right (n := 2) (by decide) (show n.toNat ≤ 48 by omega)
  exact Int.ofNat_le.2 this
 have hp0 : (0 : Int) < 2 ^ n.toNat := Int.pow_pos (by decide)
 have hpn : ((2 ^ n.toNat : Nat) : Int) = 2 ^ n.toNat := by simp
 obtain ⟨M, hM⟩ : ∃ M : Int, M = v % 2 ^ n.toNat := ⟨_, rfl⟩
 have hM0 : 0 ≤ M := by rw [hM]; exact Int.emod_nonneg _ (by omega)
 have hM1 : M < 2 ^ n.toNat := by rw [hM]; exact Int.emod_lt_of_pos _ hp0
 have hput := put_spec bits M n hl (by omega) h2 hM0 hM1
 rw [show bitsOf M.toNat n.toNat = sb v n by rw [sb, hM]] at hput
 obtain ⟨k, hkn⟩ : ∃ k : Nat, n - 1 = k := ⟨(n - 1).toNat, by omega⟩
 have hk48 : k < 48 := by omega
 obtain ⟨s1, s2⟩ := shl_one k hk48
 have s3 := shl_mask n.toNat (by omega)
 rw [hkn] at hv hv2
 simp only [Int.toNat_natCast] at hv hv2
 have hpk : (2 : Int) ^ k ≤ 2 ^ 47 := by
  have := Nat.pow_le_pow_right (n := 2) (by decide) (show k ≤ 47 by omega)
  exact Int.ofNat_le.2 this
 have hpk0 : (0 : Int) < 2 ^ k := Int.pow_pos (by decide)
 obtain ⟨Q, hQ⟩ : ∃ Q : Int, Q = 2 ^ k := ⟨_, rfl⟩
 rw [← hQ] at hv hv2 hpk hpk0 s1 s2
 have hmask : rI2 .and .u64 (v % 18446744073709551616) (2 ^ n.toNat - 1) = M := by
  have e1 : (2 : Int) ^ n.toNat - 1 = ((2 ^ n.toNat - 1 : Nat) : Int) := by
   have : 0 < 2 ^ n.toNat := Nat.pow_pos (by decide)
   omega
  have e2 : v % 18446744073709551616 = (((v % 18446744073709551616).toNat : Nat) : Int) := by omega
  rw [e1, e2, and_mask _ _ (by omega) (by omega), hM]
  rw [Int.natCast_emod, ← e2, hpn]
  have hd : (2 : Int) ^ n.toNat ∣ 18446744073709551616 := by
   have : (2 : Int) ^ 64 = 18446744073709551616 := by decide
   rw [← this]
   exact ⟨2 ^ (64 - n.toNat), by rw [← Int.pow_add, show n.toNat + (64 - n.toNat) = 64 by omega]⟩
  exact Int.emod_emod_of_dvd v hd
 obtain ⟨W, hW⟩ : ∃ W : Int, W = 2 ^ n.toNat := ⟨_, rfl⟩
 rw [← hW] at hp48 hp0 hmask
 have s3 : rI2 .shl .u64 1 n = W := by rw [show n = ((n.toNat : Nat) : Int) by omega, s3, hpn, hW]
 obtain ⟨H0, hH0⟩ : ∃ H, H = wr bits := ⟨_, rfl⟩
 obtain ⟨H1, hH1⟩ : ∃ H, H = wr (bits ++ sb v n) := ⟨_, rfl⟩
 rw [← hH0, ← hH1] at hput
 rw [← hH0, ← hH1]
 clear hH0 hH1 hW hM1 hM hpn
 refine wlk Tryz.f111 ?_
 unhygienic intros
 have hn1 : i2 .sub .i64 n 1 = (k : Int) := by rw [hk.sub64 _ _ (by omega) (by omega)]; exact hkn
 obtain ⟨K, hK⟩ : ∃ K : Int, K = (k : Int) := ⟨_, rfl⟩
 have hK0 : 0 ≤ K := by omega
 rw [← hK] at hn1 s1 s2
 have t1 : i2 .shl .i64 1 K = Q := by rw [hk.i2_eq]; exact s1
 have t2 : i2 .shl .i64 (-1) K = -Q := by rw [hk.i2_eq]; exact s2
 have t3 : i2 .shl .u64 1 n = W := by rw [hk.i2_eq]; exact s3
 have t4 : i2 .sub .u64 W 1 = W - 1 := by rw [hk.i2_sub]; exact wrapu64 (by omega) (by omega)
 have t5 : cv .u64 v = v % 18446744073709551616 := by rw [hk.cv_eq]; rfl
 have t6 : i2 .and .u64 (v % 18446744073709551616) (W - 1) = M := by rw [hk.i2_eq]; exact hmask
 obtain ⟨NQ, hNQ⟩ : ∃ x, x = -Q := ⟨_, rfl⟩
 obtain ⟨W1, hW1⟩ : ∃ x, x = W - 1 := ⟨_, rfl⟩
 obtain ⟨V, hV⟩ : ∃ x, x = v % 18446744073709551616 := ⟨_, rfl⟩
 rw [← hNQ] at t2
 rw [← hW1] at t4 t6
 rw [← hV] at t5 t6
 clear hmask hV hK hkn s1 s2 s3
 (conv => cbv)
 repeat' (first | assumption | ((first | rw [hn1] | rw [t2] | rw [t1] | rw [t3] | rw [t4] | rw [t5] | rw [t6] | refine hk.callA hput ?_ | refine stp ?_ | refine stpB (fun _ => ?_) (fun _ => ?_)) <;> (conv => cbv)) | exact stpF | fail)
theorem signed_spec (bits : List Bool) (l : List Int) (n : Int) (hl : bits.length < 1000000) (hll : l.length ≤ 1024) (h1 : 1 ≤ n) (h2 : n ≤ 48) (hv : ∀ i, i < l.length → -2 ^ (n - 1).toNat ≤ l.getD i 0 ∧ l.getD i 0 < 2 ^ (n - 1).toNat) :
 Does PP 112 [.ptr 0 0, LI l, I n] (wr bits) (Is (.tup []) (wr (bits ++ sbs n l))) := by
 obtain ⟨N, hN⟩ : ∃ N : Int, N = (l.length : Nat) := ⟨_, rfl⟩
 obtain ⟨H, hH⟩ : ∃ H : Int → Heap, ∀ i, H i = wr (bits ++ sbs n (l.take i.toNat)) := ⟨_, fun _ => rfl⟩
 have hsg : ∀ i : Int, 0 ≤ i → i < N → Does PP 111 [.ptr 0 0, I (l.getD i.toNat 0), I n] (H i) (Is (.bool true) (H (i + 1))) := fun i a b => by
  obtain ⟨c, d⟩ := hv i.toNat (by omega)
  have hb : (bits ++ sbs n (l.take i.toNat)).length < 1000000000000 := by
   rw [List.length_append, sbs_len, List.length_take]
   have : n.toNat * min i.toNat l.length ≤ 48 * 1024 := Nat.mul_le_mul (by omega) (by omega)
   omega
  have := wsigned_spec (bits ++ sbs n (l.take i.toNat)) (l.getD i.toNat 0) n hb h1 h2 c d
  rw [List.append_assoc, ← sbs_step n l _ (by omega)] at this
  rw [hH, hH, show (i + 1).toNat = i.toNat + 1 by omega]
  exact this
 have hH0 : wr bits = H 0 := by rw [hH]; simp [sbs]
 have hHN : wr (bits ++ sbs n l) = H N := by rw [hH, hN]; simp
 rw [hH0, hHN]
 clear hH hH0 hHN hv
 refine wlk Tryz.f112 ?_
 unhygienic intros
 have hln : lnI l = N := by rw [hk.lnI_eq]; omega
 have hgt := hk.gtI_eq l
 (conv => cbv)
 repeat' (first | assumption | ((first | rw [hln] | refine stp ?_ | refine stpB (fun _ => ?_) (fun _ => ?_)) <;> (conv => cbv)) | exact stpF | fail)
 refine hk.loopI (loop_rule (α := Int) (fun i => [(0, .ptr 0 0), (2, .int .i64 n), (8, .ls (.il .i64 l) .any), (9, .int .i64 N), (10, .int .i64 i)]) (fun i => H i)
  (fun i => 0 ≤ i ∧ i ≤ N) (fun i => (N - i).toNat) 0 ⟨by omega, by omega⟩ ?_ ?_)
 ·exact ghT
 intro i ⟨hi, hi2⟩ Q' hb hx hr
 by_cases hin : i < N
 ·obtain ⟨x, hx0⟩ : ∃ x, x = gtI l i := ⟨_, rfl⟩
  have hsg := hsg i hi hin
  rw [← hgt, ← hx0] at hsg
  obtain ⟨H1, hH1⟩ : ∃ x, x = H (i + 1) := ⟨_, rfl⟩
  rw [← hH1] at hsg
  (conv => cbv)
  repeat' (first | assumption | ((first | rw [hln] | refine hk.idxI hi hin ?_ | rw [← hx0] | refine hk.callA hsg ?_ | refine stp ?_ | refine stpB (fun _ => ?_) (fun _ => ?_)) <;> (conv => cbv)) | exact stpF | fail)
  refine hb (i + 1) _ ⟨by omega, by omega⟩ (by omega) ?_
  rw [← hH1]
  refine Gh.tm ?_
  repeat' (first | exact Holds.nil _ _ | refine Holds.cons (Wk.refl _ _) ?_ | refine Holds.cons (Wk.of_eq ?_) ?_)
  all_goals first
   | (rw [← hk.add64 i 1 (by omega) (by omega)]; rfl)
   | rfl
   | skip
 ·have : i = N := by omega
  subst this
  (conv => cbv)
  repeat' (first | assumption | ((first | refine hx _ _ ?_ | refine stp ?_ | refine stpB (fun _ => ?_) (fun _ => ?_)) <;> (conv => cbv)) | exact stpF | fail)
abbrev bv (kd vl : Int) (da : List Int) : AVal := .agg [I kd, I vl, I 0, LI [], I 0, I 0, I 0, LI [], LI da]
theorem wr_frameG {f : FuncId} {args : List AVal} {r : AVal} {bits bits' : List Bool} (G : Heap) (hd : Does PP f args (wr bits) (Is r (wr bits'))) (ha : lows 2 args = true)
 (ea : rns (rho [0, 1] (2 + G.length)) args = args) (er : Go.AL.rn (rho [0, 1] (2 + G.length)) r = r) : Does PP f args (wr bits ++ G) (Is r (wr bits' ++ G)) := by
 have hN : (wr bits ++ G).length = 2 + G.length := by cases bits <;> simp [wr, wl] <;> omega
 refine hd.renI [0, 1] (by cases bits <;> rfl) (by decide) (by rw [hN]; simp [Nat.blt_eq]; omega) (by rw [hN]; cases bits <;> exact ⟨rfl, rfl, trivial⟩) (by cases bits <;> exact ha) (by cases bits <;> rfl) (by cases bits' <;> rfl) (by rw [hN]; exact ea) (by rw [hN]; exact er) ?_
 rw [hN]
 cases bits <;> cases bits' <;> simp [wr, wl, putH, rnos, rno, rns, Go.AL.rn, rho]
theorem wr_pair (bits : List Bool) : ∃ o o2, wr bits = [o, o2] := by cases bits <;> exact ⟨_, _, rfl⟩
theorem wr_lowp (bits : List Bool) : lowOs 2 (wr bits) = true := by cases bits <;> rfl
theorem bput_spec (kd vl sh : Int) (ix : List Int) (lg gn pt : Int) (rc da : List Int) (d : Int) (bits : List Bool) (hb : bits.length < 900000) (hkd : kd = 0 ∨ kd = 1 ∨ kd = 3) (h3 : 8 ≤ d) (h4 : d ≤ 26)
 (hv : kd = 1 → -2 ^ (d - 1).toNat ≤ vl ∧ vl < 2 ^ (d - 1).toNat) (hda : kd = 3 → ∀ i, i < da.length → -2 ^ (d - 1).toNat ≤ da.getD i 0 ∧ da.getD i 0 < 2 ^ (d - 1).toNat) (hdl : da.length ≤ 1024) :
 Does PP 76 [.ptr 0 0, .agg [I kd, I vl, I sh, LI ix, I lg, I gn, I pt, LI rc, LI da], I d] (wr bits) (Is (.tup []) (wr (bits ++ pbits kd vl da d))) := by
 have hp := put_spec bits kd 2 (by omega) (by decide) (by decide) (by omega) (by rcases hkd with h | h | h <;> subst h <;> decide)
 obtain ⟨b1, hb1⟩ : ∃ b, b = bits ++ bitsOf kd.toNat 2 := ⟨_, rfl⟩
 have e0 : bitsOf kd.toNat (Int.toNat 2) = bitsOf kd.toNat 2 := rfl
 rw [e0, ← hb1] at hp
 have hb1l : b1.length < 1000000 := by rw [hb1, List.length_append, bitsOf_len]; omega
 have hpb : bits ++ pbits kd vl da d = b1 ++ (if kd = 1 then sb vl d else if kd = 3 then sbs d da else []) := by rw [pbits, hb1, List.append_assoc]
 rw [hpb]
 obtain ⟨o, o2, ho⟩ := wr_pair bits
 obtain ⟨p, p2, hp2⟩ := wr_pair b1
 have hp' := fun G => wr_frameG G hp rfl rfl rfl
 have hlow1 := wr_lowp b1
 rcases hkd with h | h | h
 ·subst h
  rw [if_neg (by decide), if_neg (by decide), List.append_nil]
  rw [hp2] at hlow1
  rw [ho, hp2]
  simp only [ho, hp2, List.cons_append, List.nil_append] at hp'
  clear hv hda hpb hp
  refine wlk Tryz.f76 ?_
  unhygienic intros
  have hc0 : cv .u64 0 = 0 := by rw [hk.cv_eq]; rfl
  (conv => cbv)
  repeat' (first | assumption | ((first | rw [hc0] | refine hk.callA (hp' _) ?_ | refine stp ?_ | refine stpB (fun _ => ?_) (fun _ => ?_)) <;> (conv => cbv)) | exact stpF | fail)
  all_goals exact hk.finI (fin_lowN 2 (Nat.le_refl 2) (Wk.refl _ _) rfl hlow1 ⟨rfl, rfl⟩)
 ·subst h
  rw [if_pos rfl]
  have hs := wsigned_spec b1 vl d (by omega) (by omega) (by omega) (hv rfl).1 (hv rfl).2
  have hs' := fun G => wr_frameG G hs rfl rfl rfl
  obtain ⟨q, q2, hq2⟩ := wr_pair (b1 ++ sb vl d)
  have hlow2 := wr_lowp (b1 ++ sb vl d)
  rw [hq2] at hlow2
  rw [ho, hq2]
  simp only [ho, hp2, hq2, List.cons_append, List.nil_append] at hp' hs'
  clear hv hda hpb hp hs
  refine wlk Tryz.f76 ?_
  unhygienic intros
  have hc0 : cv .u64 1 = 1 := by rw [hk.cv_eq]; rfl
  (conv => cbv)
  repeat' (first | assumption | ((first | rw [hc0] | refine hk.callA (hp' _) ?_ | refine hk.callA (hs' _) ?_ | refine stp ?_ | refine stpB (fun _ => ?_) (fun _ => ?_)) <;> (conv => cbv)) | exact stpF | fail)
  all_goals exact hk.finI (fin_lowN 2 (Nat.le_refl 2) (Wk.refl _ _) rfl hlow2 ⟨rfl, rfl⟩)
 ·subst h
  rw [if_neg (by decide), if_pos rfl]
  have hs := signed_spec b1 da d hb1l hdl (by omega) (by omega) (hda rfl)
  have hs' := fun G => wr_frameG G hs rfl rfl rfl
  obtain ⟨q, q2, hq2⟩ := wr_pair (b1 ++ sbs d da)
  have hlow2 := wr_lowp (b1 ++ sbs d da)
  rw [hq2] at hlow2
  rw [ho, hq2]
  simp only [ho, hp2, hq2, List.cons_append, List.nil_append] at hp' hs'
  clear hv hda hpb hp hs
  refine wlk Tryz.f76 ?_
  unhygienic intros
  have hc0 : cv .u64 3 = 3 := by rw [hk.cv_eq]; rfl
  (conv => cbv)
  repeat' (first | assumption | ((first | rw [hc0] | refine hk.callA (hp' _) ?_ | refine hk.callA (hs' _) ?_ | refine stp ?_ | refine stpB (fun _ => ?_) (fun _ => ?_)) <;> (conv => cbv)) | exact stpF | fail)
  all_goals exact hk.finI (fin_lowN 2 (Nat.le_refl 2) (Wk.refl _ _) rfl hlow2 ⟨rfl, rfl⟩)
def chkE (l : List Int) (d : Int) : Int := if ¬ (1 ≤ l.length ∧ l.length ≤ 1024 ∧ 8 ≤ d ∧ d ≤ 26) then 1 else if l.any (lacksP d) = true then 9 else 0
theorem check_spec (l : List Int) (d : Int) (h : Heap) (hl : l.length ≤ 9223372036854775807) : Does PP 40 [LI l, I d] h (Is (I (chkE l d)) h) := by
 obtain ⟨n, hn⟩ : ∃ n : Int, n = (l.length : Nat) := ⟨_, rfl⟩
 have hd := fun h => bdepth_spec d h
 have hc := fun h => bcount_spec n h
 refine pure0 ?_ rfl rfl h
 by_cases h1 : 1 ≤ n ∧ n ≤ 1024
 case neg =>
  rw [chkE, if_pos (by omega)]
  rw [show (decide (1 ≤ n) && decide (n ≤ 1024)) = false by rw [Bool.and_eq_false_iff, decide_eq_false_iff_not, decide_eq_false_iff_not]; omega] at hc
  refine wlk Tryz.f40 ?_
  unhygienic intros
  have hln : lnI l = n := by rw [hk.lnI_eq]; omega
  (conv => cbv)
  repeat' (first | assumption | ((first | rw [hln] | refine stp ?_ | refine stpB (fun _ => ?_) (fun _ => ?_)) <;> (conv => cbv)) | exact stpF | fail)
 rw [decide_eq_true h1.1, decide_eq_true h1.2] at hc
 by_cases h2 : 8 ≤ d ∧ d ≤ 26
 case neg =>
  rw [chkE, if_pos (by omega)]
  rw [show (decide (8 ≤ d) && decide (d ≤ 26)) = false by rw [Bool.and_eq_false_iff, decide_eq_false_iff_not, decide_eq_false_iff_not]; omega] at hd
  refine wlk Tryz.f40 ?_
  unhygienic intros
  have hln : lnI l = n := by rw [hk.lnI_eq]; omega
  (conv => cbv)
  repeat' (first | assumption | ((first | rw [hln] | refine stp ?_ | refine stpB (fun _ => ?_) (fun _ => ?_)) <;> (conv => cbv)) | exact stpF | fail)
 rw [decide_eq_true h2.1, decide_eq_true h2.2] at hd
 rw [chkE, if_neg (by omega)]
 have hco := fun h => contains1_spec l 37 (I d) (lacksP d) h hl (fun n => lacks_spec d n h h2.1 h2.2)
 obtain ⟨b, hb⟩ : ∃ b, b = l.any (lacksP d) := ⟨_, rfl⟩
 simp only [← hb] at hco
 rw [← hb]
 refine wlk Tryz.f40 ?_
 unhygienic intros
 have hln : lnI l = n := by rw [hk.lnI_eq]; omega
 clear hb
 cases b
 all_goals
  (conv => cbv)
  repeat' (first | assumption | ((first | rw [hln] | refine stp ?_ | refine stpB (fun _ => ?_) (fun _ => ?_)) <;> (conv => cbv)) | exact stpF | fail)
theorem plain1_spec (l : List Int) (n : Int) (o : AObj) (h0 : 1 ≤ l.length) : Does PP 41 [I n, .ptr 0 0] [.box [LI l]] (Is (.bool (decide (n ≠ l.getD 0 0))) [.box [LI l]]) := by
 obtain ⟨r, hr⟩ : ∃ r, r = decide (n ≠ l.getD 0 0) := ⟨_, rfl⟩
 rw [← hr]
 obtain ⟨N, hN⟩ : ∃ n : Int, n = (l.length : Nat) := ⟨_, rfl⟩
 refine wlk Tryz.f41 ?_
 unhygienic intros
 have hln : lnI l = N := by rw [hk.lnI_eq]; omega
 have hgt := hk.gtI_eq l
 (conv => cbv)
 repeat' (first | assumption | ((first | rw [hln] | refine hk.idxI (by omega) (by omega : (0 : Int) < N) ?_ | refine stp ?_ | refine stpB (fun _ => ?_) (fun _ => ?_)) <;> (conv => cbv)) | exact stpF | fail)
 all_goals first
  | exact hk.fin1 (congrArg _ (by rw [hr, hk.c2_neq, hgt]; rfl))
  | skip
def plK (l : List Int) : Int := if l.any (fun n => decide (n ≠ l.getD 0 0)) = true then 3 else if l.getD 0 0 = 0 then 0 else 1
def plV (l : List Int) : Int := if l.any (fun n => decide (n ≠ l.getD 0 0)) = true then 0 else l.getD 0 0
def plD (l : List Int) : List Int := if l.any (fun n => decide (n ≠ l.getD 0 0)) = true then l else []
theorem plain_bad (l : List Int) (d : Int) (h : Heap) (hl : l.length ≤ 9223372036854775807) (he : chkE l d ≠ 0) : Does PP 18 [LI l, I d] h (Is (.tup [bv 0 0 [], I (chkE l d)]) h) := by
 have hch := fun h => check_spec l d h hl
 obtain ⟨e, he0⟩ : ∃ e, e = chkE l d := ⟨_, rfl⟩
 simp only [← he0] at hch he
 rw [← he0]
 clear he0
 refine pure0 ?_ rfl rfl h
 refine wlk Tryz.f18 ?_
 unhygienic intros
 (conv => cbv)
 repeat' (first | assumption | ((first | refine stp ?_ | refine stpB (fun _ => ?_) (fun _ => ?_)) <;> (conv => cbv)) | exact stpF | fail)
 all_goals exact hk.fin0 rfl rfl (Wk.tup ⟨Wk.agg ⟨.refl _ _, .refl _ _, .refl _ _, Wk.nilL _ _, .refl _ _, .refl _ _, .refl _ _, Wk.nilL _ _, Wk.nilL _ _, trivial⟩, .refl _ _, trivial⟩)
theorem plain_ok (l : List Int) (d : Int) (h : Heap) (he : chkE l d = 0) : Does PP 18 [LI l, I d] h (Is (.tup [bv (plK l) (plV l) (plD l), I 0]) h) := by
 have hlen : 1 ≤ l.length ∧ l.length ≤ 1024 := by
  unfold chkE at he
  split at he
  ·exact absurd he (by decide)
  ·rename_i hh; omega
 have hch := fun h => check_spec l d h (by omega)
 rw [he] at hch
 have hcl := fun h => clone_spec l h (by omega) hlen.2
 have hco : Does PP 36 [LI l, .clo (.func 41) [] [.ptr 0 0]] [.box [LI l]] (Is (.bool (l.any (fun n => decide (n ≠ l.getD 0 0)))) [.box [LI l]]) :=
  contains_spec l 41 [.ptr 0 0] _ _ (by omega) (fun n => plain1_spec l n (.tok 0) hlen.1)
 obtain ⟨b, hb⟩ : ∃ b, b = l.any (fun n => decide (n ≠ l.getD 0 0)) := ⟨_, rfl⟩
 rw [plK, plV, plD]
 rw [← hb] at hco ⊢
 obtain ⟨x, hx⟩ : ∃ x, x = l.getD 0 0 := ⟨_, rfl⟩
 rw [← hx]
 obtain ⟨N, hN⟩ : ∃ n : Int, n = (l.length : Nat) := ⟨_, rfl⟩
 have hco2 : ∀ o, Does PP 36 [LI l, .clo (.func 41) [] [.ptr 0 0]] [.box [LI l], o] (Is (.bool b) [.box [LI l], o]) := fun o =>
  hco.renI [0] rfl (by decide) rfl ⟨rfl, trivial⟩ rfl rfl rfl rfl rfl rfl
 clear hb he hco
 refine pure0 ?_ rfl rfl h
 have key : Does PP 18 [LI l, I d] [] (Is (.tup [bv (if b = true then 3 else if x = 0 then 0 else 1) (if b = true then 0 else x) (if b = true then l else []), I 0]) []) := by
  by_cases hx0 : x = 0
  all_goals cases b
  all_goals simp only [hx0, if_true, if_false, Bool.false_eq_true]
  all_goals
   refine wlk Tryz.f18 ?_
   unhygienic intros
   have hln : lnI l = N := by rw [hk.lnI_eq]; omega
   have hgt : gtI l 0 = x := by rw [hk.gtI_eq, hx]; rfl
   first | subst hx0 | skip
   (conv => cbv)
   repeat' (first | assumption | ((first | rw [hln] | rw [hgt] | refine hk.callA (hco2 _) ?_ | refine hk.idxI (by omega) (by omega : (0 : Int) < N) ?_ | refine stp ?_ | refine stpB (fun _ => ?_) (fun _ => ?_)) <;> (conv => cbv)) | exact stpF | fail)
   all_goals first
    | exact hk.fin0 rfl rfl (Wk.tup ⟨Wk.agg ⟨.refl _ _, .refl _ _, .refl _ _, Wk.nilL _ _, .refl _ _, .refl _ _, .refl _ _, Wk.nilL _ _, Wk.nilL _ _, trivial⟩, .refl _ _, trivial⟩)
    | exact hk.fin0 rfl rfl (Wk.tup ⟨Wk.agg ⟨.refl _ _, .refl _ _, .refl _ _, Wk.nilL _ _, .refl _ _, .refl _ _, .refl _ _, Wk.nilL _ _, .refl _ _, trivial⟩, .refl _ _, trivial⟩)
    | skip
 exact key
def pout (kd vl : Int) (da : List Int) (n : Int) : List Int := if kd = 3 then da else List.replicate n.toNat vl
theorem bsamples_err (kd vl sh : Int) (ix : List Int) (lg gn pt : Int) (rc da : List Int) (n d : Int) (h : Heap) (h1 : 1 ≤ n) (h2 : n ≤ 64) (h3 : 8 ≤ d) (h4 : d ≤ 26)
 (hl1 : ix.length ≤ 9223372036854775807) (hl2 : rc.length ≤ 9223372036854775807) (hl3 : da.length ≤ 9223372036854775807) (hf : formE kd vl sh ix lg gn pt rc da n d = 0) (hk2 : kd ≠ 2)
 (hok : (pout kd vl da n).any (lacksP d) = false) :
 Does PP 14 [.agg [I kd, I vl, I sh, LI ix, I lg, I gn, I pt, LI rc, LI da], I n, I d] h (Is (.tup [.junk, I 0]) h) := by
 refine pure0 ?_ rfl rfl h
 by_cases k3 : kd = 3
 ·subst k3
  refine (bsamples_raw vl sh ix lg gn pt rc da n d h1 (by omega) h3 h4 hl1 hl2 hl3 hf hok).fin (fun r h' ⟨e1, e2⟩ => ?_)
  subst e1
  subst e2
  have hw : Wk [AObj.box [I 3, I vl, I sh, LI ix, I lg, I gn, I pt, LI rc, LI da], AObj.rw 1 (LX.il IntKind.i64 da)] (.tup [.sl 1 1 0 n, I 0]) (.tup [.junk, I 0]) := Wk.tup ⟨Wk.junk _ _, .refl _ _, trivial⟩
  exact fin_nil hw rfl ⟨rfl, rfl⟩
 ·have ho : pout kd vl da n = List.replicate n.toNat vl := by rw [pout, if_neg k3]
  rw [ho] at hok
  refine (bsamples_const kd vl sh ix lg gn pt rc da n d h1 h2 h3 h4 hl1 hl2 hl3 hf hk2 k3 hok).fin (fun r h' ⟨e1, e2⟩ => ?_)
  subst e1
  subst e2
  have hw : Wk [AObj.box [I kd, I vl, I sh, LI ix, I lg, I gn, I pt, LI rc, LI da], AObj.tok 0, AObj.rw 0 (LX.il IntKind.i64 (List.replicate n.toNat vl))] (.tup [.sl 2 0 0 n, I 0]) (.tup [.junk, I 0]) := Wk.tup ⟨Wk.junk _ _, .refl _ _, trivial⟩
  exact fin_nil hw rfl ⟨rfl, rfl⟩
theorem bPut_spec (kd vl sh : Int) (ix : List Int) (lg gn pt : Int) (rc da : List Int) (n d : Int) (bits bits' : List Bool)
 (hs : ∀ h, Does PP 14 [.agg [I kd, I vl, I sh, LI ix, I lg, I gn, I pt, LI rc, LI da], I n, I d] h (Is (.tup [.junk, I 0]) h))
 (hp : Does PP 76 [.ptr 0 0, .agg [I kd, I vl, I sh, LI ix, I lg, I gn, I pt, LI rc, LI da], I d] (wr bits) (Is (.tup []) (wr bits'))) :
 Does PP 38 [.ptr 0 0, .agg [I kd, I vl, I sh, LI ix, I lg, I gn, I pt, LI rc, LI da], I n, I d] (wr bits) (Is (.bool true) (wr bits')) := by
 have hp' := fun G => wr_frameG G hp rfl rfl rfl
 have hlow := wr_lowp bits'
 obtain ⟨o, o2, ho⟩ := wr_pair bits
 obtain ⟨q, q2, hq⟩ := wr_pair bits'
 rw [hq] at hlow
 rw [ho, hq]
 simp only [ho, hq, List.cons_append, List.nil_append] at hp'
 clear hp ho hq
 refine wlk Tryz.f38 ?_
 unhygienic intros
 (conv => cbv)
 repeat' (first | assumption | ((first | refine hk.callA (hp' _) ?_ | refine stp ?_ | refine stpB (fun _ => ?_) (fun _ => ?_)) <;> (conv => cbv)) | exact stpF | fail)
 all_goals exact hk.finI (fin_lowN 2 (Nat.le_refl 2) (Wk.refl _ _) rfl hlow ⟨rfl, rfl⟩)
theorem bBits_spec (kd vl sh : Int) (ix : List Int) (lg gn pt : Int) (rc da : List Int) (n d : Int) (bits : List Bool) (h : Heap) (hbl : bits.length < 1000000) (hb0 : bits ≠ [])
 (hp : Does PP 38 [.ptr 0 0, .agg [I kd, I vl, I sh, LI ix, I lg, I gn, I pt, LI rc, LI da], I n, I d] (wr []) (Is (.bool true) (wr bits))) :
 Does PP 16 [.agg [I kd, I vl, I sh, LI ix, I lg, I gn, I pt, LI rc, LI da], I n, I d] h (Is (I (bits.length : Nat)) h) := by
 refine pure0 ?_ rfl rfl h
 have hput : Does PP 38 [.ptr 0 0, .agg [I kd, I vl, I sh, LI ix, I lg, I gn, I pt, LI rc, LI da], I n, I d] [.box [.ls .nl .nil, .int .i64 0]] (Is (.bool true) (wr bits)) :=
  Does.ghost (GE.newRow (.il .u8 []) rfl) hp (by simp)
 have hwl : wr bits = wl bits := by cases bits with | nil => exact absurd rfl hb0 | cons a r => rfl
 have hle := lenL_spec bits
 rw [hwl] at hput
 unfold wl at hput hle
 obtain ⟨m, hm⟩ : ∃ m : Int, m = (bits.length : Nat) := ⟨_, rfl⟩
 obtain ⟨g, hg⟩ : ∃ g, g = nby bits.length := ⟨_, rfl⟩
 obtain ⟨gz, hgz⟩ : ∃ gz : Int, gz = (g : Nat) := ⟨_, rfl⟩
 obtain ⟨P, hP⟩ : ∃ g, g = pack bits := ⟨_, rfl⟩
 rw [← hm, ← hg, ← hgz, ← hP] at hput hle
 rw [← hm]
 clear hp hm hg hgz hP hwl
 have hput1 : ∀ kd2, Does PP 38 [.ptr 1 0, .agg [I kd, I vl, I sh, LI ix, I lg, I gn, I pt, LI rc, LI da], I n, I d] [.box [I kd2, I vl, I sh, LI ix, I lg, I gn, I pt, LI rc, LI da], .box [.ls .nl .nil, .int .i64 0]] (Is (.bool true) [.box [I kd2, I vl, I sh, LI ix, I lg, I gn, I pt, LI rc, LI da], .box [.sl 2 g 0 gz, I m], .rw g (.il .u8 P)]) := fun kd2 =>
  hput.renI [1] rfl (by decide) rfl ⟨rfl, trivial⟩ rfl rfl rfl rfl rfl rfl
 have hle1 : ∀ kd2, Does PP 39 [.ptr 1 0] [.box [I kd2, I vl, I sh, LI ix, I lg, I gn, I pt, LI rc, LI da], .box [.sl 2 g 0 gz, I m], .rw g (.il .u8 P)] (Is (I m) [.box [I kd2, I vl, I sh, LI ix, I lg, I gn, I pt, LI rc, LI da], .box [.sl 2 g 0 gz, I m], .rw g (.il .u8 P)]) := fun kd2 =>
  hle.renI [1, 2] rfl (by decide) rfl ⟨rfl, rfl, trivial⟩ rfl rfl rfl rfl rfl rfl
 refine wlk Tryz.f16 ?_
 unhygienic intros
 (conv => cbv)
 repeat' (first | assumption | ((first | refine hk.callA (hput1 _) ?_ | refine hk.callA (hle1 _) ?_ | refine stp ?_ | refine stpB (fun _ => ?_) (fun _ => ?_)) <;> (conv => cbv)) | exact stpF | fail)
 all_goals first
  | exact hk.fin0 rfl rfl (Wk.refl _ _)
  | skip
theorem rBits_spec (kd vl sh : Int) (ix : List Int) (lg gn pt : Int) (rc da : List Int) (d : Int) (h : Heap) (hd0 : 0 ≤ d) (hd1 : d ≤ 26) (hda : da.length ≤ 1024) (hkd : kd = 0 ∨ kd = 1 ∨ kd = 3) :
 Does PP 24 [.agg [I kd, I vl, I sh, LI ix, I lg, I gn, I pt, LI rc, LI da], I d] h (Is (I (if kd = 1 then 2 + d else if kd = 3 then 2 + d * (da.length : Nat) else 2)) h) := by
 obtain ⟨n, hn⟩ : ∃ n : Int, n = (da.length : Nat) := ⟨_, rfl⟩
 rw [← hn]
 obtain ⟨q, hq⟩ : ∃ q, q = d * n := ⟨_, rfl⟩
 rw [← hq]
 have hq1 : 0 ≤ q ∧ q ≤ 26 * 1024 := by
  rw [hq]
  exact ⟨Int.mul_nonneg hd0 (by omega), Int.mul_le_mul hd1 (by omega) (by omega) (by omega)⟩
 refine pure0 ?_ rfl rfl h
 rcases hkd with e | e | e
 all_goals
  subst e
  try simp only [if_true, if_false, show ¬ ((0 : Int) = 1) by decide, show ¬ ((0 : Int) = 3) by decide, show ¬ ((3 : Int) = 1) by decide]
  refine wlk Tryz.f24 ?_
  unhygienic intros
  have hln : lnI da = n := by rw [hk.lnI_eq]; omega
  have hm : i2 .mul .i64 d n = q := by rw [hk.mul64 _ _ (by omega) (by omega)]; exact hq.symm
  have ha : i2 .add .i64 2 q = 2 + q := hk.add64 _ _ (by omega) (by omega)
  have ha2 : i2 .add .i64 2 d = 2 + d := hk.add64 _ _ (by omega) (by omega)
  (conv => cbv)
  repeat' (first | assumption | ((first | rw [hln] | rw [hm] | rw [ha] | rw [ha2] | refine stp ?_ | refine stpB (fun _ => ?_) (fun _ => ?_)) <;> (conv => cbv)) | exact stpF | fail)
  all_goals first
   | exact hk.fin0 rfl rfl (Wk.refl _ _)
   | skip
end Go.Proofs.YtoeekjddeknmbaaGreat
