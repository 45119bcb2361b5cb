/-
  Contracts of functions of the program, proved over the abstract machine of the Al texts.
-/
import Derived.Test.YtnnpookoencpnaaTryTab
import Derived.Test.YtnnpookoencpnaaAl4
import Derived.Test.YtnnpookoencpnaaBase
import Derived.Test.YtnnpookoencpnaaRkX
import Derived.Test.YtnnpookoencpnaaPpX
import Derived.Test.YtnnpookoencpnaaBsX1
import Derived.Test.YtnnpookoencpnaaBsX8
set_option maxHeartbeats 4000000
set_option maxRecDepth 20000
set_option linter.unusedSimpArgs false
set_option linter.unusedVariables false
open Go Go.AL
namespace Go.Proofs.Ytnnpookoencpnaa
theorem and_mask (v n : Nat) (h : v < 18446744073709551616) (hn : n ≤ 63) : rI2 .and .u64 (v : Int) (((2 ^ n - 1 : Nat)) : Int) = ((v % 2 ^ n : Nat) : Int) := by
  have hp : 2 ^ n ≤ 2 ^ 63 := Nat.pow_le_pow_right (by decide) hn
  have hp2 : 0 < 2 ^ n := Nat.pow_pos (by decide)
  have e : (BitVec.ofInt 64 (v : Int) &&& BitVec.ofInt 64 (((2 ^ n - 1 : Nat)) : Int)).toNat = v % 2 ^ n := by
    rw [BitVec.toNat_and, BitVec.toNat_ofInt, BitVec.toNat_ofInt]
    have e1 : ((v : Int) % ((2 ^ 64 : Nat) : Int)).toNat = v := by omega
    have e2 : ((((2 ^ n - 1 : Nat)) : Int) % ((2 ^ 64 : Nat) : Int)).toNat = 2 ^ n - 1 := by omega
    rw [e1, e2, Nat.and_two_pow_sub_one_eq_mod]
  have hm : v % 2 ^ n < 18446744073709551616 := Nat.lt_of_le_of_lt (Nat.mod_le _ _) h
  have : rI2 .and .u64 (v : Int) (((2 ^ n - 1 : Nat)) : Int) = IntKind.wrap .u64 (((BitVec.ofInt 64 (v : Int) &&& BitVec.ofInt 64 (((2 ^ n - 1 : Nat)) : Int)).toNat : Nat) : Int) := rfl
  rw [this, e]
  exact wrapu64 (by omega) (by omega)
theorem shl_one : ∀ k : Nat, k < 48 → rI2 .shl .i64 1 (k : Int) = 2 ^ k ∧ rI2 .shl .i64 (-1) (k : Int) = -2 ^ k := by decide
theorem shl_mask : ∀ k : Nat, k < 49 → rI2 .shl .u64 1 (k : Int) = ((2 ^ k : Nat) : Int) := by decide
/-- A number in two's complement. -/
def sb (v n : Int) : List Bool := bitsOf (v % 2 ^ n.toNat).toNat n.toNat
theorem sb_len (v n : Int) : (sb v n).length = n.toNat := bitsOf_len _ _
theorem wsigned_spec (bits : List Bool) (v n : Int) (hl : bits.length < 1000000000000) (h1 : 1 ≤ n) (h2 : n ≤ 48) (hv : -2 ^ (n - 1).toNat ≤ v) (hv2 : v < 2 ^ (n - 1).toNat) :
    Does PP 116 [.ptr 0 0, I v, I n] (wr bits) (Is (.bool true) (wr (bits ++ sb v n))) := by
  have hp48 : (2 : Int) ^ n.toNat ≤ 2 ^ 48 := by
    have := Nat.pow_le_pow_right (n := 2) (by decide) (show n.toNat ≤ 48 by omega)
    exact Int.ofNat_le.2 this
  have hp0 : (0 : Int) < 2 ^ n.toNat := Int.pow_pos (by decide)
  have hpn : ((2 ^ n.toNat : Nat) : Int) = 2 ^ n.toNat := by simp
  obtain ⟨M, hM⟩ : ∃ M : Int, M = v % 2 ^ n.toNat := ⟨_, rfl⟩
  have hM0 : 0 ≤ M := by rw [hM]; exact Int.emod_nonneg _ (by omega)
  have hM1 : M < 2 ^ n.toNat := by rw [hM]; exact Int.emod_lt_of_pos _ hp0
  have hput := put_spec bits M n hl (by omega) h2 hM0 hM1
  rw [show bitsOf M.toNat n.toNat = sb v n by rw [sb, hM]] at hput
  obtain ⟨k, hkn⟩ : ∃ k : Nat, n - 1 = k := ⟨(n - 1).toNat, by omega⟩
  have hk48 : k < 48 := by omega
  obtain ⟨s1, s2⟩ := shl_one k hk48
  have s3 := shl_mask n.toNat (by omega)
  rw [hkn] at hv hv2
  simp only [Int.toNat_natCast] at hv hv2
  have hpk : (2 : Int) ^ k ≤ 2 ^ 47 := by
    have := Nat.pow_le_pow_right (n := 2) (by decide) (show k ≤ 47 by omega)
    exact Int.ofNat_le.2 this
  have hpk0 : (0 : Int) < 2 ^ k := Int.pow_pos (by decide)
  obtain ⟨Q, hQ⟩ : ∃ Q : Int, Q = 2 ^ k := ⟨_, rfl⟩
  rw [← hQ] at hv hv2 hpk hpk0 s1 s2
  have hmask : rI2 .and .u64 (v % 18446744073709551616) (2 ^ n.toNat - 1) = M := by
    have e1 : (2 : Int) ^ n.toNat - 1 = ((2 ^ n.toNat - 1 : Nat) : Int) := by
      have : 0 < 2 ^ n.toNat := Nat.pow_pos (by decide)
      omega
    have e2 : v % 18446744073709551616 = (((v % 18446744073709551616).toNat : Nat) : Int) := by omega
    rw [e1, e2, and_mask _ _ (by omega) (by omega), hM]
    rw [Int.natCast_emod, ← e2, hpn]
    have hd : (2 : Int) ^ n.toNat ∣ 18446744073709551616 := by
      have : (2 : Int) ^ 64 = 18446744073709551616 := by decide
      rw [← this]
      exact ⟨2 ^ (64 - n.toNat), by rw [← Int.pow_add, show n.toNat + (64 - n.toNat) = 64 by omega]⟩
    exact Int.emod_emod_of_dvd v hd
  obtain ⟨W, hW⟩ : ∃ W : Int, W = 2 ^ n.toNat := ⟨_, rfl⟩
  rw [← hW] at hp48 hp0 hmask
  have s3 : rI2 .shl .u64 1 n = W := by rw [show n = ((n.toNat : Nat) : Int) by omega, s3, hpn, hW]
  obtain ⟨H0, hH0⟩ : ∃ H, H = wr bits := ⟨_, rfl⟩
  obtain ⟨H1, hH1⟩ : ∃ H, H = wr (bits ++ sb v n) := ⟨_, rfl⟩
  rw [← hH0, ← hH1] at hput
  rw [← hH0, ← hH1]
  clear hH0 hH1 hW hM1 hM hpn
  refine doesF P_ok Try.f116 (by kernel_rfl) (by kernel_rfl) ?_
  intro i2 c2 u1 cv mx mn ad sbt bn bq ba lnI gtI apI sbI stI rpI lnG gtG apG sbG stG rpG fi fb fs fl fg fc sln sgt sap ssb sc b2s s2b nd call calld callv callvd loop rfun fin hk
  have hn1 : i2 .sub .i64 n 1 = (k : Int) := by rw [hk.sub64 _ _ (by omega) (by omega)]; exact hkn
  obtain ⟨K, hK⟩ : ∃ K : Int, K = (k : Int) := ⟨_, rfl⟩
  have hK0 : 0 ≤ K := by omega
  rw [← hK] at hn1 s1 s2
  have t1 : i2 .shl .i64 1 K = Q := by rw [hk.i2_eq]; exact s1
  have t2 : i2 .shl .i64 (-1) K = -Q := by rw [hk.i2_eq]; exact s2
  have t3 : i2 .shl .u64 1 n = W := by rw [hk.i2_eq]; exact s3
  have t4 : i2 .sub .u64 W 1 = W - 1 := by rw [hk.i2_sub]; exact wrapu64 (by omega) (by omega)
  have t5 : cv .u64 v = v % 18446744073709551616 := by rw [hk.cv_eq]; rfl
  have t6 : i2 .and .u64 (v % 18446744073709551616) (W - 1) = M := by rw [hk.i2_eq]; exact hmask
  obtain ⟨NQ, hNQ⟩ : ∃ x, x = -Q := ⟨_, rfl⟩
  obtain ⟨W1, hW1⟩ : ∃ x, x = W - 1 := ⟨_, rfl⟩
  obtain ⟨V, hV⟩ : ∃ x, x = v % 18446744073709551616 := ⟨_, rfl⟩
  rw [← hNQ] at t2
  rw [← hW1] at t4 t6
  rw [← hV] at t5 t6
  clear hmask hV hK hkn s1 s2 s3
  (conv => cbv)
  repeat' (first
    | assumption
    | (rw [hn1]; (conv => cbv))
    | (rw [t2]; (conv => cbv))
    | (rw [t1]; (conv => cbv))
    | (rw [t3]; (conv => cbv))
    | (rw [t4]; (conv => cbv))
    | (rw [t5]; (conv => cbv))
    | (rw [t6]; (conv => cbv))
    | (refine hk.callA hput ?_; (conv => cbv))
    | (refine hk.brLssT (by omega) ?_; (conv => cbv))
    | (refine hk.brLssF (by omega) ?_; (conv => cbv))
    | (refine hk.brLeqT (by omega) ?_; (conv => cbv))
    | (refine hk.brLeqF (by omega) ?_; (conv => cbv))
    | (refine hk.brGtrT (by omega) ?_; (conv => cbv))
    | (refine hk.brGtrF (by omega) ?_; (conv => cbv))
    | (refine hk.brGeqT (by omega) ?_; (conv => cbv))
    | (refine hk.brGeqF (by omega) ?_; (conv => cbv))
    | (refine hk.brEqlT (by omega) ?_; (conv => cbv))
    | (refine hk.brEqlF (by omega) ?_; (conv => cbv))
    | (refine hk.brNeqT (by omega) ?_; (conv => cbv))
    | (refine hk.brNeqF (by omega) ?_; (conv => cbv))
    | (refine hk.brLss (fun _ => ?_) (fun _ => ?_) <;> (conv => cbv))
    | (refine hk.brLeq (fun _ => ?_) (fun _ => ?_) <;> (conv => cbv))
    | (refine hk.brGtr (fun _ => ?_) (fun _ => ?_) <;> (conv => cbv))
    | (refine hk.brGeq (fun _ => ?_) (fun _ => ?_) <;> (conv => cbv))
    | (refine hk.brEql (fun _ => ?_) (fun _ => ?_) <;> (conv => cbv))
    | (refine hk.brNeq (fun _ => ?_) (fun _ => ?_) <;> (conv => cbv))
    | (refine hk.brNotT ?_; (conv => cbv))
    | (refine hk.brNotF ?_; (conv => cbv))
    | (refine hk.brNotS _ (by simp [hk.c2_lss, hk.c2_leq, hk.c2_gtr, hk.c2_geq, hk.c2_eql, hk.c2_neq, hk.bn_eq, hk.bq_eq]; rfl) ?_; (conv => cbv))
    | (refine hk.brBqS _ (by simp [hk.c2_lss, hk.c2_leq, hk.c2_gtr, hk.c2_geq, hk.c2_eql, hk.c2_neq, hk.bn_eq, hk.bq_eq]; rfl) ?_; (conv => cbv))
    | (refine hk.idxI (by first | omega | assumption) (by first | omega | assumption) ?_; (conv => cbv))
    | (refine hk.nzI (by first | omega | assumption | decide) ?_; (conv => cbv))
    | (refine hk.ge0I (by first | omega | assumption) ?_; (conv => cbv))
    | (refine hk.needI (by first | (simp only [rNd, hk.sb_eq, hk.ad_eq]; omega) | (simp [rNd, hk.sb_eq, hk.ad_eq]; omega)) ?_; (conv => cbv))
    | (refine hk.callA (by assumption) ?_; (conv => cbv))
    | (refine hk.calldA (by assumption) ?_; (conv => cbv))
    | (rw [hk.sb0]; (conv => cbv))
    | (rw [hk.ad0]; (conv => cbv))
    | exact hk.finB (by first | rfl | (simp [hk.c2_lss, hk.c2_leq, hk.c2_gtr, hk.c2_geq, hk.c2_eql, hk.c2_neq, hk.bn_eq, hk.bq_eq]; done) | assumption)
    | exact hk.fin1 rfl)
end Go.Proofs.Ytnnpookoencpnaa
set_option maxHeartbeats 4000000
set_option maxRecDepth 20000
set_option linter.unusedSimpArgs false
set_option linter.unusedVariables false
open Go Go.AL
namespace Go.Proofs.Ytnnpookoencpnaa
def sbs (n : Int) (l : List Int) : List Bool := (l.map fun v => sb v n).flatten
theorem sbs_len (n : Int) (l : List Int) : (sbs n l).length = n.toNat * l.length := by
  unfold sbs
  induction l with
  | nil => simp
  | cons a r ih => simp only [List.map_cons, List.flatten_cons, List.length_append, sb_len, ih, List.length_cons, Nat.mul_add, Nat.mul_one]; omega
theorem sbs_step (n : Int) (l : List Int) (i : Nat) (h : i < l.length) : sbs n (l.take (i + 1)) = sbs n (l.take i) ++ sb (l.getD i 0) n := by
  unfold sbs
  rw [List.take_add_one, List.map_append, List.flatten_append]
  simp [List.getD, h]
theorem signed_spec (bits : List Bool) (l : List Int) (n : Int) (hl : bits.length < 1000000) (hll : l.length ≤ 1024) (h1 : 1 ≤ n) (h2 : n ≤ 48) (hv : ∀ i, i < l.length → -2 ^ (n - 1).toNat ≤ l.getD i 0 ∧ l.getD i 0 < 2 ^ (n - 1).toNat) :
    Does PP 117 [.ptr 0 0, LI l, I n] (wr bits) (Is (.tup []) (wr (bits ++ sbs n l))) := by
  obtain ⟨N, hN⟩ : ∃ N : Int, N = (l.length : Nat) := ⟨_, rfl⟩
  obtain ⟨H, hH⟩ : ∃ H : Int → Heap, ∀ i, H i = wr (bits ++ sbs n (l.take i.toNat)) := ⟨_, fun _ => rfl⟩
  have hsg : ∀ i : Int, 0 ≤ i → i < N → Does PP 116 [.ptr 0 0, I (l.getD i.toNat 0), I n] (H i) (Is (.bool true) (H (i + 1))) := fun i a b => by
    obtain ⟨c, d⟩ := hv i.toNat (by omega)
    have hb : (bits ++ sbs n (l.take i.toNat)).length < 1000000000000 := by
      rw [List.length_append, sbs_len, List.length_take]
      have : n.toNat * min i.toNat l.length ≤ 48 * 1024 := Nat.mul_le_mul (by omega) (by omega)
      omega
    have := wsigned_spec (bits ++ sbs n (l.take i.toNat)) (l.getD i.toNat 0) n hb h1 h2 c d
    rw [List.append_assoc, ← sbs_step n l _ (by omega)] at this
    rw [hH, hH, show (i + 1).toNat = i.toNat + 1 by omega]
    exact this
  have hH0 : wr bits = H 0 := by rw [hH]; simp [sbs]
  have hHN : wr (bits ++ sbs n l) = H N := by rw [hH, hN]; simp
  rw [hH0, hHN]
  clear hH hH0 hHN hv
  refine doesF P_ok Try.f117 (by kernel_rfl) (by kernel_rfl) ?_
  intro i2 c2 u1 cv mx mn ad sbt bn bq ba lnI gtI apI sbI stI rpI lnG gtG apG sbG stG rpG fi fb fs fl fg fc sln sgt sap ssb sc b2s s2b nd call calld callv callvd loop rfun fin hk
  have hln : lnI l = N := by rw [hk.lnI_eq]; omega
  have hgt := hk.gtI_eq l
  (conv => cbv)
  repeat' (first
    | assumption
    | (rw [hln]; (conv => cbv))
    | (refine hk.brLssT (by omega) ?_; (conv => cbv))
    | (refine hk.brLssF (by omega) ?_; (conv => cbv))
    | (refine hk.brLeqT (by omega) ?_; (conv => cbv))
    | (refine hk.brLeqF (by omega) ?_; (conv => cbv))
    | (refine hk.brGtrT (by omega) ?_; (conv => cbv))
    | (refine hk.brGtrF (by omega) ?_; (conv => cbv))
    | (refine hk.brGeqT (by omega) ?_; (conv => cbv))
    | (refine hk.brGeqF (by omega) ?_; (conv => cbv))
    | (refine hk.brEqlT (by omega) ?_; (conv => cbv))
    | (refine hk.brEqlF (by omega) ?_; (conv => cbv))
    | (refine hk.brNeqT (by omega) ?_; (conv => cbv))
    | (refine hk.brNeqF (by omega) ?_; (conv => cbv))
    | (refine hk.brLss (fun _ => ?_) (fun _ => ?_) <;> (conv => cbv))
    | (refine hk.brLeq (fun _ => ?_) (fun _ => ?_) <;> (conv => cbv))
    | (refine hk.brGtr (fun _ => ?_) (fun _ => ?_) <;> (conv => cbv))
    | (refine hk.brGeq (fun _ => ?_) (fun _ => ?_) <;> (conv => cbv))
    | (refine hk.brEql (fun _ => ?_) (fun _ => ?_) <;> (conv => cbv))
    | (refine hk.brNeq (fun _ => ?_) (fun _ => ?_) <;> (conv => cbv))
    | (refine hk.brNotT ?_; (conv => cbv))
    | (refine hk.brNotF ?_; (conv => cbv))
    | (refine hk.brNotS _ (by simp [hk.c2_lss, hk.c2_leq, hk.c2_gtr, hk.c2_geq, hk.c2_eql, hk.c2_neq, hk.bn_eq, hk.bq_eq]; rfl) ?_; (conv => cbv))
    | (refine hk.brBqS _ (by simp [hk.c2_lss, hk.c2_leq, hk.c2_gtr, hk.c2_geq, hk.c2_eql, hk.c2_neq, hk.bn_eq, hk.bq_eq]; rfl) ?_; (conv => cbv))
    | (refine hk.idxI (by first | omega | assumption) (by first | omega | assumption) ?_; (conv => cbv))
    | (refine hk.nzI (by first | omega | assumption | decide) ?_; (conv => cbv))
    | (refine hk.ge0I (by first | omega | assumption) ?_; (conv => cbv))
    | (refine hk.needI (by first | (simp only [rNd, hk.sb_eq, hk.ad_eq]; omega) | (simp [rNd, hk.sb_eq, hk.ad_eq]; omega)) ?_; (conv => cbv))
    | (refine hk.callA (by assumption) ?_; (conv => cbv))
    | (refine hk.calldA (by assumption) ?_; (conv => cbv))
    | (rw [hk.sb0]; (conv => cbv))
    | (rw [hk.ad0]; (conv => cbv))
    | exact hk.finB (by first | rfl | (simp [hk.c2_lss, hk.c2_leq, hk.c2_gtr, hk.c2_geq, hk.c2_eql, hk.c2_neq, hk.bn_eq, hk.bq_eq]; done) | assumption)
    | exact hk.fin1 rfl)
  refine hk.loopI (loop_rule (α := Int) (fun i => [(0, .ptr 0 0), (2, .int .i64 n), (8, .ls (.il .i64 l) .any), (9, .int .i64 N), (10, .int .i64 i)]) (fun i => H i)
    (fun i => 0 ≤ i ∧ i ≤ N) (fun i => (N - i).toNat) 0 ⟨by omega, by omega⟩ ?_ ?_)
  · exact Gh.tm (by repeat (first | exact Holds.nil _ _ | refine Holds.cons (Wk.refl _ _) ?_))
  intro i ⟨hi, hi2⟩ Q' hb hx hr
  by_cases hin : i < N
  · obtain ⟨x, hx0⟩ : ∃ x, x = gtI l i := ⟨_, rfl⟩
    have hsg := hsg i hi hin
    rw [← hgt, ← hx0] at hsg
    obtain ⟨H1, hH1⟩ : ∃ x, x = H (i + 1) := ⟨_, rfl⟩
    rw [← hH1] at hsg
    (conv => cbv)
    repeat' (first
      | assumption
      | (rw [hln]; (conv => cbv))
      | (refine hk.idxI hi hin ?_; (conv => cbv))
      | (rw [← hx0]; (conv => cbv))
      | (refine hk.callA hsg ?_; (conv => cbv))
      | (refine hk.brLssT (by omega) ?_; (conv => cbv))
      | (refine hk.brLssF (by omega) ?_; (conv => cbv))
      | (refine hk.brLeqT (by omega) ?_; (conv => cbv))
      | (refine hk.brLeqF (by omega) ?_; (conv => cbv))
      | (refine hk.brGtrT (by omega) ?_; (conv => cbv))
      | (refine hk.brGtrF (by omega) ?_; (conv => cbv))
      | (refine hk.brGeqT (by omega) ?_; (conv => cbv))
      | (refine hk.brGeqF (by omega) ?_; (conv => cbv))
      | (refine hk.brEqlT (by omega) ?_; (conv => cbv))
      | (refine hk.brEqlF (by omega) ?_; (conv => cbv))
      | (refine hk.brNeqT (by omega) ?_; (conv => cbv))
      | (refine hk.brNeqF (by omega) ?_; (conv => cbv))
      | (refine hk.brLss (fun _ => ?_) (fun _ => ?_) <;> (conv => cbv))
      | (refine hk.brLeq (fun _ => ?_) (fun _ => ?_) <;> (conv => cbv))
      | (refine hk.brGtr (fun _ => ?_) (fun _ => ?_) <;> (conv => cbv))
      | (refine hk.brGeq (fun _ => ?_) (fun _ => ?_) <;> (conv => cbv))
      | (refine hk.brEql (fun _ => ?_) (fun _ => ?_) <;> (conv => cbv))
      | (refine hk.brNeq (fun _ => ?_) (fun _ => ?_) <;> (conv => cbv))
      | (refine hk.brNotT ?_; (conv => cbv))
      | (refine hk.brNotF ?_; (conv => cbv))
      | (refine hk.brNotS _ (by simp [hk.c2_lss, hk.c2_leq, hk.c2_gtr, hk.c2_geq, hk.c2_eql, hk.c2_neq, hk.bn_eq, hk.bq_eq]; rfl) ?_; (conv => cbv))
      | (refine hk.brBqS _ (by simp [hk.c2_lss, hk.c2_leq, hk.c2_gtr, hk.c2_geq, hk.c2_eql, hk.c2_neq, hk.bn_eq, hk.bq_eq]; rfl) ?_; (conv => cbv))
      | (refine hk.idxI (by first | omega | assumption) (by first | omega | assumption) ?_; (conv => cbv))
      | (refine hk.nzI (by first | omega | assumption | decide) ?_; (conv => cbv))
      | (refine hk.ge0I (by first | omega | assumption) ?_; (conv => cbv))
      | (refine hk.needI (by first | (simp only [rNd, hk.sb_eq, hk.ad_eq]; omega) | (simp [rNd, hk.sb_eq, hk.ad_eq]; omega)) ?_; (conv => cbv))
      | (refine hk.callA (by assumption) ?_; (conv => cbv))
      | (refine hk.calldA (by assumption) ?_; (conv => cbv))
      | (rw [hk.sb0]; (conv => cbv))
      | (rw [hk.ad0]; (conv => cbv))
      | exact hk.finB (by first | rfl | (simp [hk.c2_lss, hk.c2_leq, hk.c2_gtr, hk.c2_geq, hk.c2_eql, hk.c2_neq, hk.bn_eq, hk.bq_eq]; done) | assumption)
      | exact hk.fin1 rfl)
    refine hb (i + 1) _ ⟨by omega, by omega⟩ (by omega) ?_
    rw [← hH1]
    refine Gh.tm ?_
    repeat' (first | exact Holds.nil _ _ | refine Holds.cons (Wk.refl _ _) ?_ | refine Holds.cons (Wk.of_eq ?_) ?_)
    all_goals first
      | (rw [← hk.add64 i 1 (by omega) (by omega)]; rfl)
      | rfl
      | skip
  · have : i = N := by omega
    subst this
    (conv => cbv)
    repeat' (first
      | assumption
      | (refine hx _ _ ?_; (conv => cbv))
      | (refine hk.brLssT (by omega) ?_; (conv => cbv))
      | (refine hk.brLssF (by omega) ?_; (conv => cbv))
      | (refine hk.brLeqT (by omega) ?_; (conv => cbv))
      | (refine hk.brLeqF (by omega) ?_; (conv => cbv))
      | (refine hk.brGtrT (by omega) ?_; (conv => cbv))
      | (refine hk.brGtrF (by omega) ?_; (conv => cbv))
      | (refine hk.brGeqT (by omega) ?_; (conv => cbv))
      | (refine hk.brGeqF (by omega) ?_; (conv => cbv))
      | (refine hk.brEqlT (by omega) ?_; (conv => cbv))
      | (refine hk.brEqlF (by omega) ?_; (conv => cbv))
      | (refine hk.brNeqT (by omega) ?_; (conv => cbv))
      | (refine hk.brNeqF (by omega) ?_; (conv => cbv))
      | (refine hk.brLss (fun _ => ?_) (fun _ => ?_) <;> (conv => cbv))
      | (refine hk.brLeq (fun _ => ?_) (fun _ => ?_) <;> (conv => cbv))
      | (refine hk.brGtr (fun _ => ?_) (fun _ => ?_) <;> (conv => cbv))
      | (refine hk.brGeq (fun _ => ?_) (fun _ => ?_) <;> (conv => cbv))
      | (refine hk.brEql (fun _ => ?_) (fun _ => ?_) <;> (conv => cbv))
      | (refine hk.brNeq (fun _ => ?_) (fun _ => ?_) <;> (conv => cbv))
      | (refine hk.brNotT ?_; (conv => cbv))
      | (refine hk.brNotF ?_; (conv => cbv))
      | (refine hk.brNotS _ (by simp [hk.c2_lss, hk.c2_leq, hk.c2_gtr, hk.c2_geq, hk.c2_eql, hk.c2_neq, hk.bn_eq, hk.bq_eq]; rfl) ?_; (conv => cbv))
      | (refine hk.brBqS _ (by simp [hk.c2_lss, hk.c2_leq, hk.c2_gtr, hk.c2_geq, hk.c2_eql, hk.c2_neq, hk.bn_eq, hk.bq_eq]; rfl) ?_; (conv => cbv))
      | (refine hk.idxI (by first | omega | assumption) (by first | omega | assumption) ?_; (conv => cbv))
      | (refine hk.nzI (by first | omega | assumption | decide) ?_; (conv => cbv))
      | (refine hk.ge0I (by first | omega | assumption) ?_; (conv => cbv))
      | (refine hk.needI (by first | (simp only [rNd, hk.sb_eq, hk.ad_eq]; omega) | (simp [rNd, hk.sb_eq, hk.ad_eq]; omega)) ?_; (conv => cbv))
      | (refine hk.callA (by assumption) ?_; (conv => cbv))
      | (refine hk.calldA (by assumption) ?_; (conv => cbv))
      | (rw [hk.sb0]; (conv => cbv))
      | (rw [hk.ad0]; (conv => cbv))
      | exact hk.finB (by first | rfl | (simp [hk.c2_lss, hk.c2_leq, hk.c2_gtr, hk.c2_geq, hk.c2_eql, hk.c2_neq, hk.bn_eq, hk.bq_eq]; done) | assumption)
      | exact hk.fin1 rfl)
end Go.Proofs.Ytnnpookoencpnaa
set_option maxHeartbeats 4000000
set_option maxRecDepth 20000
set_option linter.unusedSimpArgs false
set_option linter.unusedVariables false
open Go Go.AL
namespace Go.Proofs.Ytnnpookoencpnaa
/-- What writes leaves what lies behind the writer. -/
theorem wr_frameG {f : FuncId} {args : List AVal} {r : AVal} {bits bits' : List Bool} (G : Heap) (hd : Does PP f args (wr bits) (Is r (wr bits'))) (ha : lows 2 args = true)
    (ea : rns (rho [0, 1] (2 + G.length)) args = args) (er : Go.AL.rn (rho [0, 1] (2 + G.length)) r = r) : Does PP f args (wr bits ++ G) (Is r (wr bits' ++ G)) := by
  have hN : (wr bits ++ G).length = 2 + G.length := by cases bits <;> simp [wr, wl] <;> omega
  refine hd.renI [0, 1] (by cases bits <;> rfl) (by decide) (by rw [hN]; simp [Nat.blt_eq]; omega) (by rw [hN]; cases bits <;> exact ⟨rfl, rfl, trivial⟩) (by cases bits <;> exact ha) (by cases bits <;> rfl) (by cases bits' <;> rfl) (by rw [hN]; exact ea) (by rw [hN]; exact er) ?_
  rw [hN]
  cases bits <;> cases bits' <;> simp [wr, wl, putH, rnos, rno, rns, Go.AL.rn, rho]
theorem wr_pair (bits : List Bool) : ∃ o o2, wr bits = [o, o2] := by cases bits <;> exact ⟨_, _, rfl⟩
theorem wr_lowp (bits : List Bool) : lowOs 2 (wr bits) = true := by cases bits <;> rfl
def pbits (kd vl : Int) (da : List Int) (d : Int) : List Bool := bitsOf kd.toNat 2 ++ (if kd = 1 then sb vl d else if kd = 3 then sbs d da else [])
theorem bput_spec (kd vl sh : Int) (ix : List Int) (lg gn pt : Int) (rc da : List Int) (d : Int) (bits : List Bool) (hb : bits.length < 900000) (hkd : kd = 0 ∨ kd = 1 ∨ kd = 3) (h3 : 8 ≤ d) (h4 : d ≤ 26)
    (hv : kd = 1 → -2 ^ (d - 1).toNat ≤ vl ∧ vl < 2 ^ (d - 1).toNat) (hda : kd = 3 → ∀ i, i < da.length → -2 ^ (d - 1).toNat ≤ da.getD i 0 ∧ da.getD i 0 < 2 ^ (d - 1).toNat) (hdl : da.length ≤ 1024) :
    Does PP 86 [.ptr 0 0, .agg [I kd, I vl, I sh, LI ix, I lg, I gn, I pt, LI rc, LI da], I d] (wr bits) (Is (.tup []) (wr (bits ++ pbits kd vl da d))) := by
  have hp := put_spec bits kd 2 (by omega) (by decide) (by decide) (by omega) (by rcases hkd with h | h | h <;> subst h <;> decide)
  obtain ⟨b1, hb1⟩ : ∃ b, b = bits ++ bitsOf kd.toNat 2 := ⟨_, rfl⟩
  have e0 : bitsOf kd.toNat (Int.toNat 2) = bitsOf kd.toNat 2 := rfl
  rw [e0, ← hb1] at hp
  have hb1l : b1.length < 1000000 := by rw [hb1, List.length_append, bitsOf_len]; omega
  have hpb : bits ++ pbits kd vl da d = b1 ++ (if kd = 1 then sb vl d else if kd = 3 then sbs d da else []) := by rw [pbits, hb1, List.append_assoc]
  rw [hpb]
  obtain ⟨o, o2, ho⟩ := wr_pair bits
  obtain ⟨p, p2, hp2⟩ := wr_pair b1
  have hp' := fun G => wr_frameG G hp rfl rfl rfl
  have hlow1 := wr_lowp b1
  rcases hkd with h | h | h
  · subst h
    rw [if_neg (by decide), if_neg (by decide), List.append_nil]
    rw [hp2] at hlow1
    rw [ho, hp2]
    simp only [ho, hp2, List.cons_append, List.nil_append] at hp'
    clear hv hda hpb hp
    refine doesF P_ok Try.f86 (by kernel_rfl) (by kernel_rfl) ?_
    intro i2 c2 u1 cv mx mn ad sbt bn bq ba lnI gtI apI sbI stI rpI lnG gtG apG sbG stG rpG fi fb fs fl fg fc sln sgt sap ssb sc b2s s2b nd call calld callv callvd loop rfun fin hk
    have hc0 : cv .u64 0 = 0 := by rw [hk.cv_eq]; rfl
    (conv => cbv)
    repeat' (first
      | assumption
      | (rw [hc0]; (conv => cbv))
      | (refine hk.callA (hp' _) ?_; (conv => cbv))
      | (refine hk.brLssT (by omega) ?_; (conv => cbv))
      | (refine hk.brLssF (by omega) ?_; (conv => cbv))
      | (refine hk.brLeqT (by omega) ?_; (conv => cbv))
      | (refine hk.brLeqF (by omega) ?_; (conv => cbv))
      | (refine hk.brGtrT (by omega) ?_; (conv => cbv))
      | (refine hk.brGtrF (by omega) ?_; (conv => cbv))
      | (refine hk.brGeqT (by omega) ?_; (conv => cbv))
      | (refine hk.brGeqF (by omega) ?_; (conv => cbv))
      | (refine hk.brEqlT (by omega) ?_; (conv => cbv))
      | (refine hk.brEqlF (by omega) ?_; (conv => cbv))
      | (refine hk.brNeqT (by omega) ?_; (conv => cbv))
      | (refine hk.brNeqF (by omega) ?_; (conv => cbv))
      | (refine hk.brLss (fun _ => ?_) (fun _ => ?_) <;> (conv => cbv))
      | (refine hk.brLeq (fun _ => ?_) (fun _ => ?_) <;> (conv => cbv))
      | (refine hk.brGtr (fun _ => ?_) (fun _ => ?_) <;> (conv => cbv))
      | (refine hk.brGeq (fun _ => ?_) (fun _ => ?_) <;> (conv => cbv))
      | (refine hk.brEql (fun _ => ?_) (fun _ => ?_) <;> (conv => cbv))
      | (refine hk.brNeq (fun _ => ?_) (fun _ => ?_) <;> (conv => cbv))
      | (refine hk.brNotT ?_; (conv => cbv))
      | (refine hk.brNotF ?_; (conv => cbv))
      | (refine hk.brNotS _ (by simp [hk.c2_lss, hk.c2_leq, hk.c2_gtr, hk.c2_geq, hk.c2_eql, hk.c2_neq, hk.bn_eq, hk.bq_eq]; rfl) ?_; (conv => cbv))
      | (refine hk.brBqS _ (by simp [hk.c2_lss, hk.c2_leq, hk.c2_gtr, hk.c2_geq, hk.c2_eql, hk.c2_neq, hk.bn_eq, hk.bq_eq]; rfl) ?_; (conv => cbv))
      | (refine hk.idxI (by first | omega | assumption) (by first | omega | assumption) ?_; (conv => cbv))
      | (refine hk.nzI (by first | omega | assumption | decide) ?_; (conv => cbv))
      | (refine hk.ge0I (by first | omega | assumption) ?_; (conv => cbv))
      | (refine hk.needI (by first | (simp only [rNd, hk.sb_eq, hk.ad_eq]; omega) | (simp [rNd, hk.sb_eq, hk.ad_eq]; omega)) ?_; (conv => cbv))
      | (refine hk.callA (by assumption) ?_; (conv => cbv))
      | (refine hk.calldA (by assumption) ?_; (conv => cbv))
      | (rw [hk.sb0]; (conv => cbv))
      | (rw [hk.ad0]; (conv => cbv))
      | exact hk.finB (by first | rfl | (simp [hk.c2_lss, hk.c2_leq, hk.c2_gtr, hk.c2_geq, hk.c2_eql, hk.c2_neq, hk.bn_eq, hk.bq_eq]; done) | assumption)
      | exact hk.fin1 rfl)
    all_goals exact hk.finI (fin_lowN 2 (Nat.le_refl 2) (Wk.refl _ _) rfl hlow1 ⟨rfl, rfl⟩)
  · subst h
    rw [if_pos rfl]
    have hs := wsigned_spec b1 vl d (by omega) (by omega) (by omega) (hv rfl).1 (hv rfl).2
    have hs' := fun G => wr_frameG G hs rfl rfl rfl
    obtain ⟨q, q2, hq2⟩ := wr_pair (b1 ++ sb vl d)
    have hlow2 := wr_lowp (b1 ++ sb vl d)
    rw [hq2] at hlow2
    rw [ho, hq2]
    simp only [ho, hp2, hq2, List.cons_append, List.nil_append] at hp' hs'
    clear hv hda hpb hp hs
    refine doesF P_ok Try.f86 (by kernel_rfl) (by kernel_rfl) ?_
    intro i2 c2 u1 cv mx mn ad sbt bn bq ba lnI gtI apI sbI stI rpI lnG gtG apG sbG stG rpG fi fb fs fl fg fc sln sgt sap ssb sc b2s s2b nd call calld callv callvd loop rfun fin hk
    have hc0 : cv .u64 1 = 1 := by rw [hk.cv_eq]; rfl
    (conv => cbv)
    repeat' (first
      | assumption
      | (rw [hc0]; (conv => cbv))
      | (refine hk.callA (hp' _) ?_; (conv => cbv))
      | (refine hk.callA (hs' _) ?_; (conv => cbv))
      | (refine hk.brLssT (by omega) ?_; (conv => cbv))
      | (refine hk.brLssF (by omega) ?_; (conv => cbv))
      | (refine hk.brLeqT (by omega) ?_; (conv => cbv))
      | (refine hk.brLeqF (by omega) ?_; (conv => cbv))
      | (refine hk.brGtrT (by omega) ?_; (conv => cbv))
      | (refine hk.brGtrF (by omega) ?_; (conv => cbv))
      | (refine hk.brGeqT (by omega) ?_; (conv => cbv))
      | (refine hk.brGeqF (by omega) ?_; (conv => cbv))
      | (refine hk.brEqlT (by omega) ?_; (conv => cbv))
      | (refine hk.brEqlF (by omega) ?_; (conv => cbv))
      | (refine hk.brNeqT (by omega) ?_; (conv => cbv))
      | (refine hk.brNeqF (by omega) ?_; (conv => cbv))
      | (refine hk.brLss (fun _ => ?_) (fun _ => ?_) <;> (conv => cbv))
      | (refine hk.brLeq (fun _ => ?_) (fun _ => ?_) <;> (conv => cbv))
      | (refine hk.brGtr (fun _ => ?_) (fun _ => ?_) <;> (conv => cbv))
      | (refine hk.brGeq (fun _ => ?_) (fun _ => ?_) <;> (conv => cbv))
      | (refine hk.brEql (fun _ => ?_) (fun _ => ?_) <;> (conv => cbv))
      | (refine hk.brNeq (fun _ => ?_) (fun _ => ?_) <;> (conv => cbv))
      | (refine hk.brNotT ?_; (conv => cbv))
      | (refine hk.brNotF ?_; (conv => cbv))
      | (refine hk.brNotS _ (by simp [hk.c2_lss, hk.c2_leq, hk.c2_gtr, hk.c2_geq, hk.c2_eql, hk.c2_neq, hk.bn_eq, hk.bq_eq]; rfl) ?_; (conv => cbv))
      | (refine hk.brBqS _ (by simp [hk.c2_lss, hk.c2_leq, hk.c2_gtr, hk.c2_geq, hk.c2_eql, hk.c2_neq, hk.bn_eq, hk.bq_eq]; rfl) ?_; (conv => cbv))
      | (refine hk.idxI (by first | omega | assumption) (by first | omega | assumption) ?_; (conv => cbv))
      | (refine hk.nzI (by first | omega | assumption | decide) ?_; (conv => cbv))
      | (refine hk.ge0I (by first | omega | assumption) ?_; (conv => cbv))
      | (refine hk.needI (by first | (simp only [rNd, hk.sb_eq, hk.ad_eq]; omega) | (simp [rNd, hk.sb_eq, hk.ad_eq]; omega)) ?_; (conv => cbv))
      | (refine hk.callA (by assumption) ?_; (conv => cbv))
      | (refine hk.calldA (by assumption) ?_; (conv => cbv))
      | (rw [hk.sb0]; (conv => cbv))
      | (rw [hk.ad0]; (conv => cbv))
      | exact hk.finB (by first | rfl | (simp [hk.c2_lss, hk.c2_leq, hk.c2_gtr, hk.c2_geq, hk.c2_eql, hk.c2_neq, hk.bn_eq, hk.bq_eq]; done) | assumption)
      | exact hk.fin1 rfl)
    all_goals exact hk.finI (fin_lowN 2 (Nat.le_refl 2) (Wk.refl _ _) rfl hlow2 ⟨rfl, rfl⟩)
  · subst h
    rw [if_neg (by decide), if_pos rfl]
    have hs := signed_spec b1 da d hb1l hdl (by omega) (by omega) (hda rfl)
    have hs' := fun G => wr_frameG G hs rfl rfl rfl
    obtain ⟨q, q2, hq2⟩ := wr_pair (b1 ++ sbs d da)
    have hlow2 := wr_lowp (b1 ++ sbs d da)
    rw [hq2] at hlow2
    rw [ho, hq2]
    simp only [ho, hp2, hq2, List.cons_append, List.nil_append] at hp' hs'
    clear hv hda hpb hp hs
    refine doesF P_ok Try.f86 (by kernel_rfl) (by kernel_rfl) ?_
    intro i2 c2 u1 cv mx mn ad sbt bn bq ba lnI gtI apI sbI stI rpI lnG gtG apG sbG stG rpG fi fb fs fl fg fc sln sgt sap ssb sc b2s s2b nd call calld callv callvd loop rfun fin hk
    have hc0 : cv .u64 3 = 3 := by rw [hk.cv_eq]; rfl
    (conv => cbv)
    repeat' (first
      | assumption
      | (rw [hc0]; (conv => cbv))
      | (refine hk.callA (hp' _) ?_; (conv => cbv))
      | (refine hk.callA (hs' _) ?_; (conv => cbv))
      | (refine hk.brLssT (by omega) ?_; (conv => cbv))
      | (refine hk.brLssF (by omega) ?_; (conv => cbv))
      | (refine hk.brLeqT (by omega) ?_; (conv => cbv))
      | (refine hk.brLeqF (by omega) ?_; (conv => cbv))
      | (refine hk.brGtrT (by omega) ?_; (conv => cbv))
      | (refine hk.brGtrF (by omega) ?_; (conv => cbv))
      | (refine hk.brGeqT (by omega) ?_; (conv => cbv))
      | (refine hk.brGeqF (by omega) ?_; (conv => cbv))
      | (refine hk.brEqlT (by omega) ?_; (conv => cbv))
      | (refine hk.brEqlF (by omega) ?_; (conv => cbv))
      | (refine hk.brNeqT (by omega) ?_; (conv => cbv))
      | (refine hk.brNeqF (by omega) ?_; (conv => cbv))
      | (refine hk.brLss (fun _ => ?_) (fun _ => ?_) <;> (conv => cbv))
      | (refine hk.brLeq (fun _ => ?_) (fun _ => ?_) <;> (conv => cbv))
      | (refine hk.brGtr (fun _ => ?_) (fun _ => ?_) <;> (conv => cbv))
      | (refine hk.brGeq (fun _ => ?_) (fun _ => ?_) <;> (conv => cbv))
      | (refine hk.brEql (fun _ => ?_) (fun _ => ?_) <;> (conv => cbv))
      | (refine hk.brNeq (fun _ => ?_) (fun _ => ?_) <;> (conv => cbv))
      | (refine hk.brNotT ?_; (conv => cbv))
      | (refine hk.brNotF ?_; (conv => cbv))
      | (refine hk.brNotS _ (by simp [hk.c2_lss, hk.c2_leq, hk.c2_gtr, hk.c2_geq, hk.c2_eql, hk.c2_neq, hk.bn_eq, hk.bq_eq]; rfl) ?_; (conv => cbv))
      | (refine hk.brBqS _ (by simp [hk.c2_lss, hk.c2_leq, hk.c2_gtr, hk.c2_geq, hk.c2_eql, hk.c2_neq, hk.bn_eq, hk.bq_eq]; rfl) ?_; (conv => cbv))
      | (refine hk.idxI (by first | omega | assumption) (by first | omega | assumption) ?_; (conv => cbv))
      | (refine hk.nzI (by first | omega | assumption | decide) ?_; (conv => cbv))
      | (refine hk.ge0I (by first | omega | assumption) ?_; (conv => cbv))
      | (refine hk.needI (by first | (simp only [rNd, hk.sb_eq, hk.ad_eq]; omega) | (simp [rNd, hk.sb_eq, hk.ad_eq]; omega)) ?_; (conv => cbv))
      | (refine hk.callA (by assumption) ?_; (conv => cbv))
      | (refine hk.calldA (by assumption) ?_; (conv => cbv))
      | (rw [hk.sb0]; (conv => cbv))
      | (rw [hk.ad0]; (conv => cbv))
      | exact hk.finB (by first | rfl | (simp [hk.c2_lss, hk.c2_leq, hk.c2_gtr, hk.c2_geq, hk.c2_eql, hk.c2_neq, hk.bn_eq, hk.bq_eq]; done) | assumption)
      | exact hk.fin1 rfl)
    all_goals exact hk.finI (fin_lowN 2 (Nat.le_refl 2) (Wk.refl _ _) rfl hlow2 ⟨rfl, rfl⟩)
end Go.Proofs.Ytnnpookoencpnaa
