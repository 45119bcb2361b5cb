/-
  Contracts of functions of the program, proved over the abstract machine of the Al texts.
-/
import Derived.Test.YtfjdmgnhklpiiaaGreatTryTab
import Derived.Test.YtfjdmgnhklpiiaaGreatAl4
import Derived.Test.YtfjdmgnhklpiiaaGreatBaseX
import Derived.Test.YtfjdmgnhklpiiaaGreatPpX
import Derived.Test.YtfjdmgnhklpiiaaGreatSlX
import Derived.Test.YtfjdmgnhklpiiaaGreatTkX1
import Derived.Test.YtfjdmgnhklpiiaaGreatTkX2
import Derived.Test.YtfjdmgnhklpiiaaGreatTkX3
import Derived.Test.YtfjdmgnhklpiiaaGreatRkX
import Derived.Test.YtfjdmgnhklpiiaaGreatBsX1
import Derived.Test.YtfjdmgnhklpiiaaGreatBsX3
import Derived.Test.YtfjdmgnhklpiiaaGreatBsX4
import Derived.Test.YtfjdmgnhklpiiaaGreatBsX6
import Derived.Test.YtfjdmgnhklpiiaaGreatBsX8
set_option maxHeartbeats 4000000
set_option maxRecDepth 20000
set_option linter.unusedSimpArgs false
set_option linter.unusedVariables false
open Go Go.AL
namespace Go.Proofs.YtfjdmgnhklpiiaaGreat
def Codes (f : RS → RS) (g : RS → Int) (pr : Int → List Bool) (ok : Int → Prop) : Prop :=
  (∀ v t, ok v → f (pr v ++ t, 0) = (t, 0) ∧ g (pr v ++ t, 0) = v) ∧ (∀ s : RS, (f s).2 = 0 → s.2 = 0 ∧ ok (g s) ∧ s.1 = pr (g s) ++ (f s).1)
theorem tk_codes (n : Int) (h0 : 0 ≤ n) (h1 : n ≤ 48) : Codes (tkS n) (tkW n) (fun v => bitsOf v.toNat n.toNat) (fun v => 0 ≤ v ∧ v < 2 ^ n.toNat) := by
  refine ⟨fun v t ⟨a, b⟩ => ?_, fun s h => ?_⟩
  · have hl : (bitsOf v.toNat n.toNat).length = n.toNat := bitsOf_len _ _
    have hF : tkF (bitsOf v.toNat n.toNat ++ t) 0 n = 0 := by
      unfold tkF
      rw [if_neg (by decide), if_neg (by omega), if_neg (by rw [List.length_append, hl]; omega)]
    refine ⟨?_, ?_⟩
    · unfold tkS tkN
      simp only [hF, if_true]
      rw [List.drop_left' hl]
    · unfold tkW tkV
      simp only [hF, if_true]
      rw [List.take_left' hl, num_bitsOf]
      have : v.toNat < 2 ^ n.toNat := by
        have h2 : ((2 ^ n.toNat : Nat) : Int) = 2 ^ n.toNat := by simp
        omega
      rw [Nat.mod_eq_of_lt this]
      omega
  · obtain ⟨a, b, c, d, e⟩ := tkS_ok h
    have hlt := tkW_lt n s h0
    refine ⟨a, ⟨(tkW_range n s).1, hlt⟩, ?_⟩
    rw [d, e]
    have hl : (s.1.take n.toNat).length = n.toNat := by rw [List.length_take]; omega
    have := bitsOf_num (s.1.take n.toNat)
    rw [hl] at this
    simp only [Int.toNat_natCast]
    rw [this, List.take_append_drop]
theorem pow_half (n : Int) (h : 1 ≤ n) : (2 : Int) ^ n.toNat = 2 * 2 ^ (n - 1).toNat := by
  rw [show n.toNat = (n - 1).toNat + 1 by omega, Int.pow_succ, Int.mul_comm]
theorem sg_codes (n : Int) (h0 : 1 ≤ n) (h1 : n ≤ 48) : Codes (tkS n) (sgW n) (fun v => sb v n) (fun v => -2 ^ (n - 1).toNat ≤ v ∧ v < 2 ^ (n - 1).toNat) := by
  obtain ⟨hA, hB⟩ := tk_codes n (by omega) h1
  have hp := pow_half n h0
  have hq : (0 : Int) < 2 ^ (n - 1).toNat := Int.pow_pos (by decide)
  refine ⟨fun v t ⟨a, b⟩ => ?_, fun s h => ?_⟩
  · have hm0 : 0 ≤ v % 2 ^ n.toNat := Int.emod_nonneg _ (by omega)
    have hm1 : v % 2 ^ n.toNat < 2 ^ n.toNat := Int.emod_lt_of_pos _ (by omega)
    obtain ⟨e1, e2⟩ := hA (v % 2 ^ n.toNat) t ⟨hm0, hm1⟩
    refine ⟨e1, ?_⟩
    have e2 : tkW n (sb v n ++ t, 0) = v % 2 ^ n.toNat := e2
    unfold sgW
    rw [e2]
    clear e1 hA hB
    simp only [hp] at hm0 hm1 e2 ⊢
    clear hp
    obtain ⟨Q, hQ⟩ : ∃ Q : Int, 2 ^ (n - 1).toNat = Q := ⟨_, rfl⟩
    simp only [hQ] at *
    by_cases hv : 0 ≤ v
    · rw [Int.emod_eq_of_lt hv (by omega), if_neg (by omega)]
    · have : v % (2 * Q) = v + 2 * Q := by
        rw [← Int.add_emod_right, Int.emod_eq_of_lt (by omega) (by omega)]
      rw [this, if_pos (by omega)]
      omega
  · obtain ⟨a, ⟨b, c⟩, d⟩ := hB s h
    have hval : (sgW n s) % 2 ^ n.toNat = tkW n s ∧ -2 ^ (n - 1).toNat ≤ sgW n s ∧ sgW n s < 2 ^ (n - 1).toNat := by
      unfold sgW
      clear hA hB d
      simp only [hp] at c ⊢
      clear hp
      obtain ⟨Q, hQ⟩ : ∃ Q : Int, 2 ^ (n - 1).toNat = Q := ⟨_, rfl⟩
      simp only [hQ] at *
      by_cases hv : tkW n s ≥ Q
      · rw [if_pos hv]
        refine ⟨?_, by omega, by omega⟩
        rw [Int.sub_emod_right, Int.emod_eq_of_lt b c]
      · rw [if_neg hv]
        exact ⟨Int.emod_eq_of_lt b c, by omega, by omega⟩
    refine ⟨a, hval.2, ?_⟩
    have d' : s.1 = bitsOf (tkW n s).toNat n.toNat ++ (tkS n s).1 := d
    show s.1 = bitsOf (sgW n s % 2 ^ n.toNat).toNat n.toNat ++ (tkS n s).1
    rw [hval.1]
    exact d'
theorem zrun_put (m : Int) (t : List Bool) : ∀ (k : Nat) (j : Int), j + k ≤ m → zrun m j (List.replicate k false ++ [true] ++ t) = (j + k, t, 0)
  | 0, j, h => by simp [zrun]
  | k + 1, j, h => by
    rw [List.replicate_succ]
    show zrun m j (false :: (List.replicate k false ++ [true] ++ t)) = _
    rw [zrun, if_neg (by omega), zrun_put m t k (j + 1) (by omega)]
    congr 1
    omega
theorem zrun_get (m : Int) : ∀ (l : List Bool) (j : Int), j ≤ m → (zrun m j l).2.2 = 0 → j ≤ (zrun m j l).1 ∧ (zrun m j l).1 ≤ m ∧ l = List.replicate ((zrun m j l).1 - j).toNat false ++ [true] ++ (zrun m j l).2.1
  | [], j, hj, h => by simp [zrun] at h
  | true :: t, j, hj, h => by simp [zrun, hj]
  | false :: t, j, hj, h => by
    rw [zrun] at h ⊢
    split
    · rename_i h2; rw [if_pos h2] at h; cases h
    · rename_i h2
      rw [if_neg h2] at h
      obtain ⟨a, b, c⟩ := zrun_get m t (j + 1) (by omega) h
      refine ⟨by omega, b, ?_⟩
      rw [show ((zrun m (j + 1) t).1 - j).toNat = ((zrun m (j + 1) t).1 - (j + 1)).toNat + 1 by omega, List.replicate_succ]
      show false :: t = false :: _
      exact congrArg _ c
theorem zr_codes (m : Int) (hm : 0 ≤ m) : Codes (zrS m) (zrW m) zb (fun v => 0 ≤ v ∧ v ≤ m) := by
  refine ⟨fun v t ⟨a, b⟩ => ?_, fun s h => ?_⟩
  · have := zrun_put m t v.toNat 0 (by omega)
    have e : zrun m 0 (zb v ++ t) = (v, t, 0) := by rw [zb, this]; congr 1; omega
    refine ⟨?_, ?_⟩
    · unfold zrS; rw [if_pos rfl, e]
    · unfold zrW; rw [if_pos rfl, e]
  · have h0 : s.2 = 0 := by
      unfold zrS at h
      split at h
      · assumption
      · exact h
    unfold zrS at h ⊢
    unfold zrW
    rw [if_pos h0] at h
    rw [if_pos h0, if_pos h0]
    obtain ⟨a, b, c⟩ := zrun_get m s.1 0 hm h
    refine ⟨h0, ⟨a, b⟩, ?_⟩
    rw [Int.sub_zero] at c
    exact c
theorem foldZ_un (z : Int) (h : 0 ≤ z) : foldZ (unZ z) = z := by
  unfold foldZ unZ
  by_cases h1 : z % 2 = 1
  · rw [if_pos h1, if_pos (by omega)]; omega
  · rw [if_neg h1, if_neg (by omega)]; omega
theorem unZ_fold (v : Int) : unZ (foldZ v) = v := by
  unfold foldZ unZ
  by_cases h1 : v < 0
  · rw [if_pos h1, if_pos (by omega)]; omega
  · rw [if_neg h1, if_neg (by omega)]; omega
theorem rt_codes (k : Int) (h0 : 0 ≤ k) (h1 : k ≤ 24) : Codes (rtS k) (rtW k) (fun v => rcode v k) (fun v => -8589934592 ≤ v ∧ v < 8589934592) := by
  obtain ⟨zA, zB⟩ := zr_codes 24 (by decide)
  obtain ⟨kA, kB⟩ := tk_codes k h0 (by omega)
  obtain ⟨wA, wB⟩ := tk_codes 34 (by decide) (by decide)
  have hp0 : (0 : Int) < 2 ^ k.toNat := Int.pow_pos (by decide)
  have hpk : (2 : Int) ^ k.toNat ≤ 16777216 := by
    have := Nat.pow_le_pow_right (n := 2) (by decide) (show k.toNat ≤ 24 by omega)
    exact Int.ofNat_le.2 this
  have h34 : (2 : Int) ^ (Int.toNat 34) = 17179869184 := by decide
  have hS : ∀ s, rtS k s = if zrW 24 s < 24 then tkS k (zrS 24 s) else if tkW 34 (zrS 24 s) / 2 ^ k.toNat < 24 then gvS 2 (tkS 34 (zrS 24 s)) else tkS 34 (zrS 24 s) := fun s => if_neg (by omega)
  have hW : ∀ s, rtW k s = if (rtS k s).2 = 0 then unZ (rtZ k s) else 0 := fun _ => rfl
  refine ⟨fun v t ⟨a, b⟩ => ?_, fun s h => ?_⟩
  · obtain ⟨z0, z1⟩ := foldZ_range a b
    show rtS k (rcode v k ++ t, 0) = (t, 0) ∧ rtW k (rcode v k ++ t, 0) = v
    unfold rcode
    have hmod0 : 0 ≤ foldZ v % 2 ^ k.toNat := Int.emod_nonneg _ (by omega)
    have hmod1 : foldZ v % 2 ^ k.toNat < 2 ^ k.toNat := Int.emod_lt_of_pos _ hp0
    have hq0 : 0 ≤ foldZ v / 2 ^ k.toNat := Int.ediv_nonneg z0 (by omega)
    by_cases hq : foldZ v / 2 ^ k.toNat < 24
    · rw [if_pos hq, List.append_assoc]
      obtain ⟨e1, e2⟩ := zA (foldZ v / 2 ^ k.toNat) (bitsOf (foldZ v % 2 ^ k.toNat).toNat k.toNat ++ t) ⟨hq0, by omega⟩
      obtain ⟨e3, e4⟩ := kA (foldZ v % 2 ^ k.toNat) t ⟨hmod0, hmod1⟩
      have e5 : rtS k (zb (foldZ v / 2 ^ k.toNat) ++ (bitsOf (foldZ v % 2 ^ k.toNat).toNat k.toNat ++ t), 0) = (t, 0) := by rw [hS, e2, if_pos hq, e1]; exact e3
      refine ⟨e5, ?_⟩
      rw [hW, e5, if_pos rfl, rtZ, e2, if_pos hq, e1]
      have e4 : tkW k (bitsOf (foldZ v % 2 ^ k.toNat).toNat k.toNat ++ t, 0) = foldZ v % 2 ^ k.toNat := e4
      rw [e4, Int.mul_comm, Int.mul_ediv_add_emod]
      exact unZ_fold v
    · rw [if_neg hq, List.append_assoc]
      obtain ⟨e1, e2⟩ := zA 24 (bitsOf (foldZ v).toNat 34 ++ t) ⟨by decide, by decide⟩
      obtain ⟨e3, e4⟩ := wA (foldZ v) t ⟨z0, by omega⟩
      have e3 : tkS 34 (bitsOf (foldZ v).toNat 34 ++ t, 0) = (t, 0) := e3
      have e4 : tkW 34 (bitsOf (foldZ v).toNat 34 ++ t, 0) = foldZ v := e4
      have e5 : rtS k (zb 24 ++ (bitsOf (foldZ v).toNat 34 ++ t), 0) = (t, 0) := by rw [hS, e2, if_neg (by decide), e1, e4, if_neg hq, e3]
      refine ⟨e5, ?_⟩
      rw [hW, e5, if_pos rfl, rtZ, e2, if_neg (by decide), e1, e4]
      exact unZ_fold v
  · have hw := hW s
    rw [if_pos h] at hw
    have hz : rtZ k s = if zrW 24 s < 24 then zrW 24 s * 2 ^ k.toNat + tkW k (zrS 24 s) else tkW 34 (zrS 24 s) := rfl
    rw [hS] at h ⊢
    by_cases hq : zrW 24 s < 24
    · rw [if_pos hq] at h hz ⊢
      obtain ⟨b1, ⟨b2, b3⟩, b4⟩ := kB _ h
      obtain ⟨c1, ⟨c2, c3⟩, c4⟩ := zB s b1
      have hdiv : rtZ k s / 2 ^ k.toNat = zrW 24 s := by
        rw [hz, Int.add_comm, Int.add_mul_ediv_right _ _ (by omega), Int.ediv_eq_zero_of_lt b2 b3, Int.zero_add]
      have hmod : rtZ k s % 2 ^ k.toNat = tkW k (zrS 24 s) := by
        rw [hz, Int.add_comm, Int.add_mul_emod_self_right, Int.emod_eq_of_lt b2 b3]
      have hz0 : 0 ≤ rtZ k s := by
        rw [hz]
        have := Int.mul_nonneg c2 (show (0 : Int) ≤ 2 ^ k.toNat by omega)
        omega
      have hz1 : rtZ k s < 17179869184 := by
        rw [hz]
        have : zrW 24 s * 2 ^ k.toNat ≤ 23 * 16777216 := Int.le_trans (Int.mul_le_mul_of_nonneg_right (show zrW 24 s ≤ 23 by omega) (by omega)) (Int.mul_le_mul_of_nonneg_left hpk (by decide))
        omega
      refine ⟨c1, ?_, ?_⟩
      · rw [hw]; unfold unZ; split <;> omega
      · show s.1 = rcode (rtW k s) k ++ _
        unfold rcode
        rw [hw, foldZ_un _ hz0, hdiv, hmod, if_pos hq, List.append_assoc, ← b4]
        exact c4
    · rw [if_neg hq] at h hz ⊢
      by_cases hq2 : tkW 34 (zrS 24 s) / 2 ^ k.toNat < 24
      · rw [if_pos hq2] at h
        unfold gvS at h
        simp only at h
        split at h
        · exact absurd h (by decide)
        · exact absurd h (by assumption)
      · rw [if_neg hq2] at h ⊢
        obtain ⟨b1, ⟨b2, b3⟩, b4⟩ := wB _ h
        obtain ⟨c1, ⟨c2, c3⟩, c4⟩ := zB s b1
        rw [h34] at b3
        refine ⟨c1, ?_, ?_⟩
        · rw [hw, hz]; unfold unZ; split <;> omega
        · show s.1 = rcode (rtW k s) k ++ _
          unfold rcode
          rw [hw, foldZ_un _ (by rw [hz]; exact b2), hz, if_neg hq2, List.append_assoc]
          have b4' : (zrS 24 s).1 = bitsOf (tkW 34 (zrS 24 s)).toNat 34 ++ (tkS 34 (zrS 24 s)).1 := b4
          have e24 : zrW 24 s = 24 := by omega
          rw [e24] at c4
          rw [← b4']
          exact c4
theorem it_put {f : RS → RS} {g : RS → Int} {pr : Int → List Bool} {ok : Int → Prop} (hc : Codes f g pr ok) (t : List Bool) : ∀ (l acc : List Int), (∀ v ∈ l, ok v) → itS f g l.length ((l.map pr).flatten ++ t, 0) acc = ((t, 0), acc ++ l)
  | [], acc, h => by simp [itS]
  | v :: l, acc, h => by
    obtain ⟨e1, e2⟩ := hc.1 v ((l.map pr).flatten ++ t) (h v List.mem_cons_self)
    rw [List.length_cons, itS, if_neg (by simp)]
    rw [List.map_cons, List.flatten_cons, List.append_assoc, e1, e2, it_put hc t l (acc ++ [v]) (fun x hx => h x (List.mem_cons_of_mem _ hx))]
    simp
def pcl (m : Nat) : List Int → List Int → List Bool
  | [], _ => []
  | k :: ks, l => pcode k (l.take m) ++ pcl m ks (l.drop m)
theorem pcl_snoc (m : Nat) (k : Int) : ∀ (ks l : List Int), pcl m (ks ++ [k]) l = pcl m ks l ++ pcode k ((l.drop (ks.length * m)).take m)
  | [], l => by simp [pcl]
  | x :: ks, l => by
    show pcode x (l.take m) ++ pcl m (ks ++ [k]) (l.drop m) = pcode x (l.take m) ++ pcl m ks (l.drop m) ++ _
    rw [pcl_snoc m k ks (l.drop m), List.drop_drop, List.length_cons, Nat.succ_mul, Nat.add_comm m, List.append_assoc]
theorem pcodes_pcl (l ks : List Int) (m : Nat) : ∀ i, i ≤ ks.length → pcodes l ks m i = pcl m (ks.take i) l
  | 0, _ => by simp [pcodes, pcl]
  | i + 1, h => by
    rw [pcodes, pcodes_pcl l ks m i (by omega), List.take_add_one, List.getElem?_eq_getElem (by omega)]
    show _ = pcl m (ks.take i ++ [ks[i]]) l
    rw [pcl_snoc, List.length_take, Nat.min_eq_left (by omega), partL, List.getD_eq_getElem?_getD, List.getElem?_eq_getElem (by omega)]
    rfl
def kOK (k : Int) : Prop := 0 ≤ k ∧ k ≤ 24
def nOK (v : Int) : Prop := -8589934592 ≤ v ∧ v < 8589934592
theorem slI_put (m : Nat) (t : List Bool) : ∀ (ks l K0 L0 : List Int), (∀ k ∈ ks, kOK k) → (∀ v ∈ l, nOK v) → l.length = ks.length * m → slI m ks.length (pcl m ks l ++ t, 0) K0 L0 = ((t, 0), K0 ++ ks, L0 ++ l)
  | [], l, K0, L0, hk, hv, hl => by
    have : l = [] := List.length_eq_zero_iff.1 (by simpa using hl)
    subst this
    simp [slI, pcl]
  | k :: ks, l, K0, L0, hk, hv, hl => by
    obtain ⟨k0, k1⟩ := hk k List.mem_cons_self
    rw [List.length_cons, Nat.succ_mul] at hl
    have h32 : (2 : Int) ^ (Int.toNat 5) = 32 := by decide
    obtain ⟨e1, e2⟩ := (tk_codes 5 (by decide) (by decide)).1 k (rcodes k (l.take m) ++ (pcl m ks (l.drop m) ++ t)) ⟨k0, by omega⟩
    have es : pcl m (k :: ks) l ++ t = bitsOf k.toNat (Int.toNat 5) ++ (rcodes k (l.take m) ++ (pcl m ks (l.drop m) ++ t)) := by
      show pcode k (l.take m) ++ pcl m ks (l.drop m) ++ t = _
      unfold pcode
      simp only [List.append_assoc]
      rfl
    have hml : (l.take m).length = m := by rw [List.length_take]; omega
    have hit := it_put (rt_codes k k0 k1) (pcl m ks (l.drop m) ++ t) (l.take m) L0 (fun v h => hv v (List.mem_of_mem_take h))
    rw [hml] at hit
    rw [List.length_cons, slI, if_neg (by simp), es, e2, e1]
    have hit' : itS (rtS k) (rtW k) m (rcodes k (l.take m) ++ (pcl m ks (l.drop m) ++ t), 0) L0 = ((pcl m ks (l.drop m) ++ t, 0), L0 ++ l.take m) := hit
    rw [hit']
    simp only
    rw [slI_put m t ks (l.drop m) (K0 ++ [k]) (L0 ++ l.take m) (fun x h => hk x (List.mem_cons_of_mem _ h)) (fun v h => hv v (List.mem_of_mem_drop h)) (by rw [List.length_drop]; omega)]
    simp
end Go.Proofs.YtfjdmgnhklpiiaaGreat
set_option maxHeartbeats 4000000
set_option maxRecDepth 20000
set_option linter.unusedSimpArgs false
set_option linter.unusedVariables false
open Go Go.AL
namespace Go.Proofs.YtfjdmgnhklpiiaaGreat
def blkBits (x : BlkIn) (d : Int) : List Bool := if x.kd = 2 then nbits x.sh x.ix x.lg x.gn x.pt x.rc x.da else pbits x.kd x.vl x.da d
theorem bsE_ok {kd vl sh : Int} {ix : List Int} {lg gn pt : Int} {rc da : List Int} {n d : Int} (h : bsE kd vl sh ix lg gn pt rc da n d = 0) :
    (1 ≤ n ∧ n ≤ 1024 ∧ 8 ≤ d ∧ d ≤ 26) ∧ formE kd vl sh ix lg gn pt rc da n d = 0 ∧ (outL kd vl sh ix lg gn da n d).any (lacksP d) = false := by
  unfold bsE at h
  by_cases h1 : 1 ≤ n ∧ n ≤ 1024 ∧ 8 ≤ d ∧ d ≤ 26
  · rw [if_neg (fun h => h h1)] at h
    by_cases h2 : formE kd vl sh ix lg gn pt rc da n d = 0
    · rw [if_neg (fun h => h h2)] at h
      split at h
      · exact absurd h (by decide)
      · split at h
        · exact absurd h (by decide)
        · rename_i h3
          exact ⟨h1, h2, by simpa using h3⟩
    · rw [if_pos h2] at h; exact absurd h h2
  · rw [if_pos h1] at h; exact absurd h (by decide)
theorem lacks_no {d n : Int} (h : lacksP d n = false) : -2 ^ (d - 1).toNat ≤ n ∧ n < 2 ^ (d - 1).toNat := by
  unfold lacksP pw at h
  simp only [Bool.or_eq_false_iff, decide_eq_false_iff_not] at h
  omega
theorem tn_put (b n : Int) (h1 : 1 ≤ b) (h2 : b ≤ 47) (l : List Int) (t : List Bool) (hl : (l.length : Int) = n) (hv : ∀ v ∈ l, -2 ^ (b - 1).toNat ≤ v ∧ v < 2 ^ (b - 1).toNat) : tnR b n (sbs b l ++ t, 0) = ((t, 0), l) := by
  have := it_put (sg_codes b h1 (by omega)) t l [] hv
  unfold tnR sbs
  rw [show n.toNat = l.length by omega, this]
  rfl
theorem pow_nat (p : Int) : ((2 ^ p.toNat : Nat) : Int) = 2 ^ p.toNat := by simp
theorem sl_put (pt : Int) (rc da : List Int) (n : Int) (t : List Bool) (hn1 : 1 ≤ n) (hda : (da.length : Int) = n) (p0 : 0 ≤ pt) (p3 : pt ≤ 3) (hdv : n % 2 ^ pt.toNat = 0) (hrc : (rc.length : Int) = 2 ^ pt.toNat) (hk : ∀ k ∈ rc, kOK k) (hv : ∀ v ∈ da, nOK v) :
    slS n (bitsOf pt.toNat 2 ++ pcodes da rc (da.length / 2 ^ pt.toNat) rc.length ++ t, 0) = (t, 0) ∧ tkW 2 (bitsOf pt.toNat 2 ++ pcodes da rc (da.length / 2 ^ pt.toNat) rc.length ++ t, 0) = pt ∧
    slK n (bitsOf pt.toNat 2 ++ pcodes da rc (da.length / 2 ^ pt.toNat) rc.length ++ t, 0) = rc ∧ slL n (bitsOf pt.toNat 2 ++ pcodes da rc (da.length / 2 ^ pt.toNat) rc.length ++ t, 0) = da := by
  have h4 : (2 : Int) ^ (Int.toNat 2) = 4 := by decide
  obtain ⟨e1, e2⟩ := (tk_codes 2 (by decide) (by decide)).1 pt (pcodes da rc (da.length / 2 ^ pt.toNat) rc.length ++ t) ⟨p0, by omega⟩
  rw [List.append_assoc]
  have e1 : tkS 2 (bitsOf pt.toNat 2 ++ (pcodes da rc (da.length / 2 ^ pt.toNat) rc.length ++ t), 0) = (pcodes da rc (da.length / 2 ^ pt.toNat) rc.length ++ t, 0) := e1
  have e2 : tkW 2 (bitsOf pt.toNat 2 ++ (pcodes da rc (da.length / 2 ^ pt.toNat) rc.length ++ t), 0) = pt := e2
  have hpn := pow_nat pt
  have hp0 : 0 < 2 ^ pt.toNat := Nat.pow_pos (by decide)
  have hrc2 : rc.length = 2 ^ pt.toNat := by omega
  have hm : (n / 2 ^ pt.toNat).toNat = da.length / 2 ^ pt.toNat := by
    rw [← hpn, ← hda, ← Int.natCast_ediv, Int.toNat_natCast]
  have hlen : da.length = rc.length * (da.length / 2 ^ pt.toNat) := by
    rw [hrc2]
    have hd : 2 ^ pt.toNat ∣ da.length := by
      rw [← hpn, ← hda, ← Int.natCast_emod] at hdv
      exact Nat.dvd_of_mod_eq_zero (by omega)
    exact (Nat.mul_div_cancel' hd).symm
  have hI : slI (n / 2 ^ pt.toNat).toNat (2 ^ pt.toNat) (pcodes da rc (da.length / 2 ^ pt.toNat) rc.length ++ t, 0) [] [] = ((t, 0), rc, da) := by
    rw [hm, pcodes_pcl da rc _ rc.length (Nat.le_refl _), List.take_length]
    have := slI_put (da.length / 2 ^ pt.toNat) t rc da [] [] hk hv hlen
    rw [hrc2] at this
    exact this
  refine ⟨?_, e2, ?_, ?_⟩
  · unfold slS
    rw [e2, e1, if_neg (fun h => h hdv), hI]
  · unfold slK
    rw [e2, e1, hI]
  · unfold slL
    rw [e2, e1, hI]
theorem bk_put_of {x : BlkIn} {n d : Int} {b t : List Bool} (hx : x.e n d = 0) (hT : bkT n d (b, 0) = (t, 0)) (hB : bkB n d (b, 0) = x) : bkS n d (b, 0) = (t, 0) ∧ bkX n d (b, 0) = x ∧ bkL n d (b, 0) = x.l n d := by
  obtain ⟨a, b', c⟩ := bk_ok (n := n) (d := d) (s := (b, 0)) (by rw [hT]) (by rw [hB]; exact hx)
  refine ⟨?_, by rw [b', hB], by rw [c, hB]⟩
  rw [a, hT, hB, hx]
  rfl
theorem kd_put (k : Int) (h0 : 0 ≤ k) (h1 : k < 4) (t : List Bool) : tkS 2 (bitsOf k.toNat 2 ++ t, 0) = (t, 0) ∧ tkW 2 (bitsOf k.toNat 2 ++ t, 0) = k := by
  have h4 : (2 : Int) ^ (Int.toNat 2) = 4 := by decide
  exact (tk_codes 2 (by decide) (by decide)).1 k t ⟨h0, by omega⟩
theorem bk_put (x : BlkIn) (n d : Int) (t : List Bool) (hx : x.e n d = 0) : bkS n d (blkBits x d ++ t, 0) = (t, 0) ∧ bkX n d (blkBits x d ++ t, 0) = x ∧ bkL n d (blkBits x d ++ t, 0) = x.l n d := by
  have hx0 := hx
  obtain ⟨kd, vl, sh, ix, lg, gn, pt, rc, da⟩ := x
  have hx1 : bsE kd vl sh ix lg gn pt rc da n d = 0 := hx0
  obtain ⟨⟨n1, n2, d1, d2⟩, hf, hlk⟩ := bsE_ok hx1
  clear hx hx1
  by_cases k2 : kd = 2
  · subst k2
    obtain ⟨f1, f2, f3, f4, f5, f6, f7⟩ := form_two hf d2 n2
    obtain ⟨g0, g1, g2⟩ := form_two2 hf
    subst g0
    rw [← f7] at g1
    unfold partsB at g1
    simp only [Bool.and_eq_true, decide_eq_true_eq] at g1
    obtain ⟨⟨w1, w2⟩, w3⟩ := g1
    obtain ⟨_, _, p0, p3, pm⟩ := whole_iff.1 w1
    rw [allP_iff] at w3
    have hks : ∀ k ∈ rc, kOK k := fun k hk => by
      obtain ⟨i, hi, he⟩ := mem_getD.1 hk
      have := w3 i hi
      simp only [kP, Bool.or_eq_false_iff, decide_eq_false_iff_not] at this
      rw [he] at this
      unfold kOK
      omega
    have hfar : ∀ v ∈ da, nOK v := fun v hv => by
      rw [List.any_eq_false] at g2
      have := g2 v hv
      rw [farP, Bool.or_eq_true, decide_eq_true_eq, decide_eq_true_eq] at this
      unfold nOK
      omega
    have hdv : n % 2 ^ pt.toNat = 0 := by
      rw [f7, Int.tmod_eq_emod_of_nonneg (by omega)] at pm
      exact pm
    have htb : (lg = 0 ∧ gn = 0) ∨ (1 ≤ lg ∧ lg ≤ 255 ∧ 1 ≤ gn ∧ gn ≤ 15) := by simpa [termB] using f4
    have h32 : (2 : Int) ^ (Int.toNat 5) = 32 := by decide
    have h256 : (2 : Int) ^ (Int.toNat 8) = 256 := by decide
    have h16 : (2 : Int) ^ (Int.toNat 4) = 16 := by decide
    have h21 : (2 : Int) ^ (Int.toNat 1) = 2 := by decide
    -- the stages
    obtain ⟨SB, hSB⟩ : ∃ b, b = bitsOf pt.toNat 2 ++ pcodes da rc (da.length / 2 ^ pt.toNat) rc.length := ⟨_, rfl⟩
    obtain ⟨sl1, sl2, sl3, sl4⟩ := sl_put pt rc da n t n1 f7 p0 p3 hdv w2 hks hfar
    rw [← hSB] at sl1 sl2 sl3 sl4
    have hlag : rsC (lagbits lg gn ++ (SB ++ t), 0) = (SB ++ t, 0) ∧ lgW (lagbits lg gn ++ (SB ++ t), 0) = lg ∧ gnW (lagbits lg gn ++ (SB ++ t), 0) = gn := by
      rcases htb with ⟨a, b⟩ | ⟨a1, a2, a3, a4⟩
      · subst a b
        obtain ⟨e1, e2⟩ := (tk_codes 1 (by decide) (by decide)).1 0 (SB ++ t) ⟨by decide, by decide⟩
        have e2 : tkW 1 (lagbits 0 0 ++ (SB ++ t), 0) = 0 := e2
        have e1 : tkS 1 (lagbits 0 0 ++ (SB ++ t), 0) = (SB ++ t, 0) := e1
        refine ⟨?_, ?_, ?_⟩
        · unfold rsC; rw [e2, if_neg (by decide)]; exact e1
        · unfold lgW; rw [e2, if_neg (by decide)]
        · unfold gnW; rw [e2, if_neg (by decide)]
      · have el : lagbits lg gn ++ (SB ++ t) = bitsOf 1 1 ++ (bitsOf lg.toNat 8 ++ (bitsOf gn.toNat 4 ++ (SB ++ t))) := by
          rw [lagbits, if_neg (by omega)]
          simp only [List.append_assoc]
        rw [el]
        obtain ⟨e1, e2⟩ := (tk_codes 1 (by decide) (by decide)).1 1 (bitsOf lg.toNat 8 ++ (bitsOf gn.toNat 4 ++ (SB ++ t))) ⟨by decide, by decide⟩
        obtain ⟨e3, e4⟩ := (tk_codes 8 (by decide) (by decide)).1 lg (bitsOf gn.toNat 4 ++ (SB ++ t)) ⟨by omega, by omega⟩
        obtain ⟨e5, e6⟩ := (tk_codes 4 (by decide) (by decide)).1 gn (SB ++ t) ⟨by omega, by omega⟩
        have e1 : tkS 1 (bitsOf 1 1 ++ (bitsOf lg.toNat 8 ++ (bitsOf gn.toNat 4 ++ (SB ++ t))), 0) = (bitsOf lg.toNat 8 ++ (bitsOf gn.toNat 4 ++ (SB ++ t)), 0) := e1
        have e2 : tkW 1 (bitsOf 1 1 ++ (bitsOf lg.toNat 8 ++ (bitsOf gn.toNat 4 ++ (SB ++ t))), 0) = 1 := e2
        have e3 : tkS 8 (bitsOf lg.toNat 8 ++ (bitsOf gn.toNat 4 ++ (SB ++ t)), 0) = (bitsOf gn.toNat 4 ++ (SB ++ t), 0) := e3
        have e4 : tkW 8 (bitsOf lg.toNat 8 ++ (bitsOf gn.toNat 4 ++ (SB ++ t)), 0) = lg := e4
        have e5 : tkS 4 (bitsOf gn.toNat 4 ++ (SB ++ t), 0) = (SB ++ t, 0) := e5
        have e6 : tkW 4 (bitsOf gn.toNat 4 ++ (SB ++ t), 0) = gn := e6
        have eL : lgW (bitsOf 1 1 ++ (bitsOf lg.toNat 8 ++ (bitsOf gn.toNat 4 ++ (SB ++ t))), 0) = lg := by unfold lgW; rw [e2, if_pos rfl, e1, e4]
        have eG : gnW (bitsOf 1 1 ++ (bitsOf lg.toNat 8 ++ (bitsOf gn.toNat 4 ++ (SB ++ t))), 0) = gn := by unfold gnW; rw [e2, if_pos rfl, e1, e3, e6]
        refine ⟨?_, eL, eG⟩
        unfold rsC
        rw [eL, eG, e2, if_pos rfl, if_neg (by omega), e1, e3, e5]
    obtain ⟨LB, hLB⟩ : ∃ b, b = lagbits lg gn := ⟨_, rfl⟩
    rw [← hLB] at hlag
    obtain ⟨lC, lL, lG⟩ := hlag
    have eb : blkBits ⟨2, 0, sh, ix, lg, gn, pt, rc, da⟩ d ++ t = bitsOf (Int.toNat 2) 2 ++ (bitsOf sh.toNat 5 ++ (bitsOf ((ix.length : Nat) : Int).toNat 5 ++ (sbs 7 ix ++ (LB ++ (SB ++ t))))) := by
      show nbits sh ix lg gn pt rc da ++ t = _
      rw [nbits, nhead, hLB, hSB]
      simp only [List.append_assoc, Int.toNat_natCast]
      rfl
    rw [eb]
    obtain ⟨a1, a2⟩ := kd_put 2 (by decide) (by decide) (bitsOf sh.toNat 5 ++ (bitsOf ((ix.length : Nat) : Int).toNat 5 ++ (sbs 7 ix ++ (LB ++ (SB ++ t)))))
    obtain ⟨b1, b2⟩ := (tk_codes 5 (by decide) (by decide)).1 sh (bitsOf ((ix.length : Nat) : Int).toNat 5 ++ (sbs 7 ix ++ (LB ++ (SB ++ t)))) ⟨f1, by omega⟩
    obtain ⟨c1, c2⟩ := (tk_codes 5 (by decide) (by decide)).1 (ix.length : Nat) (sbs 7 ix ++ (LB ++ (SB ++ t))) ⟨by omega, by have := f3.1; omega⟩
    have b1 : tkS 5 (bitsOf sh.toNat 5 ++ (bitsOf ((ix.length : Nat) : Int).toNat 5 ++ (sbs 7 ix ++ (LB ++ (SB ++ t)))), 0) = (bitsOf ((ix.length : Nat) : Int).toNat 5 ++ (sbs 7 ix ++ (LB ++ (SB ++ t))), 0) := b1
    have b2 : tkW 5 (bitsOf sh.toNat 5 ++ (bitsOf ((ix.length : Nat) : Int).toNat 5 ++ (sbs 7 ix ++ (LB ++ (SB ++ t)))), 0) = sh := b2
    have c1 : tkS 5 (bitsOf ((ix.length : Nat) : Int).toNat 5 ++ (sbs 7 ix ++ (LB ++ (SB ++ t))), 0) = (sbs 7 ix ++ (LB ++ (SB ++ t)), 0) := c1
    have c2 : tkW 5 (bitsOf ((ix.length : Nat) : Int).toNat 5 ++ (sbs 7 ix ++ (LB ++ (SB ++ t))), 0) = (ix.length : Nat) := c2
    have ti := tn_put 7 (ix.length : Nat) (by decide) (by decide) ix (LB ++ (SB ++ t)) rfl (fun v hv => by
      obtain ⟨i, hi, he⟩ := mem_getD.1 hv
      have := f3.2 i hi
      have h64 : (2 : Int) ^ (Int.toNat (7 - 1)) = 64 := by decide
      rw [he] at this
      omega)
    have eA : rsA (bitsOf sh.toNat 5 ++ (bitsOf ((ix.length : Nat) : Int).toNat 5 ++ (sbs 7 ix ++ (LB ++ (SB ++ t)))), 0) = (sbs 7 ix ++ (LB ++ (SB ++ t)), 0) := by
      unfold rsA
      rw [b1, c2, if_neg (by have := f3.1; omega), c1]
    have eB : rsB (bitsOf sh.toNat 5 ++ (bitsOf ((ix.length : Nat) : Int).toNat 5 ++ (sbs 7 ix ++ (LB ++ (SB ++ t)))), 0) = ((LB ++ (SB ++ t), 0), ix) := by
      unfold rsB
      rw [eA, b1, c2, ti]
    have eT : rsT (bitsOf sh.toNat 5 ++ (bitsOf ((ix.length : Nat) : Int).toNat 5 ++ (sbs 7 ix ++ (LB ++ (SB ++ t)))), 0) = (SB ++ t, 0) := by
      unfold rsT
      rw [eB, lC]
    refine bk_put_of hx0 ?_ ?_
    · unfold bkT
      rw [a2, if_neg (by decide), if_neg (by decide), if_pos rfl, a1]
      unfold rsS
      rw [eT, sl1]
    · unfold bkB
      rw [a2, if_neg (by decide), if_neg (by decide), if_pos rfl, a1, b2, eB, eT, sl2, sl3, sl4]
      simp only [lL, lG]
  · have hkd := (form_plain hf k2).1
    have hdn := (form_plain hf k2).2
    have eb : blkBits ⟨kd, vl, sh, ix, lg, gn, pt, rc, da⟩ d ++ t = bitsOf kd.toNat 2 ++ ((if kd = 1 then sb vl d else if kd = 3 then sbs d da else []) ++ t) := by
      show (if kd = 2 then _ else pbits kd vl da d) ++ t = _
      rw [if_neg k2, pbits, List.append_assoc]
    rw [eb]
    obtain ⟨a1, a2⟩ := kd_put kd (by omega) (by omega) ((if kd = 1 then sb vl d else if kd = 3 then sbs d da else []) ++ t)
    have hbare : bareP sh ix lg gn pt rc ∧ (kd ≠ 1 → vl = 0) ∧ (kd ≠ 3 → da = []) := by
      unfold formE at hf
      rcases hkd with h | h | h
      · subst h
        rw [if_pos rfl] at hf
        split at hf
        · rename_i hh
          exact ⟨hh.1, fun _ => hh.2.1, fun _ => List.length_eq_zero_iff.1 (by omega)⟩
        · exact absurd hf (by decide)
      · subst h
        rw [if_neg (by decide), if_pos rfl] at hf
        split at hf
        · rename_i hh
          exact ⟨hh.1, fun h => absurd rfl h, fun _ => List.length_eq_zero_iff.1 (by omega)⟩
        · exact absurd hf (by decide)
      · subst h
        rw [if_neg (by decide), if_neg (by decide), if_pos rfl] at hf
        split at hf
        · rename_i hh
          exact ⟨hh.1, fun _ => hh.2.1, fun h => absurd rfl h⟩
        · exact absurd hf (by decide)
    obtain ⟨⟨q1, q2, q3, q4, q5, q6⟩, hvl, hda⟩ := hbare
    have q2 := List.length_eq_zero_iff.1 q2
    have q6 := List.length_eq_zero_iff.1 q6
    subst q1 q2 q3 q4 q5 q6
    rw [List.any_eq_false] at hlk
    rcases hkd with h | h | h
    · subst h
      have hvl := hvl (by decide)
      have hda := hda (by decide)
      subst hvl hda
      refine bk_put_of hx0 ?_ ?_
      · unfold bkT; rw [a2]; exact a1
      · unfold bkB; rw [a2]; rfl
    · subst h
      have hda := hda (by decide)
      subst hda
      have hv := lacks_no (d := d) (n := vl) (by
        have := hlk vl (by
          show vl ∈ List.replicate n.toNat vl
          exact List.mem_replicate.2 ⟨by omega, rfl⟩)
        simpa using this)
      obtain ⟨e1, e2⟩ := (sg_codes d (by omega) (by omega)).1 vl t hv
      refine bk_put_of hx0 ?_ ?_
      · unfold bkT; rw [a2, if_pos rfl, a1]; exact e1
      · unfold bkB; rw [a2, if_pos rfl, a1]
        have e2 : sgW d (sb vl d ++ t, 0) = vl := e2
        show (⟨1, sgW d (sb vl d ++ t, 0), 0, [], 0, 0, 0, [], []⟩ : BlkIn) = _
        rw [e2]
    · subst h
      have hvl := hvl (by decide)
      subst hvl
      have ti := tn_put d n (by omega) (by omega) da t (hdn rfl) (fun v hv => lacks_no (by
        have := hlk v hv
        simpa using this))
      have a1 : tkS 2 (bitsOf (Int.toNat 3) 2 ++ (sbs d da ++ t), 0) = (sbs d da ++ t, 0) := a1
      have a2 : tkW 2 (bitsOf (Int.toNat 3) 2 ++ (sbs d da ++ t), 0) = 3 := a2
      refine bk_put_of hx0 ?_ ?_
      · show bkT n d (bitsOf (Int.toNat 3) 2 ++ (sbs d da ++ t), 0) = _
        unfold bkT; rw [a2, if_neg (by decide), if_pos rfl, a1, ti]
      · show bkB n d (bitsOf (Int.toNat 3) 2 ++ (sbs d da ++ t), 0) = _
        unfold bkB; rw [a2, if_neg (by decide), if_pos rfl, a1, ti]
end Go.Proofs.YtfjdmgnhklpiiaaGreat
set_option maxHeartbeats 4000000
set_option maxRecDepth 20000
set_option linter.unusedSimpArgs false
set_option linter.unusedVariables false
open Go Go.AL
namespace Go.Proofs.YtfjdmgnhklpiiaaGreat
end Go.Proofs.YtfjdmgnhklpiiaaGreat
