/-
  Contracts of functions of the program, proved over the abstract machine of the Al texts.
-/
import Derived.Test.YtnnpookoencpnaaRkZ
import Derived.Test.YtnnpookoencpnaaPpY
set_option maxHeartbeats 4000000
set_option maxRecDepth 20000
set_option linter.unusedSimpArgs false
set_option linter.unusedVariables false
open Go Go.AL
namespace Go.Proofs.Ytnnpookoencpnaa
/-- How many bits a mark has, of so many that are left. -/
def wd (n : Nat) : Nat := if n ≤ 1 then 0 else if n ≤ 2 then 1 else if n ≤ 4 then 2 else 3
set_option maxRecDepth 100000 in
theorem wide_run : ∀ n : Nat, n < 9 → 1 ≤ n → (ex PP T M (fun _ => true) 400).F 75 [I n] [] = some (I (wd n : Nat), [])
  | 0, _, h => by omega
  | 1, _, _ => by kernel_rfl
  | 2, _, _ => by kernel_rfl
  | 3, _, _ => by kernel_rfl
  | 4, _, _ => by kernel_rfl
  | 5, _, _ => by kernel_rfl
  | 6, _, _ => by kernel_rfl
  | 7, _, _ => by kernel_rfl
  | 8, _, _ => by kernel_rfl
  | n + 9, h, _ => by omega
theorem wide_spec (n : Int) (h0 : 1 ≤ n) (h1 : n ≤ 8) (h : Heap) : Does PP 75 [I n] h (Is (I (wd n.toNat : Nat)) h) := by
  have := pure0 (ex_does P_ok 400 (wide_run n.toNat (by omega) (by omega))) rfl rfl h
  rwa [show ((n.toNat : Nat) : Int) = n by omega] at this
set_option maxRecDepth 100000 in
theorem rwide_run : ∀ n : Nat, n < 9 → 1 ≤ n → (ex PP T M (fun _ => true) 400).F 78 [I n] [] = some (I (wd n : Nat), [])
  | 0, _, h => by omega
  | 1, _, _ => by kernel_rfl
  | 2, _, _ => by kernel_rfl
  | 3, _, _ => by kernel_rfl
  | 4, _, _ => by kernel_rfl
  | 5, _, _ => by kernel_rfl
  | 6, _, _ => by kernel_rfl
  | 7, _, _ => by kernel_rfl
  | 8, _, _ => by kernel_rfl
  | n + 9, h, _ => by omega
theorem rwide_spec (n : Int) (h0 : 1 ≤ n) (h1 : n ≤ 8) (h : Heap) : Does PP 78 [I n] h (Is (I (wd n.toNat : Nat)) h) := by
  have := pure0 (ex_does P_ok 400 (rwide_run n.toNat (by omega) (by omega))) rfl rfl h
  rwa [show ((n.toNat : Nat) : Int) = n by omega] at this
/-- The bits of marks. -/
def rbits : List Int → List Bool
  | [] => []
  | m :: ms => bitsOf m.toNat (wd (ms.length + 1)) ++ rbits ms
/-- Marks that may be. -/
def MarksOK : List Int → Prop
  | [] => True
  | m :: ms => 0 ≤ m ∧ m.toNat ≤ ms.length ∧ MarksOK ms
theorem mk_ok : ∀ l : List Int, MarksOK (mk l)
  | [] => trivial
  | c :: l => ⟨by omega, by rw [mk_len]; exact List.length_filter_le _ _, mk_ok l⟩
theorem MarksOK.drop : ∀ {ms : List Int}, MarksOK ms → ∀ i, MarksOK (ms.drop i)
  | ms, h, 0 => by simpa using h
  | [], _, i + 1 => by simp; trivial
  | m :: ms, h, i + 1 => by simpa using MarksOK.drop h.2.2 i
theorem wd_fit : ∀ k, k ≤ 7 → ∀ m, m ≤ k → m < 2 ^ wd (k + 1) := by decide
theorem wd_le (n : Nat) : wd n ≤ 3 := by unfold wd; split; omega; split; omega; split <;> omega
theorem rbits_drop {ms : List Int} {i : Nat} (h : i < ms.length) : rbits (ms.drop i) = bitsOf (ms.getD i 0).toNat (wd (ms.length - i)) ++ rbits (ms.drop (i + 1)) := by
  rw [List.drop_eq_getElem_cons h]
  simp only [rbits, List.length_drop]
  have : ms[i] = ms.getD i 0 := by simp [List.getD, h]
  rw [this, show ms.length - (i + 1) + 1 = ms.length - i by omega]
theorem rbits_len (ms : List Int) : (rbits ms).length ≤ 3 * ms.length := by
  induction ms with
  | nil => simp [rbits]
  | cons m ms ih =>
    have := wd_le (ms.length + 1)
    simp only [rbits, List.length_append, bitsOf_len, List.length_cons]; omega
end Go.Proofs.Ytnnpookoencpnaa
set_option maxHeartbeats 4000000
set_option maxRecDepth 20000
set_option linter.unusedSimpArgs false
set_option linter.unusedVariables false
open Go Go.AL
namespace Go.Proofs.Ytnnpookoencpnaa
theorem rput_spec (l : List Int) (bits : List Bool) (ho : Order l) (hl : bits.length < 900000000000) : Does PP 40 [.ptr 0 0, LI l] (wr bits) (Is (.bool true) (wr (bits ++ rbits (mk l)))) := by
  have h1 := ho.1
  have h8 := ho.2.1
  obtain ⟨n, hn⟩ : ∃ n, n = l.length := ⟨_, rfl⟩
  obtain ⟨z, hz⟩ : ∃ z : Int, z = (n : Int) := ⟨_, rfl⟩
  have hG : ∀ h, Does PP 27 [LI l] h (Is (.bool true) h) := fun h => by
    have := good_spec l h (by omega)
    rwa [(orderB_iff l).2 ho] at this
  have hp : (rangeI n).Perm l := by rw [hn]; exact order_perm ho.2.2
  have hM := marks_spec l n z (by omega) (by omega) hn (by omega) (by omega) hp
  have hml := mk_len l
  have hmo := mk_ok l
  obtain ⟨ms, hms⟩ : ∃ ms, ms = mk l := ⟨_, rfl⟩
  rw [← hms] at hM hml hmo ⊢
  have hmi : ∀ i : Nat, i < n → 0 ≤ ms.getD i 0 ∧ (ms.getD i 0).toNat ≤ n - i - 1 := fun i hi => by
    have := hmo.drop i
    rw [List.drop_eq_getElem_cons (by omega)] at this
    obtain ⟨a1, a2, _⟩ := this
    rw [List.length_drop] at a2
    have e : ms[i]'(by omega) = ms.getD i 0 := by simp [List.getD, show i < ms.length by omega]
    rw [e] at a1 a2
    exact ⟨a1, by omega⟩
  have hput : ∀ (i : Int) (cur : List Bool), 0 ≤ i → i < z → cur.length < 1000000000000 → Does PP 80 [.ptr 0 0, .int .u64 (ms.getD i.toNat 0), I (wd (z - i).toNat : Nat)] (wr cur) (Is (.bool true) (wr (cur ++ bitsOf (ms.getD i.toNat 0).toNat (wd (n - i.toNat))))) := fun i cur a1 a2 a3 => by
    obtain ⟨b1, b2⟩ := hmi i.toNat (by omega)
    have hw := wd_le (n - i.toNat)
    have hf := wd_fit (n - i.toNat - 1) (by omega) (ms.getD i.toNat 0).toNat b2
    rw [show n - i.toNat - 1 + 1 = n - i.toNat by omega] at hf
    have := put_spec cur (ms.getD i.toNat 0) (wd (n - i.toNat) : Nat) a3 (by omega) (by omega) b1 (by
      rw [Int.toNat_natCast]
      have := Int.ofNat_lt.2 hf
      rw [show (((ms.getD i.toNat 0).toNat : Nat) : Int) = ms.getD i.toNat 0 by omega] at this
      simpa using this)
    rw [Int.toNat_natCast] at this
    rw [show (z - i).toNat = n - i.toNat by omega]
    exact this
  have hdr : ∀ i : Int, 0 ≤ i → i < z → rbits (ms.drop i.toNat) = bitsOf (ms.getD i.toNat 0).toNat (wd (n - i.toNat)) ++ rbits (ms.drop (i + 1).toNat) := fun i a1 a2 => by
    rw [rbits_drop (by omega), show (i + 1).toNat = i.toNat + 1 by omega, hml, ← hn]
  have hlr := rbits_len ms
  have hwide : ∀ (i w : Int) h, 0 ≤ i → i < z → w = z - i → Does PP 75 [I w] h (Is (I (wd (z - i).toNat : Nat)) h) := fun i w h a1 a2 a3 => by
    rw [a3]; exact wide_spec (z - i) (by omega) (by omega) h
  obtain ⟨B, hB⟩ : ∃ B : Int → List Bool, ∀ i, B i = bitsOf (ms.getD i.toNat 0).toNat (wd (n - i.toNat)) := ⟨_, fun _ => rfl⟩
  obtain ⟨D, hD⟩ : ∃ D : Int → List Bool, ∀ i, D i = rbits (ms.drop i.toNat) := ⟨_, fun _ => rfl⟩
  obtain ⟨wd', hwd'⟩ : ∃ w : Int → Int, ∀ i, w i = (wd (z - i).toNat : Nat) := ⟨_, fun _ => rfl⟩
  simp only [← hB, ← hD, ← hwd'] at hput hdr hwide
  have hD0 : rbits ms = D 0 := by rw [hD]; simp
  have hDe : D z = [] := by rw [hD, List.drop_eq_nil_of_le (by omega)]; rfl
  have hDl : ∀ i, (D i).length ≤ 24 := fun i => by rw [hD]; have := rbits_len (ms.drop i.toNat); rw [List.length_drop] at this; omega
  rw [hD0]
  obtain ⟨T, hT⟩ : ∃ T, T = bits ++ D 0 := ⟨_, rfl⟩
  have hTl : T.length < 1000000000000 := by rw [hT, List.length_append]; have := hDl 0; omega
  rw [← hT]
  obtain ⟨W, hW⟩ : ∃ W, W = wr := ⟨_, rfl⟩
  rw [← hW] at hput ⊢
  have hzr : 1 ≤ z ∧ z ≤ 8 := by omega
  refine doesF P_ok Try.f40 (by kernel_rfl) (by kernel_rfl) ?_
  intro i2 c2 u1 cv mx mn ad sbt bn bq ba lnI gtI apI sbI stI rpI lnG gtG apG sbG stG rpG fi fb fs fl fg fc sln sgt sap ssb sc b2s s2b nd call calld callv callvd loop rfun fin hk
  have hln : lnI l = z := by rw [hk.lnI_eq]; omega
  have hlm : lnI ms = z := by rw [hk.lnI_eq]; omega
  have hgm := hk.gtI_eq ms
  have hcv : ∀ i : Int, 0 ≤ i → i < z → cv .u64 (gtI ms i) = ms.getD i.toNat 0 := fun i a1 a2 => by
    obtain ⟨b1, b2⟩ := hmi i.toNat (by omega)
    rw [hk.cv_eq, hgm, wrapu64 b1 (by omega)]
  clear hB hD hwd' hmi hW hz
  (conv => cbv)
  repeat' (first
    | assumption
    | (refine hk.callA (hG _) ?_; (conv => cbv))
    | (refine hk.callA (hM _) ?_; (conv => cbv))
    | (refine hk.brLssT (by omega) ?_; (conv => cbv))
    | (refine hk.brLssF (by omega) ?_; (conv => cbv))
    | (refine hk.brLeqT (by omega) ?_; (conv => cbv))
    | (refine hk.brLeqF (by omega) ?_; (conv => cbv))
    | (refine hk.brGtrT (by omega) ?_; (conv => cbv))
    | (refine hk.brGtrF (by omega) ?_; (conv => cbv))
    | (refine hk.brGeqT (by omega) ?_; (conv => cbv))
    | (refine hk.brGeqF (by omega) ?_; (conv => cbv))
    | (refine hk.brEqlT (by omega) ?_; (conv => cbv))
    | (refine hk.brEqlF (by omega) ?_; (conv => cbv))
    | (refine hk.brNeqT (by omega) ?_; (conv => cbv))
    | (refine hk.brNeqF (by omega) ?_; (conv => cbv))
    | (refine hk.brLss (fun _ => ?_) (fun _ => ?_) <;> (conv => cbv))
    | (refine hk.brLeq (fun _ => ?_) (fun _ => ?_) <;> (conv => cbv))
    | (refine hk.brGtr (fun _ => ?_) (fun _ => ?_) <;> (conv => cbv))
    | (refine hk.brGeq (fun _ => ?_) (fun _ => ?_) <;> (conv => cbv))
    | (refine hk.brEql (fun _ => ?_) (fun _ => ?_) <;> (conv => cbv))
    | (refine hk.brNeq (fun _ => ?_) (fun _ => ?_) <;> (conv => cbv))
    | (refine hk.brNotT ?_; (conv => cbv))
    | (refine hk.brNotF ?_; (conv => cbv))
    | (refine hk.brNotS _ (by simp [hk.c2_lss, hk.c2_leq, hk.c2_gtr, hk.c2_geq, hk.c2_eql, hk.c2_neq, hk.bn_eq, hk.bq_eq]; rfl) ?_; (conv => cbv))
    | (refine hk.brBqS _ (by simp [hk.c2_lss, hk.c2_leq, hk.c2_gtr, hk.c2_geq, hk.c2_eql, hk.c2_neq, hk.bn_eq, hk.bq_eq]; rfl) ?_; (conv => cbv))
    | (refine hk.idxI (by first | omega | assumption) (by first | omega | assumption) ?_; (conv => cbv))
    | (refine hk.nzI (by first | omega | assumption | decide) ?_; (conv => cbv))
    | (refine hk.ge0I (by first | omega | assumption) ?_; (conv => cbv))
    | (refine hk.needI (by first | (simp only [rNd, hk.sb_eq, hk.ad_eq]; omega) | (simp [rNd, hk.sb_eq, hk.ad_eq]; omega)) ?_; (conv => cbv))
    | (refine hk.callA (by assumption) ?_; (conv => cbv))
    | (refine hk.calldA (by assumption) ?_; (conv => cbv))
    | (rw [hk.sb0]; (conv => cbv))
    | (rw [hk.ad0]; (conv => cbv))
    | exact hk.finB (by first | rfl | assumption | (simp [hk.c2_lss, hk.c2_leq, hk.c2_gtr, hk.c2_geq, hk.c2_eql, hk.c2_neq, hk.bn_eq, hk.bq_eq]; done))
    | exact hk.fin1 rfl)
  rw [hlm]
  refine hk.loopI (loop_rule (α := Int × List Bool) (fun x => [(0, .ptr 0 0), (1, .ls (.il .i64 l) .any), (4, .bool false), (11, .ls (.il .i64 ms) .any), (12, .int .i64 z), (13, .int .i64 x.1)]) (fun x => W x.2)
    (fun x => 0 ≤ x.1 ∧ x.1 ≤ z ∧ x.2 ++ D x.1 = T) (fun x => (z - x.1).toNat) (0, bits) ⟨by omega, by simp only; omega, hT.symm⟩ ?_ ?_)
  · exact Gh.tm (by repeat (first | exact Holds.nil _ _ | refine Holds.cons (Wk.refl _ _) ?_))
  intro ⟨i, cur⟩ ⟨hi, hi2, hJ⟩ Q' hb hx hr
  simp only at hi hi2 hJ
  have hcl : cur.length < 1000000000000 := by rw [← hJ, List.length_append] at hTl; omega
  (conv => cbv)
  refine hk.brLss (fun h2 => ?_) (fun h2 => ?_)
  · obtain ⟨w, hw⟩ : ∃ w, w = z - i := ⟨_, rfl⟩
    have hsub : i2 .sub .i64 z i = w := by rw [hw]; exact hk.sub64 _ _ (by omega) (by omega)
    have hwide := fun h => hwide i w h hi h2 hw
    have hput := hput i cur hi h2 hcl
    have hcv := hcv i hi h2
    have hdr := hdr i hi h2
    (conv => cbv)
    rw [hlm]
    refine hk.idxI hi h2 ?_
    (conv => cbv)
    rw [hln, hsub]
    refine hk.callA (hwide _) ?_
    (conv => cbv)
    rw [hcv]
    refine hk.callA hput ?_
    (conv => cbv)
    refine hb (i + 1, cur ++ B i) _ ⟨by simp only; omega, by simp only; omega, by simp only; rw [← hJ, hdr, List.append_assoc]⟩ (by simp only; omega) ?_
    refine Gh.tm ?_
    repeat' (first | exact Holds.nil _ _ | refine Holds.cons (Wk.refl _ _) ?_ | refine Holds.cons (Wk.of_eq ?_) ?_)
    all_goals first
      | (rw [← hk.add64 i 1 (by omega) (by omega)]; rfl)
      | rfl
      | skip
  · have : i = z := by omega
    subst this
    rw [hDe, List.append_nil] at hJ
    subst hJ
    refine hx _ _ ?_
    (conv => cbv)
    exact hk.fin1 rfl
theorem rput_bad (l : List Int) (h : Heap) (x : AVal) (hb : ¬ Order l) (hl : l.length ≤ 9223372036854775807) : Does PP 40 [x, LI l] h (Is (.bool false) h) := by
  have hG : Does PP 27 [LI l] h (Is (.bool false) h) := by
    have := good_spec l h hl
    rwa [show orderB l = false by rw [Bool.eq_false_iff, ne_eq, orderB_iff]; exact hb] at this
  refine doesF P_ok Try.f40 (by kernel_rfl) (by kernel_rfl) ?_
  intro i2 c2 u1 cv mx mn ad sbt bn bq ba lnI gtI apI sbI stI rpI lnG gtG apG sbG stG rpG fi fb fs fl fg fc sln sgt sap ssb sc b2s s2b nd call calld callv callvd loop rfun fin hk
  (conv => cbv)
  repeat' (first
    | assumption
    | (refine hk.brLssT (by omega) ?_; (conv => cbv))
    | (refine hk.brLssF (by omega) ?_; (conv => cbv))
    | (refine hk.brLeqT (by omega) ?_; (conv => cbv))
    | (refine hk.brLeqF (by omega) ?_; (conv => cbv))
    | (refine hk.brGtrT (by omega) ?_; (conv => cbv))
    | (refine hk.brGtrF (by omega) ?_; (conv => cbv))
    | (refine hk.brGeqT (by omega) ?_; (conv => cbv))
    | (refine hk.brGeqF (by omega) ?_; (conv => cbv))
    | (refine hk.brEqlT (by omega) ?_; (conv => cbv))
    | (refine hk.brEqlF (by omega) ?_; (conv => cbv))
    | (refine hk.brNeqT (by omega) ?_; (conv => cbv))
    | (refine hk.brNeqF (by omega) ?_; (conv => cbv))
    | (refine hk.brLss (fun _ => ?_) (fun _ => ?_) <;> (conv => cbv))
    | (refine hk.brLeq (fun _ => ?_) (fun _ => ?_) <;> (conv => cbv))
    | (refine hk.brGtr (fun _ => ?_) (fun _ => ?_) <;> (conv => cbv))
    | (refine hk.brGeq (fun _ => ?_) (fun _ => ?_) <;> (conv => cbv))
    | (refine hk.brEql (fun _ => ?_) (fun _ => ?_) <;> (conv => cbv))
    | (refine hk.brNeq (fun _ => ?_) (fun _ => ?_) <;> (conv => cbv))
    | (refine hk.brNotT ?_; (conv => cbv))
    | (refine hk.brNotF ?_; (conv => cbv))
    | (refine hk.brNotS _ (by simp [hk.c2_lss, hk.c2_leq, hk.c2_gtr, hk.c2_geq, hk.c2_eql, hk.c2_neq, hk.bn_eq, hk.bq_eq]; rfl) ?_; (conv => cbv))
    | (refine hk.brBqS _ (by simp [hk.c2_lss, hk.c2_leq, hk.c2_gtr, hk.c2_geq, hk.c2_eql, hk.c2_neq, hk.bn_eq, hk.bq_eq]; rfl) ?_; (conv => cbv))
    | (refine hk.idxI (by first | omega | assumption) (by first | omega | assumption) ?_; (conv => cbv))
    | (refine hk.nzI (by first | omega | assumption | decide) ?_; (conv => cbv))
    | (refine hk.ge0I (by first | omega | assumption) ?_; (conv => cbv))
    | (refine hk.needI (by first | (simp only [rNd, hk.sb_eq, hk.ad_eq]; omega) | (simp [rNd, hk.sb_eq, hk.ad_eq]; omega)) ?_; (conv => cbv))
    | (refine hk.callA (by assumption) ?_; (conv => cbv))
    | (refine hk.calldA (by assumption) ?_; (conv => cbv))
    | (rw [hk.sb0]; (conv => cbv))
    | (rw [hk.ad0]; (conv => cbv))
    | exact hk.finB (by first | rfl | assumption | (simp [hk.c2_lss, hk.c2_leq, hk.c2_gtr, hk.c2_geq, hk.c2_eql, hk.c2_neq, hk.bn_eq, hk.bq_eq]; done))
    | exact hk.fin1 rfl)
theorem refRput_spec (l : List Int) (h : Heap) (h1 : 1 ≤ l.length) (h8 : l.length ≤ 8) : Does PP 42 [LI l] h (Is (.str (strB (rbits (mk l)))) h) := by
  obtain ⟨n, hn⟩ : ∃ n, n = l.length := ⟨_, rfl⟩
  obtain ⟨z, hz⟩ : ∃ z : Int, z = (n : Int) := ⟨_, rfl⟩
  have hM : ∀ h, Does PP 31 [LI l] h (Is (LI (mk l)) h) := fun h => refMarks_spec l h z (by omega) (by omega) (by omega)
  have hml := mk_len l
  have hmo := mk_ok l
  obtain ⟨ms, hms⟩ : ∃ ms, ms = mk l := ⟨_, rfl⟩
  rw [← hms]
  simp only [← hms] at hM hml hmo
  have hmi : ∀ i : Nat, i < n → 0 ≤ ms.getD i 0 ∧ (ms.getD i 0).toNat ≤ n - i - 1 := fun i hi => by
    have := hmo.drop i
    rw [List.drop_eq_getElem_cons (by omega)] at this
    obtain ⟨a1, a2, _⟩ := this
    rw [List.length_drop] at a2
    have e : ms[i]'(by omega) = ms.getD i 0 := by simp [List.getD, show i < ms.length by omega]
    rw [e] at a1 a2
    exact ⟨a1, by omega⟩
  have hput : ∀ (i : Int) h, 0 ≤ i → i < z → Does PP 81 [I (ms.getD i.toNat 0), I (wd (z - i).toNat : Nat)] h (Is (.str (strB (bitsOf (ms.getD i.toNat 0).toNat (wd (n - i.toNat))))) h) := fun i h a1 a2 => by
    obtain ⟨b1, b2⟩ := hmi i.toNat (by omega)
    have hw := wd_le (n - i.toNat)
    have := refPut_spec (ms.getD i.toNat 0) (wd (n - i.toNat) : Nat) h b1 (by omega) (by omega)
    rw [Int.toNat_natCast] at this
    rw [show (z - i).toNat = n - i.toNat by omega]
    exact this
  have hdr : ∀ i : Int, 0 ≤ i → i < z → rbits (ms.drop i.toNat) = bitsOf (ms.getD i.toNat 0).toNat (wd (n - i.toNat)) ++ rbits (ms.drop (i + 1).toNat) := fun i a1 a2 => by
    rw [rbits_drop (by omega), show (i + 1).toNat = i.toNat + 1 by omega, hml, ← hn]
  have hwide : ∀ (i w : Int) h, 0 ≤ i → i < z → w = z - i → Does PP 78 [I w] h (Is (I (wd (z - i).toNat : Nat)) h) := fun i w h a1 a2 a3 => by
    rw [a3]; exact rwide_spec (z - i) (by omega) (by omega) h
  obtain ⟨B, hB⟩ : ∃ B : Int → List UInt8, ∀ i, B i = strB (bitsOf (ms.getD i.toNat 0).toNat (wd (n - i.toNat))) := ⟨_, fun _ => rfl⟩
  obtain ⟨D, hD⟩ : ∃ D : Int → List UInt8, ∀ i, D i = strB (rbits (ms.drop i.toNat)) := ⟨_, fun _ => rfl⟩
  obtain ⟨wd', hwd'⟩ : ∃ w : Int → Int, ∀ i, w i = (wd (z - i).toNat : Nat) := ⟨_, fun _ => rfl⟩
  have hdr : ∀ i : Int, 0 ≤ i → i < z → D i = B i ++ D (i + 1) := fun i a1 a2 => by rw [hD, hD, hB, hdr i a1 a2, strB_append]
  have hBl : ∀ i, (B i).length ≤ 3 := fun i => by rw [hB, strB_len, bitsOf_len]; exact wd_le _
  simp only [← hB, ← hwd'] at hput hwide
  have hD0 : strB (rbits ms) = D 0 := by rw [hD]; simp
  have hDe : D z = [] := by rw [hD, List.drop_eq_nil_of_le (by omega)]; rfl
  have hDl : ∀ i, (D i).length ≤ 24 := fun i => by rw [hD, strB_len]; have := rbits_len (ms.drop i.toNat); rw [List.length_drop] at this; omega
  rw [hD0]
  obtain ⟨T, hT⟩ : ∃ T, T = D 0 := ⟨_, rfl⟩
  have hTl : T.length ≤ 24 := by rw [hT]; exact hDl 0
  rw [← hT]
  have hzr : 1 ≤ z ∧ z ≤ 8 := by omega
  refine pure0 ?_ rfl rfl h
  refine doesF P_ok Try.f42 (by kernel_rfl) (by kernel_rfl) ?_
  intro i2 c2 u1 cv mx mn ad sbt bn bq ba lnI gtI apI sbI stI rpI lnG gtG apG sbG stG rpG fi fb fs fl fg fc sln sgt sap ssb sc b2s s2b nd call calld callv callvd loop rfun fin hk
  have hlm : lnI ms = z := by rw [hk.lnI_eq]; omega
  have hgm := hk.gtI_eq ms
  have hap := hk.sap_eq
  have hsl := hk.sln_eq
  clear hB hD hwd' hmi hz
  (conv => cbv)
  repeat' (first
    | assumption
    | (refine hk.callA (hM _) ?_; (conv => cbv))
    | (refine hk.brLssT (by omega) ?_; (conv => cbv))
    | (refine hk.brLssF (by omega) ?_; (conv => cbv))
    | (refine hk.brLeqT (by omega) ?_; (conv => cbv))
    | (refine hk.brLeqF (by omega) ?_; (conv => cbv))
    | (refine hk.brGtrT (by omega) ?_; (conv => cbv))
    | (refine hk.brGtrF (by omega) ?_; (conv => cbv))
    | (refine hk.brGeqT (by omega) ?_; (conv => cbv))
    | (refine hk.brGeqF (by omega) ?_; (conv => cbv))
    | (refine hk.brEqlT (by omega) ?_; (conv => cbv))
    | (refine hk.brEqlF (by omega) ?_; (conv => cbv))
    | (refine hk.brNeqT (by omega) ?_; (conv => cbv))
    | (refine hk.brNeqF (by omega) ?_; (conv => cbv))
    | (refine hk.brLss (fun _ => ?_) (fun _ => ?_) <;> (conv => cbv))
    | (refine hk.brLeq (fun _ => ?_) (fun _ => ?_) <;> (conv => cbv))
    | (refine hk.brGtr (fun _ => ?_) (fun _ => ?_) <;> (conv => cbv))
    | (refine hk.brGeq (fun _ => ?_) (fun _ => ?_) <;> (conv => cbv))
    | (refine hk.brEql (fun _ => ?_) (fun _ => ?_) <;> (conv => cbv))
    | (refine hk.brNeq (fun _ => ?_) (fun _ => ?_) <;> (conv => cbv))
    | (refine hk.brNotT ?_; (conv => cbv))
    | (refine hk.brNotF ?_; (conv => cbv))
    | (refine hk.brNotS _ (by simp [hk.c2_lss, hk.c2_leq, hk.c2_gtr, hk.c2_geq, hk.c2_eql, hk.c2_neq, hk.bn_eq, hk.bq_eq]; rfl) ?_; (conv => cbv))
    | (refine hk.brBqS _ (by simp [hk.c2_lss, hk.c2_leq, hk.c2_gtr, hk.c2_geq, hk.c2_eql, hk.c2_neq, hk.bn_eq, hk.bq_eq]; rfl) ?_; (conv => cbv))
    | (refine hk.idxI (by first | omega | assumption) (by first | omega | assumption) ?_; (conv => cbv))
    | (refine hk.nzI (by first | omega | assumption | decide) ?_; (conv => cbv))
    | (refine hk.ge0I (by first | omega | assumption) ?_; (conv => cbv))
    | (refine hk.needI (by first | (simp only [rNd, hk.sb_eq, hk.ad_eq]; omega) | (simp [rNd, hk.sb_eq, hk.ad_eq]; omega)) ?_; (conv => cbv))
    | (refine hk.callA (by assumption) ?_; (conv => cbv))
    | (refine hk.calldA (by assumption) ?_; (conv => cbv))
    | (rw [hk.sb0]; (conv => cbv))
    | (rw [hk.ad0]; (conv => cbv))
    | exact hk.finB (by first | rfl | assumption | (simp [hk.c2_lss, hk.c2_leq, hk.c2_gtr, hk.c2_geq, hk.c2_eql, hk.c2_neq, hk.bn_eq, hk.bq_eq]; done))
    | exact hk.fin1 rfl)
  rw [hlm]
  refine hk.loopI (loop_rule (α := Int × List UInt8) (fun x => [(2, .str []), (3, .str x.2), (4, .ls (.il .i64 ms) .any), (9, .int .i64 z), (10, .int .i64 x.1)]) (fun x => [])
    (fun x => 0 ≤ x.1 ∧ x.1 ≤ z ∧ x.2 ++ D x.1 = T) (fun x => (z - x.1).toNat) (0, []) ⟨by omega, by simp only; omega, hT.symm⟩ ?_ ?_)
  · exact Gh.tm (by repeat (first | exact Holds.nil _ _ | refine Holds.cons (Wk.refl _ _) ?_))
  intro ⟨i, cur⟩ ⟨hi, hi2, hJ⟩ Q' hb hx hr
  simp only at hi hi2 hJ
  have hcl : cur.length ≤ 24 := by rw [← hJ, List.length_append] at hTl; omega
  (conv => cbv)
  refine hk.brLss (fun h2 => ?_) (fun h2 => ?_)
  · obtain ⟨w, hw⟩ : ∃ w, w = z - i := ⟨_, rfl⟩
    have hsub : i2 .sub .i64 z i = w := by rw [hw]; exact hk.sub64 _ _ (by omega) (by omega)
    have hwide := fun h => hwide i w h hi h2 hw
    have hput := fun h => hput i h hi h2
    have hdr := hdr i hi h2
    have hgm := hgm i
    have hlb := hBl i
    have hlB := hsl (B i)
    have hlC := hsl cur
    have hapi := hap cur (B i)
    (conv => cbv)
    rw [hlm]
    refine hk.idxI hi h2 ?_
    (conv => cbv)
    try rw [hlm]
    rw [hsub]
    refine hk.calldA hwide ?_
    (conv => cbv)
    rw [hgm]
    refine hk.calldA hput ?_
    (conv => cbv)
    refine hk.needI (by first | (simp only [rNd, hk.ad_eq, hk.sb_eq]; omega) | (simp [rNd, hk.ad_eq, hk.sb_eq]; omega)) ?_
    (conv => cbv)
    rw [hapi]
    refine hb (i + 1, cur ++ B i) _ ⟨by simp only; omega, by simp only; omega, by simp only; rw [← hJ, hdr, List.append_assoc]⟩ (by simp only; omega) ?_
    refine Gh.tm ?_
    repeat' (first | exact Holds.nil _ _ | refine Holds.cons (Wk.refl _ _) ?_ | refine Holds.cons (Wk.of_eq ?_) ?_)
    all_goals first
      | (rw [← hk.add64 i 1 (by omega) (by omega)]; rfl)
      | rfl
      | skip
  · have : i = z := by omega
    subst this
    rw [hDe, List.append_nil] at hJ
    subst hJ
    refine hx _ _ ?_
    (conv => cbv)
    exact hk.fin1 rfl
end Go.Proofs.Ytnnpookoencpnaa
set_option maxHeartbeats 4000000
set_option maxRecDepth 20000
set_option linter.unusedSimpArgs false
set_option linter.unusedVariables false
open Go Go.AL
namespace Go.Proofs.Ytnnpookoencpnaa
def nx (rem : List Bool) (f w : Int) : List Bool := rem.drop (tkN rem f w).toNat
def tmM : Nat → List Bool → Int → List Int
  | 0, _, _ => []
  | k + 1, rem, f => tkV rem f (wd (k + 1) : Nat) :: tmM k (nx rem f (wd (k + 1) : Nat)) (tkF rem f (wd (k + 1) : Nat))
def tmR : Nat → List Bool → Int → List Bool
  | 0, rem, _ => rem
  | k + 1, rem, f => tmR k (nx rem f (wd (k + 1) : Nat)) (tkF rem f (wd (k + 1) : Nat))
def tmF : Nat → List Bool → Int → Int
  | 0, _, f => f
  | k + 1, rem, f => tmF k (nx rem f (wd (k + 1) : Nat)) (tkF rem f (wd (k + 1) : Nat))
theorem tmM_len : ∀ k rem f, (tmM k rem f).length = k
  | 0, _, _ => rfl
  | k + 1, rem, f => by simp [tmM, tmM_len k]
theorem tkN_nn (rem : List Bool) (f n : Int) : 0 ≤ tkN rem f n := by
  unfold tkN
  split
  · rename_i h; exact (tkF_ok h).2.1
  · exact Int.le_refl _
theorem tkN_le (rem : List Bool) (f n : Int) : (tkN rem f n).toNat ≤ rem.length := by
  unfold tkN
  split
  · rename_i h; exact (tkF_ok h).2.2.2
  · simp
theorem tkV_range (rem : List Bool) (f n : Int) : 0 ≤ tkV rem f n ∧ tkV rem f n < 9223372036854775808 := by
  unfold tkV
  split
  · rename_i h
    obtain ⟨_, h1, h2, h3⟩ := tkF_ok h
    have := num_lt62 (rem.take n.toNat) (by rw [List.length_take]; omega)
    omega
  · omega
def ofL (ms : List Int) : List Int := (ofGo (rangeI ms.length) ms).getD []
def ofE (ms : List Int) : Int := if (ofGo (rangeI ms.length) ms).isSome then 0 else 11
theorem of_spec2 (ms : List Int) (h : Heap) (h1 : 1 ≤ ms.length) (h8 : ms.length ≤ 8) : Does PP 28 [LI ms] h (Is (.tup [LI (ofL ms), I (ofE ms)]) h) := by
  refine pure0 (of_spec ms ms.length (ms.length : Nat) rfl rfl h8 h1 (ofL ms) (ofE ms) (fun x e => ?_) (fun e => ?_)) rfl rfl h
  · simp [ofL, ofE, e]
  · simp [ofL, ofE, e]
theorem refOf_spec2 (ms : List Int) (h : Heap) (h1 : 1 ≤ ms.length) (h8 : ms.length ≤ 8) : Does PP 29 [LI ms] h (Is (.tup [LI (ofL ms), .bool (decide (ofE ms = 0))]) h) := by
  refine pure0 (refOf_spec ms (ms.length : Nat) (by simp) (by omega) (by omega) (ofL ms) (decide (ofE ms = 0)) (fun x e => ?_) (fun e => ?_)) rfl rfl h
  · rw [Int.toNat_natCast] at e; simp [ofL, ofE, e]
  · rw [Int.toNat_natCast] at e; simp [ofL, ofE, e]
/-- What taking an order comes to. -/
def toF (k : Nat) (rem : List Bool) (f : Int) : Int := if tmF k rem f = 0 then ofE (tmM k rem f) else tmF k rem f
def toL (k : Nat) (rem : List Bool) (f : Int) : List Int := if tmF k rem f = 0 then ofL (tmM k rem f) else []
def tmA : Nat → List Bool → Int → Int
  | 0, _, _ => 0
  | k + 1, rem, f => tkN rem f (wd (k + 1) : Nat) + tmA k (nx rem f (wd (k + 1) : Nat)) (tkF rem f (wd (k + 1) : Nat))
theorem nx_at (bs : List Int) (a f w : Int) (h : 0 ≤ a) : nx (remOf bs a) f w = remOf bs (a + tkN (remOf bs a) f w) := by
  rw [remOf_add bs a _ h (tkN_nn _ _ _)]; rfl
theorem tmA_ok (bs : List Int) : ∀ (k : Nat) (a f : Int), 0 ≤ a → a.toNat ≤ 8 * bs.length → 0 ≤ a + tmA k (remOf bs a) f ∧ (a + tmA k (remOf bs a) f).toNat ≤ 8 * bs.length ∧ remOf bs (a + tmA k (remOf bs a) f) = tmR k (remOf bs a) f
  | 0, a, f, b1, b2 => by simp [tmA, tmR, b1, b2]
  | k + 1, a, f, b1, b2 => by
    have c1 := tkN_nn (remOf bs a) f (wd (k + 1) : Nat)
    have c2 := tkN_le (remOf bs a) f (wd (k + 1) : Nat)
    rw [remOf_len] at c2
    have ih := tmA_ok bs k (a + tkN (remOf bs a) f (wd (k + 1) : Nat)) (tkF (remOf bs a) f (wd (k + 1) : Nat)) (by omega) (by omega)
    simp only [tmA, tmR, nx_at bs a f _ b1]
    rw [← Int.add_assoc]
    exact ih
theorem rktake_spec (bs : List Int) (at_ fail n : Int) (hB : Bytes8 bs) (h0 : 0 ≤ at_) (h1 : at_.toNat ≤ 8 * bs.length) (hl : bs.length < 137438953472) (hn1 : 1 ≤ n) (hn8 : n ≤ 8) :
    Does PP 35 [.ptr 0 0, I n] (rd bs at_ fail) (Is (LI (toL n.toNat (remOf bs at_) fail)) (rd bs (at_ + tmA n.toNat (remOf bs at_) fail) (toF n.toNat (remOf bs at_) fail))) := by
  have hc := count_spec n
  rw [show (decide (1 ≤ n) && decide (n ≤ 8)) = true by simp; omega] at hc
  obtain ⟨M, hM⟩ : ∃ M, M = tmM n.toNat (remOf bs at_) fail := ⟨_, rfl⟩
  obtain ⟨A, hA⟩ : ∃ A, A = at_ + tmA n.toNat (remOf bs at_) fail := ⟨_, rfl⟩
  obtain ⟨F, hF⟩ : ∃ F, F = tmF n.toNat (remOf bs at_) fail := ⟨_, rfl⟩
  have hL2 : toL n.toNat (remOf bs at_) fail = if F = 0 then ofL M else [] := by rw [toL, hF, hM]
  have hF2 : toF n.toNat (remOf bs at_) fail = if F = 0 then ofE M else F := by rw [toF, hF, hM]
  have hMl : M.length = n.toNat := by rw [hM, tmM_len]
  rw [hL2, hF2, ← hA]
  have hof := fun h => of_spec2 M h (by omega) (by omega)
  have hgv := fun e => give_spec bs A 0 e
  simp only [if_true] at hgv
  have hfl := fail_spec bs A F
  obtain ⟨L, hL⟩ : ∃ L, L = ofL M := ⟨_, rfl⟩
  obtain ⟨E, hE⟩ : ∃ E, E = ofE M := ⟨_, rfl⟩
  rw [← hL, ← hE] at hof
  rw [← hL, ← hE]
  -- one step
  have hstep : ∀ (i a f : Int), 0 ≤ i → i < n → 0 ≤ a → a.toNat ≤ 8 * bs.length → ∃ (v a1 f1 : Int), 0 ≤ v ∧ v < 9223372036854775808 ∧ 0 ≤ a1 ∧ a1.toNat ≤ 8 * bs.length ∧
      Does PP 74 [.ptr 0 0, I (wd (n - i).toNat : Nat)] (rd bs a f) (Is (.int .u64 v) (rd bs a1 f1)) ∧
      tmM (n - i).toNat (remOf bs a) f = v :: tmM (n - (i + 1)).toNat (remOf bs a1) f1 ∧ a + tmA (n - i).toNat (remOf bs a) f = a1 + tmA (n - (i + 1)).toNat (remOf bs a1) f1 ∧
      tmF (n - i).toNat (remOf bs a) f = tmF (n - (i + 1)).toNat (remOf bs a1) f1 := fun i a f b1 b2 b3 b4 => by
    have e : (n - i).toNat = (n - (i + 1)).toNat + 1 := by omega
    have c1 := tkN_nn (remOf bs a) f (wd (n - i).toNat : Nat)
    have c2 := tkN_le (remOf bs a) f (wd (n - i).toNat : Nat)
    have c3 := tkV_range (remOf bs a) f (wd (n - i).toNat : Nat)
    rw [remOf_len] at c2
    refine ⟨tkV (remOf bs a) f (wd (n - i).toNat : Nat), a + tkN (remOf bs a) f (wd (n - i).toNat : Nat), tkF (remOf bs a) f (wd (n - i).toNat : Nat), c3.1, c3.2, by omega, by omega, rtake_spec bs a f _ hB b3 b4 hl, ?_, ?_, ?_⟩
    · rw [← nx_at bs a f _ b3, e]; rfl
    · rw [← nx_at bs a f _ b3, e, Int.add_assoc]; rfl
    · rw [← nx_at bs a f _ b3, e]; rfl
  have hstep : ∀ (i a f : Int), 0 ≤ i → i < n → 0 ≤ a → a.toNat ≤ 8 * bs.length → ∃ (v a1 f1 : Int), 0 ≤ v ∧ v < 9223372036854775808 ∧ 0 ≤ a1 ∧ a1.toNat ≤ 8 * bs.length ∧
      Does PP 74 [.ptr 0 0, I (wd (n - i).toNat : Nat)] [.box [.ls (.il .u8 bs) .any, .int .i64 a, .int .i64 f], .tok 0] (Is (.int .u64 v) [.box [.ls (.il .u8 bs) .any, .int .i64 a1, .int .i64 f1], .tok 0]) ∧
      tmM (n - i).toNat (remOf bs a) f = v :: tmM (n - (i + 1)).toNat (remOf bs a1) f1 ∧ a + tmA (n - i).toNat (remOf bs a) f = a1 + tmA (n - (i + 1)).toNat (remOf bs a1) f1 ∧
      tmF (n - i).toNat (remOf bs a) f = tmF (n - (i + 1)).toNat (remOf bs a1) f1 := fun i a f b1 b2 b3 b4 => by
    obtain ⟨v, a1, f1, d1, d2, d3, d4, d5, d6⟩ := hstep i a f b1 b2 b3 b4
    exact ⟨v, a1, f1, d1, d2, d3, d4, d5.renI [0] rfl (by decide) rfl ⟨rfl, trivial⟩ rfl rfl rfl rfl rfl rfl, d6⟩
  have hfl : Does PP 38 [.ptr 0 0] [.box [.ls (.il .u8 bs) .any, .int .i64 A, .int .i64 F], .tok 0] (Is (I F) [.box [.ls (.il .u8 bs) .any, .int .i64 A, .int .i64 F], .tok 0]) :=
    hfl.renI [0] rfl (by decide) rfl ⟨rfl, trivial⟩ rfl rfl rfl rfl rfl rfl
  have hgv : ∀ e, Does PP 73 [.ptr 0 0, I e] [.box [.ls (.il .u8 bs) .any, .int .i64 A, .int .i64 0], .tok 0] (Is (.tup []) [.box [.ls (.il .u8 bs) .any, .int .i64 A, .int .i64 e], .tok 0]) := fun e =>
    (hgv e).renI [0] rfl (by decide) rfl ⟨rfl, trivial⟩ rfl rfl rfl rfl rfl rfl
  have hwide : ∀ (i w : Int) h, 0 ≤ i → i < n → w = n - i → Does PP 75 [I w] h (Is (I (wd (n - i).toNat : Nat)) h) := fun i w h a1 a2 a3 => by
    rw [a3]; exact wide_spec (n - i) (by omega) (by omega) h
  obtain ⟨wd', hwd'⟩ : ∃ w : Int → Int, ∀ i, w i = (wd (n - i).toNat : Nat) := ⟨_, fun _ => rfl⟩
  simp only [← hwd'] at hwide hstep
  obtain ⟨J, hJd⟩ : ∃ J : Int → Int → Int → List Int → Prop, ∀ i a f ms, J i a f ms ↔ 0 ≤ a ∧ a.toNat ≤ 8 * bs.length ∧ ms.length = i.toNat ∧ ms ++ tmM (n - i).toNat (remOf bs a) f = M ∧ a + tmA (n - i).toNat (remOf bs a) f = A ∧ tmF (n - i).toNat (remOf bs a) f = F := ⟨_, fun _ _ _ _ => Iff.rfl⟩
  have hJ0 : J 0 at_ fail [] := (hJd _ _ _ _).2 ⟨h0, h1, rfl, by simp [hM], by simp [hA], by simp [hF]⟩
  have hJe : ∀ a f ms, J n a f ms → ms = M ∧ a = A ∧ f = F := fun a f ms h => by
    obtain ⟨b1, b2, b3, b4, b5, b6⟩ := (hJd _ _ _ _).1 h
    rw [show (n - n).toNat = 0 by omega] at b4 b5 b6
    simp only [tmM, tmA, tmF, List.append_nil, Int.add_zero] at b4 b5 b6
    exact ⟨b4, b5, b6⟩
  have hJl : ∀ i a f ms, 0 ≤ i → J i a f ms → ms.length = i.toNat := fun i a f ms _ h => ((hJd _ _ _ _).1 h).2.2.1
  have hJs : ∀ i a f ms, 0 ≤ i → i < n → J i a f ms → ∃ v a1 f1, 0 ≤ v ∧ v < 9223372036854775808 ∧ Does PP 74 [.ptr 0 0, I (wd' i)] [.box [.ls (.il .u8 bs) .any, .int .i64 a, .int .i64 f], .tok 0] (Is (.int .u64 v) [.box [.ls (.il .u8 bs) .any, .int .i64 a1, .int .i64 f1], .tok 0]) ∧ J (i + 1) a1 f1 (ms ++ [v]) := fun i a f ms b1 b2 h => by
    obtain ⟨c1, c2, c3, c4, c5, c6⟩ := (hJd _ _ _ _).1 h
    obtain ⟨v, a1, f1, d1, d2, d3, d4, d5, d6, d7, d8⟩ := hstep i a f b1 b2 c1 c2
    refine ⟨v, a1, f1, d1, d2, d5, (hJd _ _ _ _).2 ⟨d3, d4, by rw [List.length_append, c3]; simp; omega, by rw [← c4, d6]; simp, by rw [← c5, d7], by rw [← c6, d8]⟩⟩
  unfold rd
  clear hstep hJd hwd' hM hA hF hL2 hF2 hL hE hB
  refine doesF P_ok Try.f35 (by kernel_rfl) (by kernel_rfl) ?_
  intro i2 c2 u1 cv mx mn ad sbt bn bq ba lnI gtI apI sbI stI rpI lnG gtG apG sbG stG rpG fi fb fs fl fg fc sln sgt sap ssb sc b2s s2b nd call calld callv callvd loop rfun fin hk
  have hlo : ∀ ms i, 0 ≤ i → ms.length = i.toNat → lnI ms = i := fun ms i h h2 => by rw [hk.lnI_eq]; omega
  have hl1 : ∀ x, lnI [x] = 1 := fun x => hk.lnI_eq _
  (conv => cbv)
  repeat' (first
    | assumption
    | (refine hk.callA (hc _) ?_; (conv => cbv))
    | (refine hk.brLssT (by omega) ?_; (conv => cbv))
    | (refine hk.brLssF (by omega) ?_; (conv => cbv))
    | (refine hk.brLeqT (by omega) ?_; (conv => cbv))
    | (refine hk.brLeqF (by omega) ?_; (conv => cbv))
    | (refine hk.brGtrT (by omega) ?_; (conv => cbv))
    | (refine hk.brGtrF (by omega) ?_; (conv => cbv))
    | (refine hk.brGeqT (by omega) ?_; (conv => cbv))
    | (refine hk.brGeqF (by omega) ?_; (conv => cbv))
    | (refine hk.brEqlT (by omega) ?_; (conv => cbv))
    | (refine hk.brEqlF (by omega) ?_; (conv => cbv))
    | (refine hk.brNeqT (by omega) ?_; (conv => cbv))
    | (refine hk.brNeqF (by omega) ?_; (conv => cbv))
    | (refine hk.brLss (fun _ => ?_) (fun _ => ?_) <;> (conv => cbv))
    | (refine hk.brLeq (fun _ => ?_) (fun _ => ?_) <;> (conv => cbv))
    | (refine hk.brGtr (fun _ => ?_) (fun _ => ?_) <;> (conv => cbv))
    | (refine hk.brGeq (fun _ => ?_) (fun _ => ?_) <;> (conv => cbv))
    | (refine hk.brEql (fun _ => ?_) (fun _ => ?_) <;> (conv => cbv))
    | (refine hk.brNeq (fun _ => ?_) (fun _ => ?_) <;> (conv => cbv))
    | (refine hk.brNotT ?_; (conv => cbv))
    | (refine hk.brNotF ?_; (conv => cbv))
    | (refine hk.brNotS _ (by simp [hk.c2_lss, hk.c2_leq, hk.c2_gtr, hk.c2_geq, hk.c2_eql, hk.c2_neq, hk.bn_eq, hk.bq_eq]; rfl) ?_; (conv => cbv))
    | (refine hk.brBqS _ (by simp [hk.c2_lss, hk.c2_leq, hk.c2_gtr, hk.c2_geq, hk.c2_eql, hk.c2_neq, hk.bn_eq, hk.bq_eq]; rfl) ?_; (conv => cbv))
    | (refine hk.idxI (by first | omega | assumption) (by first | omega | assumption) ?_; (conv => cbv))
    | (refine hk.nzI (by first | omega | assumption | decide) ?_; (conv => cbv))
    | (refine hk.ge0I (by first | omega | assumption) ?_; (conv => cbv))
    | (refine hk.needI (by first | (simp only [rNd, hk.sb_eq, hk.ad_eq]; omega) | (simp [rNd, hk.sb_eq, hk.ad_eq]; omega)) ?_; (conv => cbv))
    | (refine hk.callA (by assumption) ?_; (conv => cbv))
    | (refine hk.calldA (by assumption) ?_; (conv => cbv))
    | (rw [hk.sb0]; (conv => cbv))
    | (rw [hk.ad0]; (conv => cbv))
    | exact hk.finB (by first | rfl | assumption | (simp [hk.c2_lss, hk.c2_leq, hk.c2_gtr, hk.c2_geq, hk.c2_eql, hk.c2_neq, hk.bn_eq, hk.bq_eq]; done))
    | exact hk.fin1 rfl)
  refine hk.loopI (loop_rule (α := Int × Int × Int × List Int) (fun x => [(0, .ptr 0 0), (1, .int .i64 n), (4, .ls .nl .nil), (5, .ls (.il .i64 x.2.2.2) (.tok 1 0)), (14, .int .i64 n), (15, .int .i64 x.1)]) (fun x => [.box [.ls (.il .u8 bs) .any, .int .i64 x.2.1, .int .i64 x.2.2.1], .tok 0])
    (fun x => 0 ≤ x.1 ∧ x.1 ≤ n ∧ J x.1 x.2.1 x.2.2.1 x.2.2.2) (fun x => (n - x.1).toNat) (0, at_, fail, []) ⟨by omega, by simp only; omega, hJ0⟩ ?_ ?_)
  · refine Gh.trans (Gh.thaw 5 (.il .i64 []) rfl trivial rfl) (Gh.tm ?_)
    repeat' (first | exact Holds.nil _ _ | refine Holds.cons (Wk.refl _ _) ?_)
  intro ⟨i, a, f, ms⟩ ⟨hi, hi2, hJ⟩ Q' hb hx hr
  simp only at hi hi2 hJ
  have hml := hJl i a f ms hi hJ
  (conv => cbv)
  refine hk.brLss (fun h2 => ?_) (fun h2 => ?_)
  · obtain ⟨w, hw⟩ : ∃ w, w = n - i := ⟨_, rfl⟩
    have hsub : i2 .sub .i64 n i = w := by rw [hw]; exact hk.sub64 _ _ (by omega) (by omega)
    have hwide := fun h => hwide i w h hi h2 hw
    obtain ⟨v, a1, f1, v0, v1, htk, hJ1⟩ := hJs i a f ms hi h2 hJ
    have hcv : cv .i64 v = v := by rw [hk.cv_eq]; exact wrap64 (by omega) (by omega)
    have hap : apI ms [v] = ms ++ [v] := hk.apI_eq _ _
    have hlo := hlo ms i hi hml
    (conv => cbv)
    rw [hsub]
    repeat' (first
      | assumption
      | (refine hk.callA (hwide _) ?_; (conv => cbv))
      | (refine hk.calldA hwide ?_; (conv => cbv))
      | (rw [hcv]; (conv => cbv))
      | (refine hk.callA htk ?_; (conv => cbv))
      | (refine hk.brLssT (by omega) ?_; (conv => cbv))
      | (refine hk.brLssF (by omega) ?_; (conv => cbv))
      | (refine hk.brLeqT (by omega) ?_; (conv => cbv))
      | (refine hk.brLeqF (by omega) ?_; (conv => cbv))
      | (refine hk.brGtrT (by omega) ?_; (conv => cbv))
      | (refine hk.brGtrF (by omega) ?_; (conv => cbv))
      | (refine hk.brGeqT (by omega) ?_; (conv => cbv))
      | (refine hk.brGeqF (by omega) ?_; (conv => cbv))
      | (refine hk.brEqlT (by omega) ?_; (conv => cbv))
      | (refine hk.brEqlF (by omega) ?_; (conv => cbv))
      | (refine hk.brNeqT (by omega) ?_; (conv => cbv))
      | (refine hk.brNeqF (by omega) ?_; (conv => cbv))
      | (refine hk.brLss (fun _ => ?_) (fun _ => ?_) <;> (conv => cbv))
      | (refine hk.brLeq (fun _ => ?_) (fun _ => ?_) <;> (conv => cbv))
      | (refine hk.brGtr (fun _ => ?_) (fun _ => ?_) <;> (conv => cbv))
      | (refine hk.brGeq (fun _ => ?_) (fun _ => ?_) <;> (conv => cbv))
      | (refine hk.brEql (fun _ => ?_) (fun _ => ?_) <;> (conv => cbv))
      | (refine hk.brNeq (fun _ => ?_) (fun _ => ?_) <;> (conv => cbv))
      | (refine hk.brNotT ?_; (conv => cbv))
      | (refine hk.brNotF ?_; (conv => cbv))
      | (refine hk.brNotS _ (by simp [hk.c2_lss, hk.c2_leq, hk.c2_gtr, hk.c2_geq, hk.c2_eql, hk.c2_neq, hk.bn_eq, hk.bq_eq]; rfl) ?_; (conv => cbv))
      | (refine hk.brBqS _ (by simp [hk.c2_lss, hk.c2_leq, hk.c2_gtr, hk.c2_geq, hk.c2_eql, hk.c2_neq, hk.bn_eq, hk.bq_eq]; rfl) ?_; (conv => cbv))
      | (refine hk.idxI (by first | omega | assumption) (by first | omega | assumption) ?_; (conv => cbv))
      | (refine hk.nzI (by first | omega | assumption | decide) ?_; (conv => cbv))
      | (refine hk.ge0I (by first | omega | assumption) ?_; (conv => cbv))
      | (refine hk.needI (by first | (simp only [rNd, hk.sb_eq, hk.ad_eq]; omega) | (simp [rNd, hk.sb_eq, hk.ad_eq]; omega)) ?_; (conv => cbv))
      | (refine hk.callA (by assumption) ?_; (conv => cbv))
      | (refine hk.calldA (by assumption) ?_; (conv => cbv))
      | (rw [hk.sb0]; (conv => cbv))
      | (rw [hk.ad0]; (conv => cbv))
      | exact hk.finB (by first | rfl | assumption | (simp [hk.c2_lss, hk.c2_leq, hk.c2_gtr, hk.c2_geq, hk.c2_eql, hk.c2_neq, hk.bn_eq, hk.bq_eq]; done))
      | exact hk.fin1 rfl)
    rw [hl1, hlo, hap]
    refine hk.needI (by first | (simp only [rNd, hk.ad_eq, hk.sb_eq]; omega) | (simp [rNd, hk.ad_eq, hk.sb_eq]; omega)) ?_
    (conv => cbv)
    refine hb (i + 1, a1, f1, ms ++ [v]) _ ⟨by simp only; omega, by simp only; omega, hJ1⟩ (by simp only; omega) ?_
    refine Gh.retok 1 1 rfl (Nat.le_of_ble_eq_true rfl) ?_ rfl rfl
    repeat' (first | exact HoldsT.nil _ _ _ _ | refine HoldsT.tok rfl ?_ | refine HoldsT.cons (Wk.refl _ _) rfl ?_ | refine HoldsT.cons (Wk.of_eq ?_) rfl ?_)
    all_goals first
      | (rw [← hk.add64 i 1 (by omega) (by omega)]; rfl)
      | rfl
      | skip
  · have : i = n := by omega
    subst this
    obtain ⟨e1, e2, e3⟩ := hJe a f ms hJ
    subst e1 e2 e3
    refine hx _ _ ?_
    (conv => cbv)
    repeat' (first
      | assumption
      | (refine hk.brLssT (by omega) ?_; (conv => cbv))
      | (refine hk.brLssF (by omega) ?_; (conv => cbv))
      | (refine hk.brLeqT (by omega) ?_; (conv => cbv))
      | (refine hk.brLeqF (by omega) ?_; (conv => cbv))
      | (refine hk.brGtrT (by omega) ?_; (conv => cbv))
      | (refine hk.brGtrF (by omega) ?_; (conv => cbv))
      | (refine hk.brGeqT (by omega) ?_; (conv => cbv))
      | (refine hk.brGeqF (by omega) ?_; (conv => cbv))
      | (refine hk.brEqlT (by omega) ?_; (conv => cbv))
      | (refine hk.brEqlF (by omega) ?_; (conv => cbv))
      | (refine hk.brNeqT (by omega) ?_; (conv => cbv))
      | (refine hk.brNeqF (by omega) ?_; (conv => cbv))
      | (refine hk.brLss (fun _ => ?_) (fun _ => ?_) <;> (conv => cbv))
      | (refine hk.brLeq (fun _ => ?_) (fun _ => ?_) <;> (conv => cbv))
      | (refine hk.brGtr (fun _ => ?_) (fun _ => ?_) <;> (conv => cbv))
      | (refine hk.brGeq (fun _ => ?_) (fun _ => ?_) <;> (conv => cbv))
      | (refine hk.brEql (fun _ => ?_) (fun _ => ?_) <;> (conv => cbv))
      | (refine hk.brNeq (fun _ => ?_) (fun _ => ?_) <;> (conv => cbv))
      | (refine hk.brNotT ?_; (conv => cbv))
      | (refine hk.brNotF ?_; (conv => cbv))
      | (refine hk.brNotS _ (by simp [hk.c2_lss, hk.c2_leq, hk.c2_gtr, hk.c2_geq, hk.c2_eql, hk.c2_neq, hk.bn_eq, hk.bq_eq]; rfl) ?_; (conv => cbv))
      | (refine hk.brBqS _ (by simp [hk.c2_lss, hk.c2_leq, hk.c2_gtr, hk.c2_geq, hk.c2_eql, hk.c2_neq, hk.bn_eq, hk.bq_eq]; rfl) ?_; (conv => cbv))
      | (refine hk.idxI (by first | omega | assumption) (by first | omega | assumption) ?_; (conv => cbv))
      | (refine hk.nzI (by first | omega | assumption | decide) ?_; (conv => cbv))
      | (refine hk.ge0I (by first | omega | assumption) ?_; (conv => cbv))
      | (refine hk.needI (by first | (simp only [rNd, hk.sb_eq, hk.ad_eq]; omega) | (simp [rNd, hk.sb_eq, hk.ad_eq]; omega)) ?_; (conv => cbv))
      | (refine hk.callA (by assumption) ?_; (conv => cbv))
      | (refine hk.calldA (by assumption) ?_; (conv => cbv))
      | (rw [hk.sb0]; (conv => cbv))
      | (rw [hk.ad0]; (conv => cbv))
      | exact hk.finB (by first | rfl | assumption | (simp [hk.c2_lss, hk.c2_leq, hk.c2_gtr, hk.c2_geq, hk.c2_eql, hk.c2_neq, hk.bn_eq, hk.bq_eq]; done))
      | exact hk.fin1 rfl)
    · rename_i hf
      rw [if_neg hf, if_neg hf]
      exact hk.finI (fin_lowN 1 (Nat.le_refl 1) (Wk.nilL _ _) rfl rfl ⟨rfl, rfl⟩)
    · rename_i hf
      subst hf
      simp only [if_true]
      repeat' (first
        | assumption
        | (refine hk.callA (Does.wk (hof _) ?_) ?_
           · (repeat' (first | exact WkL.nil | refine WkL.cons (Wk.refl _ _) ?_ | refine WkL.cons (Wk.any _ _ _) ?_ | refine WkL.cons (Wk.nilL _ _) ?_))
           (conv => cbv))
        | (refine hk.callA (hgv _) ?_; (conv => cbv))
        | (refine hk.brLssT (by omega) ?_; (conv => cbv))
        | (refine hk.brLssF (by omega) ?_; (conv => cbv))
        | (refine hk.brLeqT (by omega) ?_; (conv => cbv))
        | (refine hk.brLeqF (by omega) ?_; (conv => cbv))
        | (refine hk.brGtrT (by omega) ?_; (conv => cbv))
        | (refine hk.brGtrF (by omega) ?_; (conv => cbv))
        | (refine hk.brGeqT (by omega) ?_; (conv => cbv))
        | (refine hk.brGeqF (by omega) ?_; (conv => cbv))
        | (refine hk.brEqlT (by omega) ?_; (conv => cbv))
        | (refine hk.brEqlF (by omega) ?_; (conv => cbv))
        | (refine hk.brNeqT (by omega) ?_; (conv => cbv))
        | (refine hk.brNeqF (by omega) ?_; (conv => cbv))
        | (refine hk.brLss (fun _ => ?_) (fun _ => ?_) <;> (conv => cbv))
        | (refine hk.brLeq (fun _ => ?_) (fun _ => ?_) <;> (conv => cbv))
        | (refine hk.brGtr (fun _ => ?_) (fun _ => ?_) <;> (conv => cbv))
        | (refine hk.brGeq (fun _ => ?_) (fun _ => ?_) <;> (conv => cbv))
        | (refine hk.brEql (fun _ => ?_) (fun _ => ?_) <;> (conv => cbv))
        | (refine hk.brNeq (fun _ => ?_) (fun _ => ?_) <;> (conv => cbv))
        | (refine hk.brNotT ?_; (conv => cbv))
        | (refine hk.brNotF ?_; (conv => cbv))
        | (refine hk.brNotS _ (by simp [hk.c2_lss, hk.c2_leq, hk.c2_gtr, hk.c2_geq, hk.c2_eql, hk.c2_neq, hk.bn_eq, hk.bq_eq]; rfl) ?_; (conv => cbv))
        | (refine hk.brBqS _ (by simp [hk.c2_lss, hk.c2_leq, hk.c2_gtr, hk.c2_geq, hk.c2_eql, hk.c2_neq, hk.bn_eq, hk.bq_eq]; rfl) ?_; (conv => cbv))
        | (refine hk.idxI (by first | omega | assumption) (by first | omega | assumption) ?_; (conv => cbv))
        | (refine hk.nzI (by first | omega | assumption | decide) ?_; (conv => cbv))
        | (refine hk.ge0I (by first | omega | assumption) ?_; (conv => cbv))
        | (refine hk.needI (by first | (simp only [rNd, hk.sb_eq, hk.ad_eq]; omega) | (simp [rNd, hk.sb_eq, hk.ad_eq]; omega)) ?_; (conv => cbv))
        | (refine hk.callA (by assumption) ?_; (conv => cbv))
        | (refine hk.calldA (by assumption) ?_; (conv => cbv))
        | (rw [hk.sb0]; (conv => cbv))
        | (rw [hk.ad0]; (conv => cbv))
        | exact hk.finB (by first | rfl | assumption | (simp [hk.c2_lss, hk.c2_leq, hk.c2_gtr, hk.c2_geq, hk.c2_eql, hk.c2_neq, hk.bn_eq, hk.bq_eq]; done))
        | exact hk.fin1 rfl)
      exact hk.finI (fin_lowN 1 (Nat.le_refl 1) (.refl _ _) rfl rfl ⟨rfl, rfl⟩)
theorem rktake_bad (bs : List Int) (at_ fail n : Int) (hb : ¬ (1 ≤ n ∧ n ≤ 8)) :
    Does PP 35 [.ptr 0 0, I n] (rd bs at_ fail) (Is (LI []) (rd bs at_ (if fail = 0 then 1 else fail))) := by
  have hc := count_spec n
  rw [show (decide (1 ≤ n) && decide (n ≤ 8)) = false by simp; omega] at hc
  have hgv := give_spec bs at_ fail 1
  obtain ⟨f, hf⟩ : ∃ f, f = if fail = 0 then 1 else fail := ⟨_, rfl⟩
  rw [← hf] at hgv ⊢
  unfold rd at hgv ⊢
  clear hf
  refine doesF P_ok Try.f35 (by kernel_rfl) (by kernel_rfl) ?_
  intro i2 c2 u1 cv mx mn ad sbt bn bq ba lnI gtI apI sbI stI rpI lnG gtG apG sbG stG rpG fi fb fs fl fg fc sln sgt sap ssb sc b2s s2b nd call calld callv callvd loop rfun fin hk
  (conv => cbv)
  repeat' (first
    | assumption
    | (refine hk.callA (hc _) ?_; (conv => cbv))
    | (refine hk.brLssT (by omega) ?_; (conv => cbv))
    | (refine hk.brLssF (by omega) ?_; (conv => cbv))
    | (refine hk.brLeqT (by omega) ?_; (conv => cbv))
    | (refine hk.brLeqF (by omega) ?_; (conv => cbv))
    | (refine hk.brGtrT (by omega) ?_; (conv => cbv))
    | (refine hk.brGtrF (by omega) ?_; (conv => cbv))
    | (refine hk.brGeqT (by omega) ?_; (conv => cbv))
    | (refine hk.brGeqF (by omega) ?_; (conv => cbv))
    | (refine hk.brEqlT (by omega) ?_; (conv => cbv))
    | (refine hk.brEqlF (by omega) ?_; (conv => cbv))
    | (refine hk.brNeqT (by omega) ?_; (conv => cbv))
    | (refine hk.brNeqF (by omega) ?_; (conv => cbv))
    | (refine hk.brLss (fun _ => ?_) (fun _ => ?_) <;> (conv => cbv))
    | (refine hk.brLeq (fun _ => ?_) (fun _ => ?_) <;> (conv => cbv))
    | (refine hk.brGtr (fun _ => ?_) (fun _ => ?_) <;> (conv => cbv))
    | (refine hk.brGeq (fun _ => ?_) (fun _ => ?_) <;> (conv => cbv))
    | (refine hk.brEql (fun _ => ?_) (fun _ => ?_) <;> (conv => cbv))
    | (refine hk.brNeq (fun _ => ?_) (fun _ => ?_) <;> (conv => cbv))
    | (refine hk.brNotT ?_; (conv => cbv))
    | (refine hk.brNotF ?_; (conv => cbv))
    | (refine hk.brNotS _ (by simp [hk.c2_lss, hk.c2_leq, hk.c2_gtr, hk.c2_geq, hk.c2_eql, hk.c2_neq, hk.bn_eq, hk.bq_eq]; rfl) ?_; (conv => cbv))
    | (refine hk.brBqS _ (by simp [hk.c2_lss, hk.c2_leq, hk.c2_gtr, hk.c2_geq, hk.c2_eql, hk.c2_neq, hk.bn_eq, hk.bq_eq]; rfl) ?_; (conv => cbv))
    | (refine hk.idxI (by first | omega | assumption) (by first | omega | assumption) ?_; (conv => cbv))
    | (refine hk.nzI (by first | omega | assumption | decide) ?_; (conv => cbv))
    | (refine hk.ge0I (by first | omega | assumption) ?_; (conv => cbv))
    | (refine hk.needI (by first | (simp only [rNd, hk.sb_eq, hk.ad_eq]; omega) | (simp [rNd, hk.sb_eq, hk.ad_eq]; omega)) ?_; (conv => cbv))
    | (refine hk.callA (by assumption) ?_; (conv => cbv))
    | (refine hk.calldA (by assumption) ?_; (conv => cbv))
    | (rw [hk.sb0]; (conv => cbv))
    | (rw [hk.ad0]; (conv => cbv))
    | exact hk.finB (by first | rfl | assumption | (simp [hk.c2_lss, hk.c2_leq, hk.c2_gtr, hk.c2_geq, hk.c2_eql, hk.c2_neq, hk.bn_eq, hk.bq_eq]; done))
    | exact hk.fin1 rfl)
  exact hk.finI (fin_lowN 1 (Nat.le_refl 1) (Wk.nilL _ _) rfl rfl ⟨rfl, rfl⟩)
end Go.Proofs.Ytnnpookoencpnaa
set_option maxHeartbeats 4000000
set_option maxRecDepth 20000
set_option linter.unusedSimpArgs false
set_option linter.unusedVariables false
open Go Go.AL
namespace Go.Proofs.Ytnnpookoencpnaa
theorem refRtake_spec (rem : List Bool) (all fail n : Int) (h : Heap) (hl : rem.length < 1099511627776) (hn1 : 1 ≤ n) (hn8 : n ≤ 8) :
    Does PP 36 [rrd (strB rem) all fail, I n] h (Is (.tup [rrd (strB (tmR n.toNat rem fail)) all (toF n.toNat rem fail), LI (toL n.toNat rem fail)]) h) := by
  obtain ⟨M, hM⟩ : ∃ M, M = tmM n.toNat rem fail := ⟨_, rfl⟩
  obtain ⟨R, hR⟩ : ∃ A, A = tmR n.toNat rem fail := ⟨_, rfl⟩
  obtain ⟨F, hF⟩ : ∃ F, F = tmF n.toNat rem fail := ⟨_, rfl⟩
  have hL2 : toL n.toNat rem fail = if F = 0 then ofL M else [] := by rw [toL, hF, hM]
  have hF2 : toF n.toNat rem fail = if F = 0 then ofE M else F := by rw [toF, hF, hM]
  have hMl : M.length = n.toNat := by rw [hM, tmM_len]
  rw [hL2, hF2, ← hR]
  have hof := fun h => refOf_spec2 M h (by omega) (by omega)
  have hgv := fun s e h => refGive_spec s all 0 e h
  simp only [if_true] at hgv
  obtain ⟨L, hL⟩ : ∃ L, L = ofL M := ⟨_, rfl⟩
  obtain ⟨E, hE⟩ : ∃ E, E = ofE M := ⟨_, rfl⟩
  obtain ⟨Eb, hEb⟩ : ∃ E, E = decide (ofE M = 0) := ⟨_, rfl⟩
  have hEc : (Eb = true ∧ E = 0) ∨ (Eb = false ∧ E = 11 ∧ L = []) := by
    rw [hEb, hE, hL]
    unfold ofE ofL
    cases ofGo (rangeI M.length) M <;> simp
  rw [← hL, ← hEb] at hof
  rw [← hL, ← hE]
  have hwide : ∀ (i w : Int) h, 0 ≤ i → i < n → w = n - i → Does PP 78 [I w] h (Is (I (wd (n - i).toNat : Nat)) h) := fun i w h a1 a2 a3 => by
    rw [a3]; exact rwide_spec (n - i) (by omega) (by omega) h
  obtain ⟨wd', hwd'⟩ : ∃ w : Int → Int, ∀ i, w i = (wd (n - i).toNat : Nat) := ⟨_, fun _ => rfl⟩
  simp only [← hwd'] at hwide
  obtain ⟨J, hJd⟩ : ∃ J : Int → List UInt8 → Int → List Int → Prop, ∀ i s f ms, J i s f ms ↔ ∃ rm : List Bool, s = strB rm ∧ rm.length ≤ rem.length ∧ ms.length = i.toNat ∧ ms ++ tmM (n - i).toNat rm f = M ∧ tmR (n - i).toNat rm f = R ∧ tmF (n - i).toNat rm f = F := ⟨_, fun _ _ _ _ => Iff.rfl⟩
  have hJ0 : J 0 (strB rem) fail [] := (hJd _ _ _ _).2 ⟨rem, rfl, Nat.le_refl _, rfl, by simp [hM], by simp [hR], by simp [hF]⟩
  have hJe : ∀ s f ms, J n s f ms → ms = M ∧ s = strB R ∧ f = F := fun s f ms h => by
    obtain ⟨rm, b1, b2, b3, b4, b5, b6⟩ := (hJd _ _ _ _).1 h
    rw [show (n - n).toNat = 0 by omega] at b4 b5 b6
    simp only [tmM, tmR, tmF, List.append_nil] at b4 b5 b6
    exact ⟨b4, by rw [b1, b5], b6⟩
  have hJl : ∀ i s f ms, 0 ≤ i → J i s f ms → ms.length = i.toNat := fun i s f ms _ h => by
    obtain ⟨rm, b1, b2, b3, _⟩ := (hJd _ _ _ _).1 h
    exact b3
  have hJs : ∀ i s f ms, 0 ≤ i → i < n → J i s f ms → ∃ v s1 f1, (∀ h, Does PP 77 [rrd s all f, I (wd' i)] h (Is (.tup [rrd s1 all f1, I v]) h)) ∧ J (i + 1) s1 f1 (ms ++ [v]) := fun i s f ms b1 b2 h => by
    obtain ⟨rm, c1, c2, c3, c4, c5, c6⟩ := (hJd _ _ _ _).1 h
    have e : (n - i).toNat = (n - (i + 1)).toNat + 1 := by omega
    refine ⟨tkV rm f (wd (n - i).toNat : Nat), strB (nx rm f (wd (n - i).toNat : Nat)), tkF rm f (wd (n - i).toNat : Nat), fun h => ?_, (hJd _ _ _ _).2 ⟨_, rfl, ?_, ?_, ?_, ?_, ?_⟩⟩
    · rw [c1, hwd']
      exact refTake_spec rm all f _ h (by omega)
    · unfold nx; rw [List.length_drop]; omega
    · rw [List.length_append, c3]; simp; omega
    · rw [← c4, e]; simp [tmM]
    · rw [← c5, e]; rfl
    · rw [← c6, e]; rfl
  obtain ⟨S0, hS0⟩ : ∃ S, S = strB rem := ⟨_, rfl⟩
  obtain ⟨SR, hSR⟩ : ∃ S, S = strB R := ⟨_, rfl⟩
  rw [← hS0] at hJ0
  simp only [← hSR] at hJe
  rw [← hS0, ← hSR]
  clear hJd hwd' hM hR hF hL2 hF2 hL hE hEb hS0 hSR
  refine pure0 ?_ rfl rfl h
  refine doesF P_ok Try.f36 (by kernel_rfl) (by kernel_rfl) ?_
  intro i2 c2 u1 cv mx mn ad sbt bn bq ba lnI gtI apI sbI stI rpI lnG gtG apG sbG stG rpG fi fb fs fl fg fc sln sgt sap ssb sc b2s s2b nd call calld callv callvd loop rfun fin hk
  have hlo : ∀ ms i, 0 ≤ i → ms.length = i.toNat → lnI ms = i := fun ms i h h2 => by rw [hk.lnI_eq]; omega
  have hl1 : ∀ x, lnI [x] = 1 := fun x => hk.lnI_eq _
  (conv => cbv)
  refine hk.brLssF (by omega) ?_
  (conv => cbv)
  refine hk.brGtrF (by omega) ?_
  (conv => cbv)
  refine hk.loopI (loop_rule (α := Int × List UInt8 × Int × List Int) (fun x => [(1, .int .i64 n), (2, .ptr 0 0), (4, .ptr 1 0), (5, .ls .nl .nil), (6, .ls (.il .i64 x.2.2.2) (.tok 2 0)), (7, .int .i64 x.1)]) (fun x => [.box [.str x.2.1, .int .i64 all, .int .i64 x.2.2.1], .box [.str [], .int .i64 0, .int .i64 0], .tok 0])
    (fun x => 0 ≤ x.1 ∧ x.1 ≤ n ∧ J x.1 x.2.1 x.2.2.1 x.2.2.2) (fun x => (n - x.1).toNat) (0, S0, fail, []) ⟨by omega, by simp only; omega, hJ0⟩ ?_ ?_)
  · refine Gh.trans (Gh.thaw 6 (.il .i64 []) rfl trivial rfl) (Gh.tm ?_)
    repeat' (first | exact Holds.nil _ _ | refine Holds.cons (Wk.refl _ _) ?_)
  intro ⟨i, s, f, ms⟩ ⟨hi, hi2, hJ⟩ Q' hb hx hr
  simp only at hi hi2 hJ
  have hml := hJl i s f ms hi hJ
  (conv => cbv)
  refine hk.brLss (fun h2 => ?_) (fun h2 => ?_)
  · obtain ⟨w, hw⟩ : ∃ w, w = n - i := ⟨_, rfl⟩
    have hsub : i2 .sub .i64 n i = w := by rw [hw]; exact hk.sub64 _ _ (by omega) (by omega)
    have hwide := fun h => hwide i w h hi h2 hw
    obtain ⟨v, s1, f1, htk, hJ1⟩ := hJs i s f ms hi h2 hJ
    have hap : apI ms [v] = ms ++ [v] := hk.apI_eq _ _
    have hlo := hlo ms i hi hml
    (conv => cbv)
    rw [hsub]
    repeat' (first
      | assumption
      | (refine hk.calldA hwide ?_; (conv => cbv))
      | (refine hk.calldA htk ?_; (conv => cbv))
      | (refine hk.callA (hwide _) ?_; (conv => cbv))
      | (refine hk.callA (htk _) ?_; (conv => cbv))
      | (refine hk.brLssT (by omega) ?_; (conv => cbv))
      | (refine hk.brLssF (by omega) ?_; (conv => cbv))
      | (refine hk.brLeqT (by omega) ?_; (conv => cbv))
      | (refine hk.brLeqF (by omega) ?_; (conv => cbv))
      | (refine hk.brGtrT (by omega) ?_; (conv => cbv))
      | (refine hk.brGtrF (by omega) ?_; (conv => cbv))
      | (refine hk.brGeqT (by omega) ?_; (conv => cbv))
      | (refine hk.brGeqF (by omega) ?_; (conv => cbv))
      | (refine hk.brEqlT (by omega) ?_; (conv => cbv))
      | (refine hk.brEqlF (by omega) ?_; (conv => cbv))
      | (refine hk.brNeqT (by omega) ?_; (conv => cbv))
      | (refine hk.brNeqF (by omega) ?_; (conv => cbv))
      | (refine hk.brLss (fun _ => ?_) (fun _ => ?_) <;> (conv => cbv))
      | (refine hk.brLeq (fun _ => ?_) (fun _ => ?_) <;> (conv => cbv))
      | (refine hk.brGtr (fun _ => ?_) (fun _ => ?_) <;> (conv => cbv))
      | (refine hk.brGeq (fun _ => ?_) (fun _ => ?_) <;> (conv => cbv))
      | (refine hk.brEql (fun _ => ?_) (fun _ => ?_) <;> (conv => cbv))
      | (refine hk.brNeq (fun _ => ?_) (fun _ => ?_) <;> (conv => cbv))
      | (refine hk.brNotT ?_; (conv => cbv))
      | (refine hk.brNotF ?_; (conv => cbv))
      | (refine hk.brNotS _ (by simp [hk.c2_lss, hk.c2_leq, hk.c2_gtr, hk.c2_geq, hk.c2_eql, hk.c2_neq, hk.bn_eq, hk.bq_eq]; rfl) ?_; (conv => cbv))
      | (refine hk.brBqS _ (by simp [hk.c2_lss, hk.c2_leq, hk.c2_gtr, hk.c2_geq, hk.c2_eql, hk.c2_neq, hk.bn_eq, hk.bq_eq]; rfl) ?_; (conv => cbv))
      | (refine hk.idxI (by first | omega | assumption) (by first | omega | assumption) ?_; (conv => cbv))
      | (refine hk.nzI (by first | omega | assumption | decide) ?_; (conv => cbv))
      | (refine hk.ge0I (by first | omega | assumption) ?_; (conv => cbv))
      | (refine hk.needI (by first | (simp only [rNd, hk.sb_eq, hk.ad_eq]; omega) | (simp [rNd, hk.sb_eq, hk.ad_eq]; omega)) ?_; (conv => cbv))
      | (refine hk.callA (by assumption) ?_; (conv => cbv))
      | (refine hk.calldA (by assumption) ?_; (conv => cbv))
      | (rw [hk.sb0]; (conv => cbv))
      | (rw [hk.ad0]; (conv => cbv))
      | exact hk.finB (by first | rfl | assumption | (simp [hk.c2_lss, hk.c2_leq, hk.c2_gtr, hk.c2_geq, hk.c2_eql, hk.c2_neq, hk.bn_eq, hk.bq_eq]; done))
      | exact hk.fin1 rfl)
    rw [hl1, hlo, hap]
    refine hk.needI (by first | (simp only [rNd, hk.ad_eq, hk.sb_eq]; omega) | (simp [rNd, hk.ad_eq, hk.sb_eq]; omega)) ?_
    (conv => cbv)
    refine hb (i + 1, s1, f1, ms ++ [v]) _ ⟨by simp only; omega, by simp only; omega, hJ1⟩ (by simp only; omega) ?_
    refine Gh.retok 2 1 rfl (Nat.le_of_ble_eq_true rfl) ?_ rfl rfl
    repeat' (first | exact HoldsT.nil _ _ _ _ | refine HoldsT.tok rfl ?_ | refine HoldsT.cons (Wk.refl _ _) rfl ?_ | refine HoldsT.cons (Wk.of_eq ?_) rfl ?_)
    all_goals first
      | (rw [← hk.add64 i 1 (by omega) (by omega)]; rfl)
      | rfl
      | skip
  · have : i = n := by omega
    subst this
    obtain ⟨e1, e2, e3⟩ := hJe s f ms hJ
    subst e1 e2 e3
    refine hx _ _ ?_
    (conv => cbv)
    repeat' (first
      | assumption
      | (refine hk.brLssT (by omega) ?_; (conv => cbv))
      | (refine hk.brLssF (by omega) ?_; (conv => cbv))
      | (refine hk.brLeqT (by omega) ?_; (conv => cbv))
      | (refine hk.brLeqF (by omega) ?_; (conv => cbv))
      | (refine hk.brGtrT (by omega) ?_; (conv => cbv))
      | (refine hk.brGtrF (by omega) ?_; (conv => cbv))
      | (refine hk.brGeqT (by omega) ?_; (conv => cbv))
      | (refine hk.brGeqF (by omega) ?_; (conv => cbv))
      | (refine hk.brEqlT (by omega) ?_; (conv => cbv))
      | (refine hk.brEqlF (by omega) ?_; (conv => cbv))
      | (refine hk.brNeqT (by omega) ?_; (conv => cbv))
      | (refine hk.brNeqF (by omega) ?_; (conv => cbv))
      | (refine hk.brLss (fun _ => ?_) (fun _ => ?_) <;> (conv => cbv))
      | (refine hk.brLeq (fun _ => ?_) (fun _ => ?_) <;> (conv => cbv))
      | (refine hk.brGtr (fun _ => ?_) (fun _ => ?_) <;> (conv => cbv))
      | (refine hk.brGeq (fun _ => ?_) (fun _ => ?_) <;> (conv => cbv))
      | (refine hk.brEql (fun _ => ?_) (fun _ => ?_) <;> (conv => cbv))
      | (refine hk.brNeq (fun _ => ?_) (fun _ => ?_) <;> (conv => cbv))
      | (refine hk.brNotT ?_; (conv => cbv))
      | (refine hk.brNotF ?_; (conv => cbv))
      | (refine hk.brNotS _ (by simp [hk.c2_lss, hk.c2_leq, hk.c2_gtr, hk.c2_geq, hk.c2_eql, hk.c2_neq, hk.bn_eq, hk.bq_eq]; rfl) ?_; (conv => cbv))
      | (refine hk.brBqS _ (by simp [hk.c2_lss, hk.c2_leq, hk.c2_gtr, hk.c2_geq, hk.c2_eql, hk.c2_neq, hk.bn_eq, hk.bq_eq]; rfl) ?_; (conv => cbv))
      | (refine hk.idxI (by first | omega | assumption) (by first | omega | assumption) ?_; (conv => cbv))
      | (refine hk.nzI (by first | omega | assumption | decide) ?_; (conv => cbv))
      | (refine hk.ge0I (by first | omega | assumption) ?_; (conv => cbv))
      | (refine hk.needI (by first | (simp only [rNd, hk.sb_eq, hk.ad_eq]; omega) | (simp [rNd, hk.sb_eq, hk.ad_eq]; omega)) ?_; (conv => cbv))
      | (refine hk.callA (by assumption) ?_; (conv => cbv))
      | (refine hk.calldA (by assumption) ?_; (conv => cbv))
      | (rw [hk.sb0]; (conv => cbv))
      | (rw [hk.ad0]; (conv => cbv))
      | exact hk.finB (by first | rfl | assumption | (simp [hk.c2_lss, hk.c2_leq, hk.c2_gtr, hk.c2_geq, hk.c2_eql, hk.c2_neq, hk.bn_eq, hk.bq_eq]; done))
      | exact hk.fin1 rfl)
    · rename_i hf
      rw [if_neg hf, if_neg hf]
      exact hk.fin0 rfl rfl (Wk.tup ⟨.refl _ _, Wk.nilL _ _, trivial⟩)
    · rename_i hf
      subst hf
      simp only [if_true]
      repeat' (first
        | assumption
        | (refine hk.callA (Does.wk (hof _) ?_) ?_
           · (repeat' (first | exact WkL.nil | refine WkL.cons (Wk.refl _ _) ?_ | refine WkL.cons (Wk.any _ _ _) ?_ | refine WkL.cons (Wk.nilL _ _) ?_))
           (conv => cbv))
        | (refine hk.brLssT (by omega) ?_; (conv => cbv))
        | (refine hk.brLssF (by omega) ?_; (conv => cbv))
        | (refine hk.brLeqT (by omega) ?_; (conv => cbv))
        | (refine hk.brLeqF (by omega) ?_; (conv => cbv))
        | (refine hk.brGtrT (by omega) ?_; (conv => cbv))
        | (refine hk.brGtrF (by omega) ?_; (conv => cbv))
        | (refine hk.brGeqT (by omega) ?_; (conv => cbv))
        | (refine hk.brGeqF (by omega) ?_; (conv => cbv))
        | (refine hk.brEqlT (by omega) ?_; (conv => cbv))
        | (refine hk.brEqlF (by omega) ?_; (conv => cbv))
        | (refine hk.brNeqT (by omega) ?_; (conv => cbv))
        | (refine hk.brNeqF (by omega) ?_; (conv => cbv))
        | (refine hk.brLss (fun _ => ?_) (fun _ => ?_) <;> (conv => cbv))
        | (refine hk.brLeq (fun _ => ?_) (fun _ => ?_) <;> (conv => cbv))
        | (refine hk.brGtr (fun _ => ?_) (fun _ => ?_) <;> (conv => cbv))
        | (refine hk.brGeq (fun _ => ?_) (fun _ => ?_) <;> (conv => cbv))
        | (refine hk.brEql (fun _ => ?_) (fun _ => ?_) <;> (conv => cbv))
        | (refine hk.brNeq (fun _ => ?_) (fun _ => ?_) <;> (conv => cbv))
        | (refine hk.brNotT ?_; (conv => cbv))
        | (refine hk.brNotF ?_; (conv => cbv))
        | (refine hk.brNotS _ (by simp [hk.c2_lss, hk.c2_leq, hk.c2_gtr, hk.c2_geq, hk.c2_eql, hk.c2_neq, hk.bn_eq, hk.bq_eq]; rfl) ?_; (conv => cbv))
        | (refine hk.brBqS _ (by simp [hk.c2_lss, hk.c2_leq, hk.c2_gtr, hk.c2_geq, hk.c2_eql, hk.c2_neq, hk.bn_eq, hk.bq_eq]; rfl) ?_; (conv => cbv))
        | (refine hk.idxI (by first | omega | assumption) (by first | omega | assumption) ?_; (conv => cbv))
        | (refine hk.nzI (by first | omega | assumption | decide) ?_; (conv => cbv))
        | (refine hk.ge0I (by first | omega | assumption) ?_; (conv => cbv))
        | (refine hk.needI (by first | (simp only [rNd, hk.sb_eq, hk.ad_eq]; omega) | (simp [rNd, hk.sb_eq, hk.ad_eq]; omega)) ?_; (conv => cbv))
        | (refine hk.callA (by assumption) ?_; (conv => cbv))
        | (refine hk.calldA (by assumption) ?_; (conv => cbv))
        | (rw [hk.sb0]; (conv => cbv))
        | (rw [hk.ad0]; (conv => cbv))
        | exact hk.finB (by first | rfl | assumption | (simp [hk.c2_lss, hk.c2_leq, hk.c2_gtr, hk.c2_geq, hk.c2_eql, hk.c2_neq, hk.bn_eq, hk.bq_eq]; done))
        | exact hk.fin1 rfl)
      rcases hEc with ⟨e1, e2⟩ | ⟨e1, e2, e3⟩
      · subst e1 e2
        (conv => cbv)
        repeat' (first
          | assumption
          | (refine hk.brLssT (by omega) ?_; (conv => cbv))
          | (refine hk.brLssF (by omega) ?_; (conv => cbv))
          | (refine hk.brLeqT (by omega) ?_; (conv => cbv))
          | (refine hk.brLeqF (by omega) ?_; (conv => cbv))
          | (refine hk.brGtrT (by omega) ?_; (conv => cbv))
          | (refine hk.brGtrF (by omega) ?_; (conv => cbv))
          | (refine hk.brGeqT (by omega) ?_; (conv => cbv))
          | (refine hk.brGeqF (by omega) ?_; (conv => cbv))
          | (refine hk.brEqlT (by omega) ?_; (conv => cbv))
          | (refine hk.brEqlF (by omega) ?_; (conv => cbv))
          | (refine hk.brNeqT (by omega) ?_; (conv => cbv))
          | (refine hk.brNeqF (by omega) ?_; (conv => cbv))
          | (refine hk.brLss (fun _ => ?_) (fun _ => ?_) <;> (conv => cbv))
          | (refine hk.brLeq (fun _ => ?_) (fun _ => ?_) <;> (conv => cbv))
          | (refine hk.brGtr (fun _ => ?_) (fun _ => ?_) <;> (conv => cbv))
          | (refine hk.brGeq (fun _ => ?_) (fun _ => ?_) <;> (conv => cbv))
          | (refine hk.brEql (fun _ => ?_) (fun _ => ?_) <;> (conv => cbv))
          | (refine hk.brNeq (fun _ => ?_) (fun _ => ?_) <;> (conv => cbv))
          | (refine hk.brNotT ?_; (conv => cbv))
          | (refine hk.brNotF ?_; (conv => cbv))
          | (refine hk.brNotS _ (by simp [hk.c2_lss, hk.c2_leq, hk.c2_gtr, hk.c2_geq, hk.c2_eql, hk.c2_neq, hk.bn_eq, hk.bq_eq]; rfl) ?_; (conv => cbv))
          | (refine hk.brBqS _ (by simp [hk.c2_lss, hk.c2_leq, hk.c2_gtr, hk.c2_geq, hk.c2_eql, hk.c2_neq, hk.bn_eq, hk.bq_eq]; rfl) ?_; (conv => cbv))
          | (refine hk.idxI (by first | omega | assumption) (by first | omega | assumption) ?_; (conv => cbv))
          | (refine hk.nzI (by first | omega | assumption | decide) ?_; (conv => cbv))
          | (refine hk.ge0I (by first | omega | assumption) ?_; (conv => cbv))
          | (refine hk.needI (by first | (simp only [rNd, hk.sb_eq, hk.ad_eq]; omega) | (simp [rNd, hk.sb_eq, hk.ad_eq]; omega)) ?_; (conv => cbv))
          | (refine hk.callA (by assumption) ?_; (conv => cbv))
          | (refine hk.calldA (by assumption) ?_; (conv => cbv))
          | (rw [hk.sb0]; (conv => cbv))
          | (rw [hk.ad0]; (conv => cbv))
          | exact hk.finB (by first | rfl | assumption | (simp [hk.c2_lss, hk.c2_leq, hk.c2_gtr, hk.c2_geq, hk.c2_eql, hk.c2_neq, hk.bn_eq, hk.bq_eq]; done))
          | exact hk.fin1 rfl)
        exact hk.fin0 rfl rfl (.refl _ _)
      · subst e1 e2 e3
        (conv => cbv)
        repeat' (first
          | assumption
          | (refine hk.callA (hgv _ _ _) ?_; (conv => cbv))
          | (refine hk.brLssT (by omega) ?_; (conv => cbv))
          | (refine hk.brLssF (by omega) ?_; (conv => cbv))
          | (refine hk.brLeqT (by omega) ?_; (conv => cbv))
          | (refine hk.brLeqF (by omega) ?_; (conv => cbv))
          | (refine hk.brGtrT (by omega) ?_; (conv => cbv))
          | (refine hk.brGtrF (by omega) ?_; (conv => cbv))
          | (refine hk.brGeqT (by omega) ?_; (conv => cbv))
          | (refine hk.brGeqF (by omega) ?_; (conv => cbv))
          | (refine hk.brEqlT (by omega) ?_; (conv => cbv))
          | (refine hk.brEqlF (by omega) ?_; (conv => cbv))
          | (refine hk.brNeqT (by omega) ?_; (conv => cbv))
          | (refine hk.brNeqF (by omega) ?_; (conv => cbv))
          | (refine hk.brLss (fun _ => ?_) (fun _ => ?_) <;> (conv => cbv))
          | (refine hk.brLeq (fun _ => ?_) (fun _ => ?_) <;> (conv => cbv))
          | (refine hk.brGtr (fun _ => ?_) (fun _ => ?_) <;> (conv => cbv))
          | (refine hk.brGeq (fun _ => ?_) (fun _ => ?_) <;> (conv => cbv))
          | (refine hk.brEql (fun _ => ?_) (fun _ => ?_) <;> (conv => cbv))
          | (refine hk.brNeq (fun _ => ?_) (fun _ => ?_) <;> (conv => cbv))
          | (refine hk.brNotT ?_; (conv => cbv))
          | (refine hk.brNotF ?_; (conv => cbv))
          | (refine hk.brNotS _ (by simp [hk.c2_lss, hk.c2_leq, hk.c2_gtr, hk.c2_geq, hk.c2_eql, hk.c2_neq, hk.bn_eq, hk.bq_eq]; rfl) ?_; (conv => cbv))
          | (refine hk.brBqS _ (by simp [hk.c2_lss, hk.c2_leq, hk.c2_gtr, hk.c2_geq, hk.c2_eql, hk.c2_neq, hk.bn_eq, hk.bq_eq]; rfl) ?_; (conv => cbv))
          | (refine hk.idxI (by first | omega | assumption) (by first | omega | assumption) ?_; (conv => cbv))
          | (refine hk.nzI (by first | omega | assumption | decide) ?_; (conv => cbv))
          | (refine hk.ge0I (by first | omega | assumption) ?_; (conv => cbv))
          | (refine hk.needI (by first | (simp only [rNd, hk.sb_eq, hk.ad_eq]; omega) | (simp [rNd, hk.sb_eq, hk.ad_eq]; omega)) ?_; (conv => cbv))
          | (refine hk.callA (by assumption) ?_; (conv => cbv))
          | (refine hk.calldA (by assumption) ?_; (conv => cbv))
          | (rw [hk.sb0]; (conv => cbv))
          | (rw [hk.ad0]; (conv => cbv))
          | exact hk.finB (by first | rfl | assumption | (simp [hk.c2_lss, hk.c2_leq, hk.c2_gtr, hk.c2_geq, hk.c2_eql, hk.c2_neq, hk.bn_eq, hk.bq_eq]; done))
          | exact hk.fin1 rfl)
        exact hk.fin0 rfl rfl (Wk.tup ⟨.refl _ _, Wk.nilL _ _, trivial⟩)
theorem refRtake_bad (s : List UInt8) (all fail n : Int) (h : Heap) (hb : ¬ (1 ≤ n ∧ n ≤ 8)) :
    Does PP 36 [rrd s all fail, I n] h (Is (.tup [rrd s all (if fail = 0 then 1 else fail), LI []]) h) := by
  have hgv := fun h => refGive_spec s all fail 1 h
  obtain ⟨f, hf⟩ : ∃ f, f = if fail = 0 then 1 else fail := ⟨_, rfl⟩
  simp only [← hf] at hgv
  rw [← hf]
  clear hf
  refine pure0 ?_ rfl rfl h
  refine doesF P_ok Try.f36 (by kernel_rfl) (by kernel_rfl) ?_
  intro i2 c2 u1 cv mx mn ad sbt bn bq ba lnI gtI apI sbI stI rpI lnG gtG apG sbG stG rpG fi fb fs fl fg fc sln sgt sap ssb sc b2s s2b nd call calld callv callvd loop rfun fin hk
  (conv => cbv)
  refine hk.brLss (fun h => ?_) (fun h => ?_)
  · (conv => cbv)
    repeat' (first
      | assumption
      | (refine hk.callA (hgv _) ?_; (conv => cbv))
      | (refine hk.brLssT (by omega) ?_; (conv => cbv))
      | (refine hk.brLssF (by omega) ?_; (conv => cbv))
      | (refine hk.brLeqT (by omega) ?_; (conv => cbv))
      | (refine hk.brLeqF (by omega) ?_; (conv => cbv))
      | (refine hk.brGtrT (by omega) ?_; (conv => cbv))
      | (refine hk.brGtrF (by omega) ?_; (conv => cbv))
      | (refine hk.brGeqT (by omega) ?_; (conv => cbv))
      | (refine hk.brGeqF (by omega) ?_; (conv => cbv))
      | (refine hk.brEqlT (by omega) ?_; (conv => cbv))
      | (refine hk.brEqlF (by omega) ?_; (conv => cbv))
      | (refine hk.brNeqT (by omega) ?_; (conv => cbv))
      | (refine hk.brNeqF (by omega) ?_; (conv => cbv))
      | (refine hk.brLss (fun _ => ?_) (fun _ => ?_) <;> (conv => cbv))
      | (refine hk.brLeq (fun _ => ?_) (fun _ => ?_) <;> (conv => cbv))
      | (refine hk.brGtr (fun _ => ?_) (fun _ => ?_) <;> (conv => cbv))
      | (refine hk.brGeq (fun _ => ?_) (fun _ => ?_) <;> (conv => cbv))
      | (refine hk.brEql (fun _ => ?_) (fun _ => ?_) <;> (conv => cbv))
      | (refine hk.brNeq (fun _ => ?_) (fun _ => ?_) <;> (conv => cbv))
      | (refine hk.brNotT ?_; (conv => cbv))
      | (refine hk.brNotF ?_; (conv => cbv))
      | (refine hk.brNotS _ (by simp [hk.c2_lss, hk.c2_leq, hk.c2_gtr, hk.c2_geq, hk.c2_eql, hk.c2_neq, hk.bn_eq, hk.bq_eq]; rfl) ?_; (conv => cbv))
      | (refine hk.brBqS _ (by simp [hk.c2_lss, hk.c2_leq, hk.c2_gtr, hk.c2_geq, hk.c2_eql, hk.c2_neq, hk.bn_eq, hk.bq_eq]; rfl) ?_; (conv => cbv))
      | (refine hk.idxI (by first | omega | assumption) (by first | omega | assumption) ?_; (conv => cbv))
      | (refine hk.nzI (by first | omega | assumption | decide) ?_; (conv => cbv))
      | (refine hk.ge0I (by first | omega | assumption) ?_; (conv => cbv))
      | (refine hk.needI (by first | (simp only [rNd, hk.sb_eq, hk.ad_eq]; omega) | (simp [rNd, hk.sb_eq, hk.ad_eq]; omega)) ?_; (conv => cbv))
      | (refine hk.callA (by assumption) ?_; (conv => cbv))
      | (refine hk.calldA (by assumption) ?_; (conv => cbv))
      | (rw [hk.sb0]; (conv => cbv))
      | (rw [hk.ad0]; (conv => cbv))
      | exact hk.finB (by first | rfl | assumption | (simp [hk.c2_lss, hk.c2_leq, hk.c2_gtr, hk.c2_geq, hk.c2_eql, hk.c2_neq, hk.bn_eq, hk.bq_eq]; done))
      | exact hk.fin1 rfl)
    exact hk.fin0 rfl rfl (Wk.tup ⟨.refl _ _, Wk.nilL _ _, trivial⟩)
  · (conv => cbv)
    refine hk.brGtrT (by omega) ?_
    (conv => cbv)
    repeat' (first
      | assumption
      | (refine hk.callA (hgv _) ?_; (conv => cbv))
      | (refine hk.brLssT (by omega) ?_; (conv => cbv))
      | (refine hk.brLssF (by omega) ?_; (conv => cbv))
      | (refine hk.brLeqT (by omega) ?_; (conv => cbv))
      | (refine hk.brLeqF (by omega) ?_; (conv => cbv))
      | (refine hk.brGtrT (by omega) ?_; (conv => cbv))
      | (refine hk.brGtrF (by omega) ?_; (conv => cbv))
      | (refine hk.brGeqT (by omega) ?_; (conv => cbv))
      | (refine hk.brGeqF (by omega) ?_; (conv => cbv))
      | (refine hk.brEqlT (by omega) ?_; (conv => cbv))
      | (refine hk.brEqlF (by omega) ?_; (conv => cbv))
      | (refine hk.brNeqT (by omega) ?_; (conv => cbv))
      | (refine hk.brNeqF (by omega) ?_; (conv => cbv))
      | (refine hk.brLss (fun _ => ?_) (fun _ => ?_) <;> (conv => cbv))
      | (refine hk.brLeq (fun _ => ?_) (fun _ => ?_) <;> (conv => cbv))
      | (refine hk.brGtr (fun _ => ?_) (fun _ => ?_) <;> (conv => cbv))
      | (refine hk.brGeq (fun _ => ?_) (fun _ => ?_) <;> (conv => cbv))
      | (refine hk.brEql (fun _ => ?_) (fun _ => ?_) <;> (conv => cbv))
      | (refine hk.brNeq (fun _ => ?_) (fun _ => ?_) <;> (conv => cbv))
      | (refine hk.brNotT ?_; (conv => cbv))
      | (refine hk.brNotF ?_; (conv => cbv))
      | (refine hk.brNotS _ (by simp [hk.c2_lss, hk.c2_leq, hk.c2_gtr, hk.c2_geq, hk.c2_eql, hk.c2_neq, hk.bn_eq, hk.bq_eq]; rfl) ?_; (conv => cbv))
      | (refine hk.brBqS _ (by simp [hk.c2_lss, hk.c2_leq, hk.c2_gtr, hk.c2_geq, hk.c2_eql, hk.c2_neq, hk.bn_eq, hk.bq_eq]; rfl) ?_; (conv => cbv))
      | (refine hk.idxI (by first | omega | assumption) (by first | omega | assumption) ?_; (conv => cbv))
      | (refine hk.nzI (by first | omega | assumption | decide) ?_; (conv => cbv))
      | (refine hk.ge0I (by first | omega | assumption) ?_; (conv => cbv))
      | (refine hk.needI (by first | (simp only [rNd, hk.sb_eq, hk.ad_eq]; omega) | (simp [rNd, hk.sb_eq, hk.ad_eq]; omega)) ?_; (conv => cbv))
      | (refine hk.callA (by assumption) ?_; (conv => cbv))
      | (refine hk.calldA (by assumption) ?_; (conv => cbv))
      | (rw [hk.sb0]; (conv => cbv))
      | (rw [hk.ad0]; (conv => cbv))
      | exact hk.finB (by first | rfl | assumption | (simp [hk.c2_lss, hk.c2_leq, hk.c2_gtr, hk.c2_geq, hk.c2_eql, hk.c2_neq, hk.bn_eq, hk.bq_eq]; done))
      | exact hk.fin1 rfl)
    exact hk.fin0 rfl rfl (Wk.tup ⟨.refl _ _, Wk.nilL _ _, trivial⟩)
end Go.Proofs.Ytnnpookoencpnaa
