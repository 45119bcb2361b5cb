/-
  Contracts of functions of the program, proved over the abstract machine of the Al texts.
-/
import Derived.Test.YtnkaagbepppodaaTab
set_option maxHeartbeats 1000000
open Go Go.AL
namespace Go.Proofs.Ytnkaagbepppodaa
def loudf (n : Int) : Bool := decide (n > 67108864) || decide (n < -67108864)
theorem loud_spec (n : Int) (h : Heap) : Does PP 55 [.int .i64 n] h (Is (.bool (loudf n)) h) := by
  obtain ⟨r, hr⟩ : ∃ r, r = loudf n := ⟨_, rfl⟩
  rw [← hr]
  refine doesF P_ok Try.f55 (by kernel_rfl) (by kernel_rfl) ?_
  intro i2 c2 u1 cv mx mn ad sbt bn bq ba lnI gtI apI sbI stI rpI lnG gtG apG sbG stG rpG fi fb fs fl fg fc sln sgt sap ssb sc b2s s2b nd call calld callv callvd loop rfun fin hk
  cbv
  split <;> cbv
  · rename_i h1
    rw [hk.c2_gtr, decide_eq_true_eq] at h1
    exact hk.fin1 (by simp [hr, loudf, h1])
  · rename_i h1
    rw [hk.c2_gtr, decide_eq_false_iff_not] at h1
    exact hk.fin1 (by simp [hr, loudf, h1, hk.c2_lss])
def rsize (n : Int) : Int := if n < 0 then IntKind.wrap .i64 (0 - n) else n
theorem refsize_spec (n : Int) (h : Heap) : Does PP 39 [.int .i64 n] h (Is (.int .i64 (rsize n)) h) := by
  obtain ⟨r, hr⟩ : ∃ r, r = rsize n := ⟨_, rfl⟩
  rw [← hr]
  refine doesF P_ok Try.f39 (by kernel_rfl) (by kernel_rfl) ?_
  intro i2 c2 u1 cv mx mn ad sbt bn bq ba lnI gtI apI sbI stI rpI lnG gtG apG sbG stG rpG fi fb fs fl fg fc sln sgt sap ssb sc b2s s2b nd call calld callv callvd loop rfun fin hk
  cbv
  split <;> cbv
  · rename_i h1
    rw [hk.c2_lss, decide_eq_true_eq] at h1
    exact hk.fin1 (by simp only [hr, rsize, h1, hk.u1_neg, if_true])
  · rename_i h1
    rw [hk.c2_lss, decide_eq_false_iff_not] at h1
    exact hk.fin1 (by simp only [hr, rsize, h1, if_false])
def wsize (n : Int) : Int := if (IntKind.wrap .i64 (0 - n)) > n then IntKind.wrap .i64 (0 - n) else n
theorem size_spec (n : Int) (h : Heap) : Does PP 50 [.int .i64 n] h (Is (.int .i64 (wsize n)) h) := by
  obtain ⟨r, hr⟩ : ∃ r, r = wsize n := ⟨_, rfl⟩
  rw [← hr]
  refine doesF P_ok Try.f50 (by kernel_rfl) (by kernel_rfl) ?_
  intro i2 c2 u1 cv mx mn ad sbt bn bq ba lnI gtI apI sbI stI rpI lnG gtG apG sbG stG rpG fi fb fs fl fg fc sln sgt sap ssb sc b2s s2b nd call calld callv callvd loop rfun fin hk
  cbv
  exact hk.fin1 (by simp only [hr, wsize, hk.mx_eq, hk.u1_neg])
def one (n : Int) : AVal := .agg [.int .i64 (wsize n), .int .i64 n, .int .i64 (IntKind.wrap .i64 (n * n)), .int .i64 0]
theorem one_spec (n : Int) (h : Heap) : Does PP 38 [.int .i64 n] h (Is (one n) h) := by
  obtain ⟨r, hr⟩ : ∃ r, r = one n := ⟨_, rfl⟩
  rw [← hr]
  refine pure0 (doesF P_ok Try.f38 (by kernel_rfl) (by kernel_rfl) ?_) rfl (by rw [hr]; rfl) h
  intro i2 c2 u1 cv mx mn ad sbt bn bq ba lnI gtI apI sbI stI rpI lnG gtG apG sbG stG rpG fi fb fs fl fg fc sln sgt sap ssb sc b2s s2b nd call calld callv callvd loop rfun fin hk
  obtain ⟨s, hs⟩ : ∃ s, s = wsize n := ⟨_, rfl⟩
  cbv
  refine hk.call1 (r := .int .i64 s) (by rw [hs]; exact size_spec _ _) ?_
  cbv
  exact hk.fin0 rfl (by rw [hr]; rfl) (Wk.of_eq (by simp only [hk.i2_mul, hr, one, hs]))
def joined (a b c d a' b' c' d': Int) (t : Bool) : AVal := .agg [.int .i64 (if a' > a then a' else a), .int .i64 (IntKind.wrap .i64 (b + b')), .int .i64 (IntKind.wrap .i64 (c + c')), .int .i64 (if t then IntKind.wrap .i64 (IntKind.wrap .i64 (d + d') + 1) else IntKind.wrap .i64 (d + d'))]
theorem join_spec (a b c d a' b' c' d': Int) (t : Bool) (h : Heap) : Does PP 16 [.agg [.int .i64 a, .int .i64 b, .int .i64 c, .int .i64 d], .agg [.int .i64 a', .int .i64 b', .int .i64 c', .int .i64 d'], .bool t] h
    (Is (joined a b c d a' b' c' d' t) h) := by
  obtain ⟨r, hr⟩ : ∃ r, r = joined a b c d a' b' c' d' t := ⟨_, rfl⟩
  rw [← hr]
  refine pure0 (doesF P_ok Try.f16 (by kernel_rfl) (by kernel_rfl) ?_) rfl (by rw [hr]; rfl) h
  intro i2 c2 u1 cv mx mn ad sbt bn bq ba lnI gtI apI sbI stI rpI lnG gtG apG sbG stG rpG fi fb fs fl fg fc sln sgt sap ssb sc b2s s2b nd call calld callv callvd loop rfun fin hk
  cbv
  split <;> cbv
  all_goals exact hk.fin0 rfl (by rw [hr]; rfl) (Wk.of_eq (by simp only [hr, joined, hk.mx_eq, hk.i2_add]; rfl))
def findI (g : Int → Bool) (l : List Int) : Int := match l.findIdx? g with | some i => (i : Int) | none => -1
theorem find_some {l : List Int} {g : Int → Bool} {i : Int} (h0 : 0 ≤ i) (h4 : i.toNat < l.length) (h2 : ∀ j, j < i.toNat → g (l.getD j 0) = false) (h3 : g (l.getD i.toNat 0) = true) : i = findI g l := by
  have hf : l.findIdx? g = some i.toNat := by
    rw [List.findIdx?_eq_some_iff_getElem]
    refine ⟨h4, ?_, fun j hj => ?_⟩
    · rw [List.getD_eq_getElem?_getD, List.getElem?_eq_getElem h4] at h3
      exact h3
    · have := h2 j hj
      rw [List.getD_eq_getElem?_getD, List.getElem?_eq_getElem (by omega)] at this
      simpa using this
  unfold findI
  rw [hf]
  exact (Int.toNat_of_nonneg h0).symm
theorem find_none {l : List Int} {g : Int → Bool} {i : Int} (h1 : l.length ≤ i.toNat) (h2 : ∀ j, j < i.toNat → g (l.getD j 0) = false) : -1 = findI g l := by
  have hf : l.findIdx? g = none := by
    rw [List.findIdx?_eq_none_iff]
    intro x hx
    obtain ⟨j, hj, rfl⟩ := List.mem_iff_getElem.1 hx
    have := h2 j (by omega)
    rw [List.getD_eq_getElem?_getD, List.getElem?_eq_getElem (by omega)] at this
    simpa using this
  unfold findI
  rw [hf]
theorem find_any (g : Int → Bool) (l : List Int) : decide (findI g l ≥ 0) = l.any g := by
  unfold findI
  cases h : l.findIdx? g with
  | none =>
    rw [List.findIdx?_eq_none_iff] at h
    have : l.any g = false := by rw [List.any_eq_false]; intro x hx; rw [h x hx]; simp
    rw [this]; rfl
  | some i =>
    rw [List.findIdx?_eq_some_iff_getElem] at h
    obtain ⟨h1, h2, _⟩ := h
    have : l.any g = true := List.any_eq_true.2 ⟨l[i], List.getElem_mem h1, h2⟩
    rw [this]
    simp
theorem index_spec (l : List Int) (fid : Nat) (caps : List AVal) (g : Int → Bool) (h : Heap) (hl : l.length < 4611686018427387904) (hg : ∀ n h, Does PP fid (.int .i64 n :: caps) h (Is (.bool (g n)) h)) :
   Does PP 64 [.ls (.il .i64 l) .any, .clo (.func fid) [] caps] h (Is (.int .i64 (findI g l)) h) := by
  obtain ⟨r, hr0⟩ : ∃ r, r = findI g l := ⟨_, rfl⟩
  rw [← hr0]
  refine doesF P_ok Try.f64 (by kernel_rfl) (by kernel_rfl) ?_
  intro i2 c2 u1 cv mx mn ad sbt bn bq ba lnI gtI apI sbI stI rpI lnG gtG apG sbG stG rpG fi fb fs fl fg fc sln sgt sap ssb sc b2s s2b nd call calld callv callvd loop rfun fin hk
  have hn := hk.lnI_nn l
  have hl := hk.lnI_lt l 4611686018427387904 (by omega)
  cbv
  refine hk.loopI (loop_rule (α := Int) (fun i => [(1, .clo (.func fid) [] caps), (0, .ls (.il .i64 l) .any), (7, .int .i64 (lnI l)), (8, .int .i64 i)]) (fun i => h)
    (fun i => 0 ≤ i ∧ i ≤ lnI l ∧ ∀ j, j < i.toNat → g (l.getD j 0) = false) (fun i => (lnI l - i).toNat) 0 ⟨by omega, by omega, upto_zero⟩ ?_ ?_)
  · exact Gh.tm (by repeat (first | exact Holds.nil _ _ | refine Holds.cons (Wk.refl _ _) ?_))
  intro i ⟨hi, hi2, hi3⟩ Q' hb hx hr
  cbv
  split
  · rename_i hlt
    rw [hk.c2_lss, decide_eq_true_eq] at hlt
    refine ⟨hk.idx hi hlt, hk.call1 (hg _ _) ?_⟩
    cbv
    split
    · rename_i hgt
      have hgt : g (gtI l i) = true := hgt
      rw [hk.gtI_eq] at hgt
      refine hr _ ?_
      cbv
      exact hk.fin1 (congrArg _ (by rw [hr0]; exact find_some hi (hk.lt_lnI l i hi hlt) hi3 hgt))
    · rename_i hgf
      have hgf : g (gtI l i) = false := hgf
      rw [hk.gtI_eq] at hgf
      refine hb (i + 1) _ ⟨by omega, by omega, upto_step hi hi3 hgf⟩ (by omega) ?_
      refine Gh.tm ?_
      refine Holds.cons (Wk.refl _ _) <| Holds.cons (Wk.refl _ _) <| Holds.cons (Wk.refl _ _) <| Holds.cons (Wk.of_eq ?_) <| Holds.nil _ _
      rw [← hk.add64 i 1 (by omega) (by omega)]
      rfl
  · rename_i hge
    rw [hk.c2_lss, decide_eq_false_iff_not] at hge
    refine hx _ _ ?_
    cbv
    exact hk.fin1 (congrArg _ (by rw [hr0]; exact find_none (by rw [← hk.lnI_toNat l]; omega) hi3))
theorem contains_spec (l : List Int) (fid : Nat) (caps : List AVal) (g : Int → Bool) (h : Heap) (hl : l.length < 4611686018427387904) (hg : ∀ n h, Does PP fid (.int .i64 n :: caps) h (Is (.bool (g n)) h)) :
   Does PP 54 [.ls (.il .i64 l) .any, .clo (.func fid) [] caps] h (Is (.bool (l.any g)) h) := by
  obtain ⟨r, hr0⟩ : ∃ r, r = findI g l := ⟨_, rfl⟩
  obtain ⟨b, hb0⟩ : ∃ b, b = l.any g := ⟨_, rfl⟩
  rw [← hb0]
  refine doesF P_ok Try.f54 (by kernel_rfl) (by kernel_rfl) ?_
  intro i2 c2 u1 cv mx mn ad sbt bn bq ba lnI gtI apI sbI stI rpI lnG gtG apG sbG stG rpG fi fb fs fl fg fc sln sgt sap ssb sc b2s s2b nd call calld callv callvd loop rfun fin hk
  cbv
  refine hk.call1 (r := .int .i64 r) (by rw [hr0]; exact index_spec l fid caps g h hl hg) ?_
  cbv
  refine hk.fin1 ?_
  show AVal.bool (c2 .geq r 0) = _
  rw [hk.c2_geq, hr0, find_any, hb0]
def chk (l : List Int) : Int := if l.length > 65536 then 1 else if l.any loudf then 9 else 0
theorem check_spec (l : List Int) (h : Heap) (hl : l.length < 4611686018427387904) : Does PP 37 [.ls (.il .i64 l) .any] h (Is (.int .i64 (chk l)) h) := by
  obtain ⟨r, hr0⟩ : ∃ r, r = chk l := ⟨_, rfl⟩
  obtain ⟨b, hb0⟩ : ∃ b, b = l.any loudf := ⟨_, rfl⟩
  rw [← hr0]
  have hc := contains_spec l 55 [] loudf h hl loud_spec
  rw [← hb0] at hc
  refine doesF P_ok Try.f37 (by kernel_rfl) (by kernel_rfl) ?_
  intro i2 c2 u1 cv mx mn ad sbt bn bq ba lnI gtI apI sbI stI rpI lnG gtG apG sbG stG rpG fi fb fs fl fg fc sln sgt sap ssb sc b2s s2b nd call calld callv callvd loop rfun fin hk
  have h65 : lnI l > 65536 ↔ l.length > 65536 := by rw [hk.lnI_eq]; omega
  cbv
  split <;> cbv
  · rename_i h1
    rw [hk.c2_gtr, decide_eq_true_eq] at h1
    exact hk.fin1 (by rw [hr0, chk, if_pos (h65.1 h1)])
  · rename_i h1
    rw [hk.c2_gtr, decide_eq_false_iff_not] at h1
    refine hk.call1 hc ?_
    cbv
    split <;> cbv
    · exact hk.fin1 (by rw [hr0, chk, if_neg (fun h => h1 (h65.2 h)), ← hb0]; rfl)
    · exact hk.fin1 (by rw [hr0, chk, if_neg (fun h => h1 (h65.2 h)), ← hb0]; rfl)
end Go.Proofs.Ytnkaagbepppodaa
