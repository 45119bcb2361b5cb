/-
  Contracts of functions of the program, proved over the abstract machine of the Al texts.
-/
import Derived.Test.YtnnpookoencpnaaRkV
set_option maxHeartbeats 4000000
set_option maxRecDepth 20000
set_option linter.unusedSimpArgs false
set_option linter.unusedVariables false
open Go Go.AL
namespace Go.Proofs.Ytnnpookoencpnaa
theorem pack_bytes (bits : List Bool) : Bytes8 (pack bits) := fun x hx => by
  obtain ⟨i, hi, rfl⟩ := List.mem_map.1 hx
  have := byteAt_lt bits i
  omega
theorem byte_bits : ∀ a b c d e f g h : Bool, ∀ j : Nat, j < 8 → (128 * a.toNat + 64 * b.toNat + 32 * c.toNat + 16 * d.toNat + 8 * e.toNat + 4 * f.toNat + 2 * g.toNat + h.toNat).testBit (7 - j) = [a, b, c, d, e, f, g, h].getD j false := by decide
theorem byteAt_bit (bits : List Bool) (i j : Nat) (hj : j < 8) : (byteAt bits i).testBit (7 - j) = bits.getD (8 * i + j) false := by
  unfold byteAt
  rw [byte_bits _ _ _ _ _ _ _ _ j hj]
  match j, hj with
  | 0, _ => rfl
  | 1, _ => rfl
  | 2, _ => rfl
  | 3, _ => rfl
  | 4, _ => rfl
  | 5, _ => rfl
  | 6, _ => rfl
  | 7, _ => rfl
theorem blist_ext {l m : List Bool} (h1 : l.length = m.length) (h2 : ∀ i, i < l.length → l.getD i false = m.getD i false) : l = m := by
  refine List.ext_getElem h1 fun i hi hi' => ?_
  have := h2 i hi
  simpa [List.getD, hi, hi'] using this
theorem unpack_pack (bits : List Bool) : unpack (pack bits) = padTo bits := by
  refine blist_ext (by rw [unpack_len, pack_len, padTo_len]) fun k hk => ?_
  rw [unpack_len, pack_len] at hk
  rw [unpack_get _ _ (by rw [pack_len]; exact hk), pack_get _ _ (by omega), Int.toNat_natCast, byteAt_bit _ _ _ (Nat.mod_lt _ (by decide)), padTo_get, show 8 * (k / 8) + k % 8 = k by omega]
theorem tm_back : ∀ (ms : List Int) (tail : List Bool), MarksOK ms → ms.length ≤ 8 → tmM ms.length (rbits ms ++ tail) 0 = ms ∧ tmR ms.length (rbits ms ++ tail) 0 = tail ∧ tmF ms.length (rbits ms ++ tail) 0 = 0
  | [], tail, _, _ => ⟨rfl, rfl, rfl⟩
  | m :: ms, tail, h, h8 => by
    obtain ⟨h1, h2, h3⟩ := h
    obtain ⟨w, hw⟩ : ∃ w, w = wd (ms.length + 1) := ⟨_, rfl⟩
    have hw3 : w ≤ 3 := by rw [hw]; exact wd_le _
    have hf : m.toNat < 2 ^ w := by rw [hw]; exact wd_fit ms.length (by simp at h8; omega) _ h2
    have e : rbits (m :: ms) ++ tail = bitsOf m.toNat w ++ (rbits ms ++ tail) := by rw [rbits, ← hw, List.append_assoc]
    have hF : tkF (rbits (m :: ms) ++ tail) 0 (w : Nat) = 0 := by
      refine tk_small _ _ _ (by omega) (by omega) ?_
      rw [e, List.length_append, bitsOf_len]; omega
    have hN : tkN (rbits (m :: ms) ++ tail) 0 (w : Nat) = (w : Nat) := by rw [tkN, if_pos hF]
    have hV : tkV (rbits (m :: ms) ++ tail) 0 (w : Nat) = m := by
      rw [tkV, if_pos hF, Int.toNat_natCast, e, List.take_append_of_le_length (by rw [bitsOf_len]; exact Nat.le_refl _), List.take_of_length_le (by rw [bitsOf_len]; exact Nat.le_refl _), num_bitsOf, Nat.mod_eq_of_lt hf]
      omega
    have hX : nx (rbits (m :: ms) ++ tail) 0 (w : Nat) = rbits ms ++ tail := by
      rw [nx, hN, Int.toNat_natCast, e, List.drop_append_of_le_length (by rw [bitsOf_len]; exact Nat.le_refl _), List.drop_of_length_le (by rw [bitsOf_len]; exact Nat.le_refl _), List.nil_append]
    obtain ⟨i1, i2, i3⟩ := tm_back ms tail h3 (by simp at h8; omega)
    rw [List.length_cons]
    simp only [tmM, tmR, tmF]
    rw [← hw, hV, hX, hF, i1, i2, i3]
    exact ⟨rfl, rfl, rfl⟩
theorem wr_two (bits : List Bool) : ∃ o1 o2, wr bits = [o1, o2] := by cases bits <;> exact ⟨_, _, rfl⟩
theorem wlen3 (bits : List Bool) (x : Heap) : Does PP 41 [.ptr 0 0] (wr bits ++ x) (Is (I (bits.length : Nat)) (wr bits ++ x)) := by
  have h := wlen_spec bits
  cases bits with
  | nil => exact h.renI [0, 1] rfl (by decide) rfl ⟨rfl, rfl, trivial⟩ rfl rfl rfl rfl rfl (List.append_nil _)
  | cons c r =>
    show Does PP 41 [.ptr 0 0] (wl (c :: r) ++ x) (Is (I ((c :: r).length : Nat)) (wl (c :: r) ++ x))
    exact h.renI [0, 1] rfl (by decide) rfl ⟨rfl, rfl, trivial⟩ rfl rfl rfl rfl rfl (List.append_nil _)
theorem wbytes3 (bits : List Bool) (x : Heap) (hl : bits.length < 1099511627776) : Does PP 43 [.ptr 0 0] (wr bits ++ x) (Is (L8 (pack bits)) (wr bits ++ x)) := by
  have h := bytes_spec bits hl
  cases bits with
  | nil => exact h.renI [0, 1] rfl (by decide) rfl ⟨rfl, rfl, trivial⟩ rfl rfl rfl rfl rfl (List.append_nil _)
  | cons c r =>
    show Does PP 43 [.ptr 0 0] (wl (c :: r) ++ x) (Is (L8 (pack (c :: r))) (wl (c :: r) ++ x))
    exact h.renI [0, 1] rfl (by decide) rfl ⟨rfl, rfl, trivial⟩ rfl rfl rfl rfl rfl (List.append_nil _)
theorem wlen0 : Does PP 41 [.ptr 0 0] [.box [.ls .nl .nil, .int .i64 0]] (Is (I 0) [.box [.ls .nl .nil, .int .i64 0]]) := by
  refine doesF P_ok Try.f41 (by kernel_rfl) (by kernel_rfl) ?_
  intro i2 c2 u1 cv mx mn ad sbt bn bq ba lnI gtI apI sbI stI rpI lnG gtG apG sbG stG rpG fi fb fs fl fg fc sln sgt sap ssb sc b2s s2b nd call calld callv callvd loop rfun fin hk
  (conv => cbv)
  exact hk.fin1 rfl
/-! ### The laws -/
theorem rankTakes_law (bs : List Int) (hlb : bs.length ≤ 9223372036854775807) (hB : Bytes8 bs) (n : Int) : Does PP 10 [L8 bs, I n] [] (Is (.bool true) []) := by
  have haw := awake12
  by_cases hs : bs.length ≤ 20
  · have hop := open_spec bs
    have hro := fun h => refOpen_spec bs h hB (by omega)
    have hrem : remOf bs 0 = unpack bs := rfl
    have hul := unpack_len bs
    have key : ∃ (a2 F : Int) (L : List Int) (R : List Bool), Does PP 35 [.ptr 0 0, I n] (rd bs 0 0) (Is (LI L) (rd bs a2 F)) ∧ (∀ h, Does PP 36 [rrd (strB (unpack bs)) (8 * (bs.length : Nat)) 0, I n] h (Is (.tup [rrd (strB R) (8 * (bs.length : Nat)) F, LI L]) h)) ∧
        Does PP 39 [.ptr 0 0] (rd bs a2 F) (Is (I (R.length : Nat)) (rd bs a2 F)) ∧ L.length ≤ 9223372036854775807 := by
      by_cases hn : 1 ≤ n ∧ n ≤ 8
      · obtain ⟨t1, t2, t3⟩ := tmA_ok bs n.toNat 0 0 (Int.le_refl _) (by simp)
        refine ⟨_, _, _, _, rktake_spec bs 0 0 n hB (Int.le_refl _) (by simp) (by omega) hn.1 hn.2, fun h => refRtake_spec (unpack bs) _ 0 n h (by omega) hn.1 hn.2, ?_, ?_⟩
        · have := left_spec bs (0 + tmA n.toNat (remOf bs 0) 0) (toF n.toNat (remOf bs 0) 0) t1 t2 (by omega)
          rw [t3] at this
          exact this
        · unfold toL ofL
          split
          · cases he : ofGo (rangeI (tmM n.toNat (remOf bs 0) 0).length) (tmM n.toNat (remOf bs 0) 0) with
            | none => simp
            | some x =>
              have := (mk_ofGo _ _ x (rangeI_inc _) (by rw [rangeI_len]) he).1.length_eq
              rw [rangeI_len, tmM_len] at this
              simp only [Option.getD_some]; omega
          · simp
      · refine ⟨_, _, _, unpack bs, rktake_bad bs 0 0 n hn, fun h => refRtake_bad _ _ 0 n h hn, ?_, by simp⟩
        simp only [if_true]
        exact left_spec bs 0 1 (Int.le_refl _) (by simp) (by omega)
    obtain ⟨a2, F, L, R, k1, k2, k3, k4⟩ := key
    have hfl := fail_spec bs a2 F
    have hsm := fun h => same_spec L L h k4 k4
    simp only [decide_true] at hsm
    obtain ⟨S0, hS0⟩ : ∃ S, S = strB (unpack bs) := ⟨_, rfl⟩
    obtain ⟨S1, hS1⟩ : ∃ S, S = strB R := ⟨_, rfl⟩
    obtain ⟨A, hA⟩ : ∃ A : Int, A = 8 * (bs.length : Nat) := ⟨_, rfl⟩
    obtain ⟨RL, hRL⟩ : ∃ A : Int, A = (R.length : Nat) := ⟨_, rfl⟩
    have hS1l : S1.length = R.length := by rw [hS1, strB_len]
    rw [← hRL] at k3
    simp only [← hS0, ← hS1, ← hA] at k2 hro
    unfold rd at hop k1 k3 hfl
    clear hS0 hS1 hA hrem hul hB
    refine doesF P_ok Try.f10 (by kernel_rfl) (by kernel_rfl) ?_
    intro i2 c2 u1 cv mx mn ad sbt bn bq ba lnI gtI apI sbI stI rpI lnG gtG apG sbG stG rpG fi fb fs fl fg fc sln sgt sap ssb sc b2s s2b nd call calld callv callvd loop rfun fin hk
    have hlb : lnI bs ≤ 20 := hk.lnI_le bs 20 (by omega)
    have hls : sln S1 = RL := by rw [hk.sln_eq]; omega
    clear hs hRL
    (conv => cbv)
    repeat' (first
      | assumption
      | (refine hk.callA (haw _) ?_; (conv => cbv))
      | (refine hk.callA (hro _) ?_; (conv => cbv))
      | (refine hk.callA (k2 _) ?_; (conv => cbv))
      | (refine hk.callA (hsm _) ?_; (conv => cbv))
      | (refine hk.brLssT (by omega) ?_; (conv => cbv))
      | (refine hk.brLssF (by omega) ?_; (conv => cbv))
      | (refine hk.brLeqT (by omega) ?_; (conv => cbv))
      | (refine hk.brLeqF (by omega) ?_; (conv => cbv))
      | (refine hk.brGtrT (by omega) ?_; (conv => cbv))
      | (refine hk.brGtrF (by omega) ?_; (conv => cbv))
      | (refine hk.brGeqT (by omega) ?_; (conv => cbv))
      | (refine hk.brGeqF (by omega) ?_; (conv => cbv))
      | (refine hk.brEqlT (by omega) ?_; (conv => cbv))
      | (refine hk.brEqlF (by omega) ?_; (conv => cbv))
      | (refine hk.brNeqT (by omega) ?_; (conv => cbv))
      | (refine hk.brNeqF (by omega) ?_; (conv => cbv))
      | (refine hk.brLss (fun _ => ?_) (fun _ => ?_) <;> (conv => cbv))
      | (refine hk.brLeq (fun _ => ?_) (fun _ => ?_) <;> (conv => cbv))
      | (refine hk.brGtr (fun _ => ?_) (fun _ => ?_) <;> (conv => cbv))
      | (refine hk.brGeq (fun _ => ?_) (fun _ => ?_) <;> (conv => cbv))
      | (refine hk.brEql (fun _ => ?_) (fun _ => ?_) <;> (conv => cbv))
      | (refine hk.brNeq (fun _ => ?_) (fun _ => ?_) <;> (conv => cbv))
      | (refine hk.brNotT ?_; (conv => cbv))
      | (refine hk.brNotF ?_; (conv => cbv))
      | (refine hk.brNotS _ (by simp [hk.c2_lss, hk.c2_leq, hk.c2_gtr, hk.c2_geq, hk.c2_eql, hk.c2_neq, hk.bn_eq, hk.bq_eq]; rfl) ?_; (conv => cbv))
      | (refine hk.brBqS _ (by simp [hk.c2_lss, hk.c2_leq, hk.c2_gtr, hk.c2_geq, hk.c2_eql, hk.c2_neq, hk.bn_eq, hk.bq_eq]; rfl) ?_; (conv => cbv))
      | (refine hk.idxI (by first | omega | assumption) (by first | omega | assumption) ?_; (conv => cbv))
      | (refine hk.nzI (by first | omega | assumption | decide) ?_; (conv => cbv))
      | (refine hk.ge0I (by first | omega | assumption) ?_; (conv => cbv))
      | (refine hk.needI (by first | (simp only [rNd, hk.sb_eq, hk.ad_eq]; omega) | (simp [rNd, hk.sb_eq, hk.ad_eq]; omega)) ?_; (conv => cbv))
      | (refine hk.callA (by assumption) ?_; (conv => cbv))
      | (refine hk.calldA (by assumption) ?_; (conv => cbv))
      | (rw [hk.sb0]; (conv => cbv))
      | (rw [hk.ad0]; (conv => cbv))
      | exact hk.finB (by first | rfl | assumption | (simp [hk.c2_lss, hk.c2_leq, hk.c2_gtr, hk.c2_geq, hk.c2_eql, hk.c2_neq, hk.bn_eq, hk.bq_eq]; done))
      | exact hk.fin1 rfl)
    refine hk.calld1 (r := .int .i64 F) (fun x => hfl.renI [0] rfl (by decide) rfl ⟨rfl, trivial⟩ rfl rfl rfl rfl rfl (List.append_nil _)) ?_
    (conv => cbv)
    repeat' (first
      | assumption
      | (refine hk.brLssT (by omega) ?_; (conv => cbv))
      | (refine hk.brLssF (by omega) ?_; (conv => cbv))
      | (refine hk.brLeqT (by omega) ?_; (conv => cbv))
      | (refine hk.brLeqF (by omega) ?_; (conv => cbv))
      | (refine hk.brGtrT (by omega) ?_; (conv => cbv))
      | (refine hk.brGtrF (by omega) ?_; (conv => cbv))
      | (refine hk.brGeqT (by omega) ?_; (conv => cbv))
      | (refine hk.brGeqF (by omega) ?_; (conv => cbv))
      | (refine hk.brEqlT (by omega) ?_; (conv => cbv))
      | (refine hk.brEqlF (by omega) ?_; (conv => cbv))
      | (refine hk.brNeqT (by omega) ?_; (conv => cbv))
      | (refine hk.brNeqF (by omega) ?_; (conv => cbv))
      | (refine hk.brLss (fun _ => ?_) (fun _ => ?_) <;> (conv => cbv))
      | (refine hk.brLeq (fun _ => ?_) (fun _ => ?_) <;> (conv => cbv))
      | (refine hk.brGtr (fun _ => ?_) (fun _ => ?_) <;> (conv => cbv))
      | (refine hk.brGeq (fun _ => ?_) (fun _ => ?_) <;> (conv => cbv))
      | (refine hk.brEql (fun _ => ?_) (fun _ => ?_) <;> (conv => cbv))
      | (refine hk.brNeq (fun _ => ?_) (fun _ => ?_) <;> (conv => cbv))
      | (refine hk.brNotT ?_; (conv => cbv))
      | (refine hk.brNotF ?_; (conv => cbv))
      | (refine hk.brNotS _ (by simp [hk.c2_lss, hk.c2_leq, hk.c2_gtr, hk.c2_geq, hk.c2_eql, hk.c2_neq, hk.bn_eq, hk.bq_eq]; rfl) ?_; (conv => cbv))
      | (refine hk.brBqS _ (by simp [hk.c2_lss, hk.c2_leq, hk.c2_gtr, hk.c2_geq, hk.c2_eql, hk.c2_neq, hk.bn_eq, hk.bq_eq]; rfl) ?_; (conv => cbv))
      | (refine hk.idxI (by first | omega | assumption) (by first | omega | assumption) ?_; (conv => cbv))
      | (refine hk.nzI (by first | omega | assumption | decide) ?_; (conv => cbv))
      | (refine hk.ge0I (by first | omega | assumption) ?_; (conv => cbv))
      | (refine hk.needI (by first | (simp only [rNd, hk.sb_eq, hk.ad_eq]; omega) | (simp [rNd, hk.sb_eq, hk.ad_eq]; omega)) ?_; (conv => cbv))
      | (refine hk.callA (by assumption) ?_; (conv => cbv))
      | (refine hk.calldA (by assumption) ?_; (conv => cbv))
      | (rw [hk.sb0]; (conv => cbv))
      | (rw [hk.ad0]; (conv => cbv))
      | exact hk.finB (by first | rfl | assumption | (simp [hk.c2_lss, hk.c2_leq, hk.c2_gtr, hk.c2_geq, hk.c2_eql, hk.c2_neq, hk.bn_eq, hk.bq_eq]; done))
      | exact hk.fin1 rfl)
    · exact hk.fin0 rfl rfl (.refl _ _)
    · refine hk.calld1 (r := .int .i64 RL) (fun x => k3.renI [0] rfl (by decide) rfl ⟨rfl, trivial⟩ rfl rfl rfl rfl rfl (List.append_nil _)) ?_
      (conv => cbv)
      rw [hls]
      exact hk.fin0 rfl rfl (Wk.of_eq (congrArg _ (by rw [hk.c2_eql]; simp)))
  · refine doesF P_ok Try.f10 (by kernel_rfl) (by kernel_rfl) ?_
    intro i2 c2 u1 cv mx mn ad sbt bn bq ba lnI gtI apI sbI stI rpI lnG gtG apG sbG stG rpG fi fb fs fl fg fc sln sgt sap ssb sc b2s s2b nd call calld callv callvd loop rfun fin hk
    have hlb : 20 < lnI bs := by rw [hk.lnI_eq]; omega
    (conv => cbv)
    repeat' (first
      | assumption
      | (refine hk.callA (haw _) ?_; (conv => cbv))
      | (refine hk.brLssT (by omega) ?_; (conv => cbv))
      | (refine hk.brLssF (by omega) ?_; (conv => cbv))
      | (refine hk.brLeqT (by omega) ?_; (conv => cbv))
      | (refine hk.brLeqF (by omega) ?_; (conv => cbv))
      | (refine hk.brGtrT (by omega) ?_; (conv => cbv))
      | (refine hk.brGtrF (by omega) ?_; (conv => cbv))
      | (refine hk.brGeqT (by omega) ?_; (conv => cbv))
      | (refine hk.brGeqF (by omega) ?_; (conv => cbv))
      | (refine hk.brEqlT (by omega) ?_; (conv => cbv))
      | (refine hk.brEqlF (by omega) ?_; (conv => cbv))
      | (refine hk.brNeqT (by omega) ?_; (conv => cbv))
      | (refine hk.brNeqF (by omega) ?_; (conv => cbv))
      | (refine hk.brLss (fun _ => ?_) (fun _ => ?_) <;> (conv => cbv))
      | (refine hk.brLeq (fun _ => ?_) (fun _ => ?_) <;> (conv => cbv))
      | (refine hk.brGtr (fun _ => ?_) (fun _ => ?_) <;> (conv => cbv))
      | (refine hk.brGeq (fun _ => ?_) (fun _ => ?_) <;> (conv => cbv))
      | (refine hk.brEql (fun _ => ?_) (fun _ => ?_) <;> (conv => cbv))
      | (refine hk.brNeq (fun _ => ?_) (fun _ => ?_) <;> (conv => cbv))
      | (refine hk.brNotT ?_; (conv => cbv))
      | (refine hk.brNotF ?_; (conv => cbv))
      | (refine hk.brNotS _ (by simp [hk.c2_lss, hk.c2_leq, hk.c2_gtr, hk.c2_geq, hk.c2_eql, hk.c2_neq, hk.bn_eq, hk.bq_eq]; rfl) ?_; (conv => cbv))
      | (refine hk.brBqS _ (by simp [hk.c2_lss, hk.c2_leq, hk.c2_gtr, hk.c2_geq, hk.c2_eql, hk.c2_neq, hk.bn_eq, hk.bq_eq]; rfl) ?_; (conv => cbv))
      | (refine hk.idxI (by first | omega | assumption) (by first | omega | assumption) ?_; (conv => cbv))
      | (refine hk.nzI (by first | omega | assumption | decide) ?_; (conv => cbv))
      | (refine hk.ge0I (by first | omega | assumption) ?_; (conv => cbv))
      | (refine hk.needI (by first | (simp only [rNd, hk.sb_eq, hk.ad_eq]; omega) | (simp [rNd, hk.sb_eq, hk.ad_eq]; omega)) ?_; (conv => cbv))
      | (refine hk.callA (by assumption) ?_; (conv => cbv))
      | (refine hk.calldA (by assumption) ?_; (conv => cbv))
      | (rw [hk.sb0]; (conv => cbv))
      | (rw [hk.ad0]; (conv => cbv))
      | exact hk.finB (by first | rfl | assumption | (simp [hk.c2_lss, hk.c2_leq, hk.c2_gtr, hk.c2_geq, hk.c2_eql, hk.c2_neq, hk.bn_eq, hk.bq_eq]; done))
      | exact hk.fin1 rfl)
end Go.Proofs.Ytnnpookoencpnaa
