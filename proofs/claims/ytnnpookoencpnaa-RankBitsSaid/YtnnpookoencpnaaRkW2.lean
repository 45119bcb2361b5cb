/-
  Contracts of functions of the program, proved over the abstract machine of the Al texts.
-/
import Derived.Test.YtnnpookoencpnaaRkW
set_option maxHeartbeats 4000000
set_option maxRecDepth 20000
set_option linter.unusedSimpArgs false
set_option linter.unusedVariables false
open Go Go.AL
namespace Go.Proofs.Ytnnpookoencpnaa
theorem put_rt (l : List Int) (ho : Order l) : toL l.length (padTo (rbits (mk l))) 0 = l ∧ toF l.length (padTo (rbits (mk l))) 0 = 0 ∧ enV (tmR l.length (padTo (rbits (mk l))) 0) 0 = 0 := by
  have h1 := ho.1
  have h8 := ho.2.1
  obtain ⟨t1, t2, t3⟩ := tm_back (mk l) (List.replicate ((8 - (rbits (mk l)).length % 8) % 8) false) (mk_ok l) (by rw [mk_len]; exact h8)
  rw [mk_len] at t1 t2 t3
  have hog : ofGo (rangeI (mk l).length) (mk l) = some l := by
    rw [mk_len]
    exact ofGo_mk l (rangeI l.length) (rangeI_inc _) (order_perm ho.2.2)
  unfold toL toF padTo
  rw [t3, t1, t2]
  refine ⟨by simp [ofL, hog], by simp [ofE, hog], ?_⟩
  obtain ⟨k, hk⟩ : ∃ k, k = (8 - (rbits (mk l)).length % 8) % 8 := ⟨_, rfl⟩
  have hk8 : k < 8 := by rw [hk]; exact Nat.mod_lt _ (by decide)
  rw [← hk]
  clear hk t1 t2 t3
  match k, hk8 with
  | 0, _ => rfl
  | 1, _ => rfl
  | 2, _ => rfl
  | 3, _ => rfl
  | 4, _ => rfl
  | 5, _ => rfl
  | 6, _ => rfl
  | 7, _ => rfl
theorem rankBits_law (l : List Int) (hl : l.length ≤ 9223372036854775807) : Does PP 11 [LI l] [] (Is (.bool true) []) := by
  have haw := awake12
  have hRG := fun h => refGood_spec l h hl
  by_cases ho : Order l
  · have hRG : ∀ h, Does PP 25 [LI l] h (Is (.bool true) h) := fun h => by
      have := hRG h
      rwa [(orderB_iff l).2 ho] at this
    have h1 := ho.1
    have h8 := ho.2.1
    obtain ⟨r1, r2, r3⟩ := put_rt l ho
    obtain ⟨bits, hbits⟩ : ∃ b, b = rbits (mk l) := ⟨_, rfl⟩
    have hbl : bits.length ≤ 24 := by rw [hbits]; have := rbits_len (mk l); rw [mk_len] at this; omega
    have hput : Does PP 40 [.ptr 0 0, LI l] [.box [.ls .nl .nil, .int .i64 0]] (Is (.bool true) (wr bits)) := by
      have h : Does PP 40 [.ptr 0 0, LI l] [.box [.ls .nl .nil, .int .i64 0], .rw 0 (.il .u8 [])] (Is (.bool true) (wr bits)) := by
        rw [hbits]; exact rput_spec l [] ho (by simp)
      exact Does.ghost (GE.newRow (.il .u8 []) rfl) h (by simp)
    have hrp := fun h => refRput_spec l h h1 h8
    rw [← hbits] at r1 r2 r3
    simp only [← hbits] at hrp
    have hby := bytes_spec bits (by omega)
    have hby3 := fun o => wbytes3 bits o (by omega)
    have hln3 := fun o => wlen3 bits o
    have hrb := fun h => refBytes_spec bits h (by omega)
    have hpk := pack_bytes bits
    have hup := unpack_pack bits
    have hpl := pack_len bits
    obtain ⟨P, hP⟩ : ∃ P, P = pack bits := ⟨_, rfl⟩
    simp only [← hP] at hby hby3 hrb hpk hup hpl
    have hnb : nby bits.length ≤ 3 := by rw [nby]; omega
    have hrm : remOf P 0 = padTo bits := by rw [← hup]; rfl
    have htk := rktake_spec P 0 0 (l.length : Nat) hpk (Int.le_refl _) (by simp) (by omega) (by omega) (by omega)
    obtain ⟨t1, t2, t3⟩ := tmA_ok P l.length 0 0 (Int.le_refl _) (by simp)
    have hen := rend_spec P (0 + tmA l.length (remOf P 0) 0) 0 hpk t1 t2 (by omega)
    rw [t3] at hen
    rw [Int.toNat_natCast] at htk
    rw [hrm] at htk hen
    rw [r1, r2] at htk
    rw [r3] at hen
    obtain ⟨a2, ha2⟩ : ∃ a, a = 0 + tmA l.length (padTo bits) 0 := ⟨_, rfl⟩
    rw [← ha2] at htk hen
    obtain ⟨o1, o2, hW⟩ : ∃ o1 o2, wr bits = [o1, o2] := wr_two bits
    have hrd : ∀ (f : FuncId) (args : List AVal) (v : AVal) (a b : Int), Does PP f (.ptr 0 0 :: args) (rd P 0 0) (Is v (rd P a b)) → lows 0 args = true → low 0 v = true → Does PP f (.ptr 0 0 :: args) (rd P 0 0) (Is v (rd P a b)) := fun _ _ _ _ _ h _ _ => h
    have htk : Does PP 35 [.ptr 2 0, I (l.length : Nat)] [o1, o2, .box [.ls (.il .u8 P) .any, .int .i64 0, .int .i64 0]] (Is (LI l) [o1, o2, .box [.ls (.il .u8 P) .any, .int .i64 a2, .int .i64 0]]) :=
      htk.renI [2] rfl (by decide) rfl ⟨rfl, trivial⟩ rfl rfl rfl rfl rfl rfl
    have hen0 := hen
    have hen : Does PP 45 [.ptr 2 0] [o1, o2, .box [.ls (.il .u8 P) .any, .int .i64 a2, .int .i64 0]] (Is (I 0) [o1, o2, .box [.ls (.il .u8 P) .any, .int .i64 a2, .int .i64 0]]) :=
      hen.renI [2] rfl (by decide) rfl ⟨rfl, trivial⟩ rfl rfl rfl rfl rfl rfl
    have henx : ∀ x : Heap, Does PP 45 [.ptr 2 0] ([o1, o2, .box [.ls (.il .u8 P) .any, .int .i64 a2, .int .i64 0]] ++ x) (Is (I 0) ([o1, o2, .box [.ls (.il .u8 P) .any, .int .i64 a2, .int .i64 0]] ++ x)) := fun x =>
      hen0.renI [2] rfl (by decide) rfl ⟨rfl, trivial⟩ rfl rfl rfl rfl rfl (List.append_nil _)
    have hop : Does PP 34 [L8 P] [o1, o2] (Is (.ptr 2 0) [o1, o2, .box [.ls (.il .u8 P) .any, .int .i64 0, .int .i64 0]]) :=
      (open_spec P).renI [] rfl (by decide) rfl trivial rfl rfl rfl rfl rfl rfl
    have hsm := fun h => same_spec l l h hl hl
    simp only [decide_true] at hsm
    rw [hW] at hput hby hby3 hln3
    have hln3 : ∀ o x, Does PP 41 [.ptr 0 0] ([o1, o2, o] ++ x) (Is (I (bits.length : Nat)) ([o1, o2, o] ++ x)) := fun o x => hln3 (o :: x)
    have hby3 : ∀ o x, Does PP 43 [.ptr 0 0] ([o1, o2, o] ++ x) (Is (L8 P) ([o1, o2, o] ++ x)) := fun o x => hby3 (o :: x)
    obtain ⟨S, hS⟩ : ∃ S, S = strB bits := ⟨_, rfl⟩
    have hSl : S.length = bits.length := by rw [hS, strB_len]
    simp only [← hS] at hrp hrb
    obtain ⟨n, hn⟩ : ∃ n : Int, n = (l.length : Nat) := ⟨_, rfl⟩
    obtain ⟨m, hm⟩ : ∃ n : Int, n = (bits.length : Nat) := ⟨_, rfl⟩
    rw [← hn] at htk
    simp only [← hm] at hln3
    clear hrd hbits hP ha2 hrm hup hS t1 t2 t3 r1 r2 r3 hpk
    refine doesFs (fun f => Nat.beq f 35) P_ok Try.f11 (by kernel_rfl) (by kernel_rfl) ?_
    intro i2 c2 u1 cv mx mn ad sbt bn bq ba lnI gtI apI sbI stI rpI lnG gtG apG sbG stG rpG fi fb fs fl fg fc sln sgt sap ssb sc b2s s2b nd call calld callv callvd loop rfun fin hk
    have hsc : sc .eql (b2s P) (b2s P) = true := by rw [hk.sc_eq]; simp [rSc]
    have hll : lnI l = n := by rw [hk.lnI_eq]; omega
    have htk2 := htk
    rw [← hll] at htk2
    have hls : sln S = m := by rw [hk.sln_eq]; omega
    have hn8 : n ≤ 8 := by omega
    clear hn hm
    (conv => cbv)
    repeat' (first
      | assumption
      | (refine hk.callA (haw _) ?_; (conv => cbv))
      | (refine hk.callA (hRG _) ?_; (conv => cbv))
      | (refine hk.callA (hrp _) ?_; (conv => cbv))
      | (refine hk.callA (hsm _) ?_; (conv => cbv))
      | (refine hk.callA (hrb _) ?_; (conv => cbv))
      | (refine hk.calldA hrb ?_; (conv => cbv))
      | (refine hk.calldA hsm ?_; (conv => cbv))
      | (refine hk.calldA haw ?_; (conv => cbv))
      | (refine hk.calld1 (hln3 _) ?_; (conv => cbv))
      | (refine hk.calld1 (hby3 _) ?_; (conv => cbv))
      | (refine hk.callS htk2 ?_; (conv => cbv))
      | (refine hk.calld1 henx ?_; (conv => cbv))
      | (rw [hsc]; (conv => cbv))
      | (refine hk.brLssT (by omega) ?_; (conv => cbv))
      | (refine hk.brLssF (by omega) ?_; (conv => cbv))
      | (refine hk.brLeqT (by omega) ?_; (conv => cbv))
      | (refine hk.brLeqF (by omega) ?_; (conv => cbv))
      | (refine hk.brGtrT (by omega) ?_; (conv => cbv))
      | (refine hk.brGtrF (by omega) ?_; (conv => cbv))
      | (refine hk.brGeqT (by omega) ?_; (conv => cbv))
      | (refine hk.brGeqF (by omega) ?_; (conv => cbv))
      | (refine hk.brEqlT (by omega) ?_; (conv => cbv))
      | (refine hk.brEqlF (by omega) ?_; (conv => cbv))
      | (refine hk.brNeqT (by omega) ?_; (conv => cbv))
      | (refine hk.brNeqF (by omega) ?_; (conv => cbv))
      | (refine hk.brLss (fun _ => ?_) (fun _ => ?_) <;> (conv => cbv))
      | (refine hk.brLeq (fun _ => ?_) (fun _ => ?_) <;> (conv => cbv))
      | (refine hk.brGtr (fun _ => ?_) (fun _ => ?_) <;> (conv => cbv))
      | (refine hk.brGeq (fun _ => ?_) (fun _ => ?_) <;> (conv => cbv))
      | (refine hk.brEql (fun _ => ?_) (fun _ => ?_) <;> (conv => cbv))
      | (refine hk.brNeq (fun _ => ?_) (fun _ => ?_) <;> (conv => cbv))
      | (refine hk.brNotT ?_; (conv => cbv))
      | (refine hk.brNotF ?_; (conv => cbv))
      | (refine hk.brNotS _ (by simp [hk.c2_lss, hk.c2_leq, hk.c2_gtr, hk.c2_geq, hk.c2_eql, hk.c2_neq, hk.bn_eq, hk.bq_eq]; rfl) ?_; (conv => cbv))
      | (refine hk.brBqS _ (by simp [hk.c2_lss, hk.c2_leq, hk.c2_gtr, hk.c2_geq, hk.c2_eql, hk.c2_neq, hk.bn_eq, hk.bq_eq]; rfl) ?_; (conv => cbv))
      | (refine hk.idxI (by first | omega | assumption) (by first | omega | assumption) ?_; (conv => cbv))
      | (refine hk.nzI (by first | omega | assumption | decide) ?_; (conv => cbv))
      | (refine hk.ge0I (by first | omega | assumption) ?_; (conv => cbv))
      | (refine hk.needI (by first | (simp only [rNd, hk.sb_eq, hk.ad_eq]; omega) | (simp [rNd, hk.sb_eq, hk.ad_eq]; omega)) ?_; (conv => cbv))
      | (refine hk.callA (by assumption) ?_; (conv => cbv))
      | (refine hk.calldA (by assumption) ?_; (conv => cbv))
      | (rw [hk.sb0]; (conv => cbv))
      | (rw [hk.ad0]; (conv => cbv))
      | exact hk.finB (by first | rfl | assumption | (simp [hk.c2_lss, hk.c2_leq, hk.c2_gtr, hk.c2_geq, hk.c2_eql, hk.c2_neq, hk.bn_eq, hk.bq_eq]; done))
      | exact hk.fin1 rfl)
    exact hk.fin0 rfl rfl (Wk.of_eq (congrArg _ (by rw [hk.c2_eql]; simp)))
  · have hRG : ∀ h, Does PP 25 [LI l] h (Is (.bool false) h) := fun h => by
      have := hRG h
      rwa [show orderB l = false by rw [Bool.eq_false_iff, ne_eq, orderB_iff]; exact ho] at this
    have hbad := fun h => rput_bad l h (.ptr 0 0) ho hl
    have hl0 := wlen0
    refine doesF P_ok Try.f11 (by kernel_rfl) (by kernel_rfl) ?_
    intro i2 c2 u1 cv mx mn ad sbt bn bq ba lnI gtI apI sbI stI rpI lnG gtG apG sbG stG rpG fi fb fs fl fg fc sln sgt sap ssb sc b2s s2b nd call calld callv callvd loop rfun fin hk
    (conv => cbv)
    repeat' (first
      | assumption
      | (refine hk.callA (haw _) ?_; (conv => cbv))
      | (refine hk.callA (hRG _) ?_; (conv => cbv))
      | (refine hk.callA (hbad _) ?_; (conv => cbv))
      | (refine hk.brLssT (by omega) ?_; (conv => cbv))
      | (refine hk.brLssF (by omega) ?_; (conv => cbv))
      | (refine hk.brLeqT (by omega) ?_; (conv => cbv))
      | (refine hk.brLeqF (by omega) ?_; (conv => cbv))
      | (refine hk.brGtrT (by omega) ?_; (conv => cbv))
      | (refine hk.brGtrF (by omega) ?_; (conv => cbv))
      | (refine hk.brGeqT (by omega) ?_; (conv => cbv))
      | (refine hk.brGeqF (by omega) ?_; (conv => cbv))
      | (refine hk.brEqlT (by omega) ?_; (conv => cbv))
      | (refine hk.brEqlF (by omega) ?_; (conv => cbv))
      | (refine hk.brNeqT (by omega) ?_; (conv => cbv))
      | (refine hk.brNeqF (by omega) ?_; (conv => cbv))
      | (refine hk.brLss (fun _ => ?_) (fun _ => ?_) <;> (conv => cbv))
      | (refine hk.brLeq (fun _ => ?_) (fun _ => ?_) <;> (conv => cbv))
      | (refine hk.brGtr (fun _ => ?_) (fun _ => ?_) <;> (conv => cbv))
      | (refine hk.brGeq (fun _ => ?_) (fun _ => ?_) <;> (conv => cbv))
      | (refine hk.brEql (fun _ => ?_) (fun _ => ?_) <;> (conv => cbv))
      | (refine hk.brNeq (fun _ => ?_) (fun _ => ?_) <;> (conv => cbv))
      | (refine hk.brNotT ?_; (conv => cbv))
      | (refine hk.brNotF ?_; (conv => cbv))
      | (refine hk.brNotS _ (by simp [hk.c2_lss, hk.c2_leq, hk.c2_gtr, hk.c2_geq, hk.c2_eql, hk.c2_neq, hk.bn_eq, hk.bq_eq]; rfl) ?_; (conv => cbv))
      | (refine hk.brBqS _ (by simp [hk.c2_lss, hk.c2_leq, hk.c2_gtr, hk.c2_geq, hk.c2_eql, hk.c2_neq, hk.bn_eq, hk.bq_eq]; rfl) ?_; (conv => cbv))
      | (refine hk.idxI (by first | omega | assumption) (by first | omega | assumption) ?_; (conv => cbv))
      | (refine hk.nzI (by first | omega | assumption | decide) ?_; (conv => cbv))
      | (refine hk.ge0I (by first | omega | assumption) ?_; (conv => cbv))
      | (refine hk.needI (by first | (simp only [rNd, hk.sb_eq, hk.ad_eq]; omega) | (simp [rNd, hk.sb_eq, hk.ad_eq]; omega)) ?_; (conv => cbv))
      | (refine hk.callA (by assumption) ?_; (conv => cbv))
      | (refine hk.calldA (by assumption) ?_; (conv => cbv))
      | (rw [hk.sb0]; (conv => cbv))
      | (rw [hk.ad0]; (conv => cbv))
      | exact hk.finB (by first | rfl | assumption | (simp [hk.c2_lss, hk.c2_leq, hk.c2_gtr, hk.c2_geq, hk.c2_eql, hk.c2_neq, hk.bn_eq, hk.bq_eq]; done))
      | exact hk.fin1 rfl)
    exact hk.fin0 rfl rfl (Wk.of_eq (congrArg _ (by rw [hk.c2_eql]; simp)))
end Go.Proofs.Ytnnpookoencpnaa
