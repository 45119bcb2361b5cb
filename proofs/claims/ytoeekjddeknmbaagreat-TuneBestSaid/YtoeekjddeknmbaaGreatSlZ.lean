/-
  Contracts of functions of the program, proved over the abstract machine of the Al texts.
-/
import Derived.Test.YtoeekjddeknmbaaGreatTryTab
import Derived.Test.YtoeekjddeknmbaaGreatAl4
import Derived.Test.YtoeekjddeknmbaaGreatBaseX
import Derived.Test.YtoeekjddeknmbaaGreatSlX
import Derived.Test.YtoeekjddeknmbaaGreatSlY
import Derived.Test.YtoeekjddeknmbaaGreatRkX
import Derived.Test.YtoeekjddeknmbaaGreatPpX
import Derived.Test.YtoeekjddeknmbaaGreatPpZ
import Derived.Test.YtoeekjddeknmbaaGreatBsX1
import Derived.Test.YtoeekjddeknmbaaGreatPlX
set_option maxHeartbeats 4000000
set_option maxRecDepth 20000
set_option linter.unusedSimpArgs false
set_option linter.unusedVariables false
open Go Go.AL
namespace Go.Proofs.YtoeekjddeknmbaaGreat
theorem doesYs {P : Program} {T : Tab} {M : MTab} (hP : ProgOK P T M) (ρ : Nat → Bool) (st : Nat → Bool) {h : Heap} (i : Nat) (L : LoopA) {args : List AVal} {R : AVal → Heap → Prop} (hi : h[i]? = some (.loop L)) (hlen : args.length = L.ps.size)
 (hB : (L.ps.toList.all (fun t => Nat.blt t L.nt) && (lexAll st L.assign && lexAll st L.body && (noRange L.assign && noRange L.body))) = true)
 (hw : ∀ i2 c2 u1 cv mx mn ad sbt bn bq ba lnI gtI apI sbI stI rpI lnG gtG apG sbG stG rpG fi fb fs fl fg fc sln sgt sap ssb sc b2s s2b nd call calld callv callvd loop rfun fin,
   HK P h.length L.nt i2 c2 u1 cv mx mn ad sbt bn bq ba lnI gtI apI sbI stI rpI lnG gtG apG sbG stG rpG fi fb fs fl fg fc sln sgt sap ssb sc b2s nd call calld callv callvd loop rfun fin →
   wpc ⟨i2, c2, u1, cv, mx, mn, ad, sbt, bn, bq, ba, lnI, gtI, apI, sbI, stI, rpI, lnG, gtG, apG, sbG, stG, rpG, fi, fb, fs, fl, fg, fc, sln, sgt, sap, ssb, sc, b2s, s2b, nd, call, calld, callv, callvd, loop, rfun, fin, ρ, st⟩ T M L.nt L.assign ⟨tmY L.ps.toList args (tmL L.l), h⟩
    (rBegin i (wpc ⟨i2, c2, u1, cv, mx, mn, ad, sbt, bn, bq, ba, lnI, gtI, apI, sbI, stI, rpI, lnG, gtG, apG, sbG, stG, rpG, fi, fb, fs, fl, fg, fc, sln, sgt, sap, ssb, sc, b2s, s2b, nd, call, calld, callv, callvd, loop, rfun, fin, ρ, st⟩ T M L.nt L.body) R)) : DoesV P (.yld i) args h R := by
 simp only [Bool.and_eq_true] at hB
 have hk := hooks_real P T M h.length L.nt ρ st
 exact yld_does hP hk hi hlen hB.1 hB.2.1.1 hB.2.1.2 hB.2.2.1 hB.2.2.2 (hw _ _ _ _ _ _ _ _ _ _ _ _ _ _ _ _ _ _ _ _ _ _ _ _ _ _ _ _ _ _ _ _ _ _ _ _ _ _ _ _ _ _ _ _ (hk_of hk))
theorem each1_spec (l ks : List Int) (p m : Int) (Af Bf : Nat → AObj) (c d lo : AObj) (hl : l.length ≤ 1024) (h0 : 0 ≤ p) (h1 : p ≤ 3) (hm : m = 2 ^ p.toNat) (hs : (l.length / 2 ^ p.toNat) * 2 ^ p.toNat = l.length)
 (hy : ∀ k : Nat, (k : Int) < m → DoesV PP (.yld 7) [I (k : Nat), LI (partL l (l.length / 2 ^ p.toNat) k)] [Af k, Bf k, c, d, .box [LI l], .box [I m], .box [ptC p ks], lo] (Is (.bool true) [Af (k + 1), Bf (k + 1), c, d, .box [LI l], .box [I m], .box [ptC p ks], lo])) :
 Does PP 136 [.yld 7, .ptr 5 0, .ptr 6 0, .ptr 4 0] [Af 0, Bf 0, c, d, .box [LI l], .box [I m], .box [ptC p ks], lo] (Is (.tup []) [Af m.toNat, Bf m.toNat, c, d, .box [LI l], .box [I m], .box [ptC p ks], lo]) := by
 have hm8 : 1 ≤ m ∧ m ≤ 8 := by
  have : ∀ k : Nat, k ≤ 3 → (1 : Int) ≤ 2 ^ k ∧ (2 : Int) ^ k ≤ 8 := by decide
  rw [hm]; exact this p.toNat (by omega)
 obtain ⟨Q, hQ⟩ : ∃ Q : Int → List Int, ∀ i, Q i = partL l (l.length / 2 ^ p.toNat) i.toNat := ⟨_, fun _ => rfl⟩
 obtain ⟨A, hA⟩ : ∃ A : Int → AObj, ∀ i, A i = Af i.toNat := ⟨_, fun _ => rfl⟩
 obtain ⟨B, hB⟩ : ∃ A : Int → AObj, ∀ i, A i = Bf i.toNat := ⟨_, fun _ => rfl⟩
 have hpt : ∀ (i : Int) h, 0 ≤ i → i < m → Does PP 130 [.agg [I p, LI ks], LI l, I i] h (Is (LI (Q i)) h) := fun i h a b => by
  rw [hQ]; exact part_spec p ks l i h hl h0 (by omega) a (by rw [← hm]; exact b) hs
 have hyI : ∀ i : Int, 0 ≤ i → i < m → DoesV PP (.yld 7) [I i, LI (Q i)] [A i, B i, c, d, .box [LI l], .box [I m], .box [ptC p ks], lo] (Is (.bool true) [A (i + 1), B (i + 1), c, d, .box [LI l], .box [I m], .box [ptC p ks], lo]) := fun i a b => by
  have := hy i.toNat (by omega)
  rw [hA, hA, hB, hB, hQ, show (i + 1).toNat = i.toNat + 1 by omega]
  rw [show ((i.toNat : Nat) : Int) = i by omega] at this
  exact this
 have eA0 : Af 0 = A 0 := (hA 0).symm
 have eB0 : Bf 0 = B 0 := (hB 0).symm
 have eAm : Af m.toNat = A m := (hA m).symm
 have eBm : Bf m.toNat = B m := (hB m).symm
 rw [eA0, eB0, eAm, eBm]
 clear hy hA hB eA0 eB0 eAm eBm hQ hm
 refine wlk Tryz.f136 ?_
 unhygienic intros
 (conv => cbv)
 repeat' (first | assumption | ((first | refine stp ?_ | refine stpB (fun _ => ?_) (fun _ => ?_)) <;> (conv => cbv)) | exact stpF | fail)
 refine hk.loopI (loop_rule (α := Int) (fun i => [(0, .yld 7), (2, .ptr 6 0), (3, .ptr 4 0), (6, .int .i64 m), (7, .int .i64 i)]) (fun i => [A i, B i, c, d, .box [.ls (.il .i64 l) .any], .box [.int .i64 m], .box [.clo (.func 130) [.agg [.int .i64 p, .ls (.il .i64 ks) .any]] []], lo])
  (fun i => 0 ≤ i ∧ i ≤ m) (fun i => (m - i).toNat) 0 ⟨by omega, by omega⟩ ?_ ?_)
 ·exact ghT
 intro i ⟨hi, hi2⟩ Q' hb hx hr
 by_cases him : i < m
 ·have hpt2 := fun h => hpt i h hi him
  have hy1 := hyI i hi him
  obtain ⟨x, hx0⟩ : ∃ x, x = Q i := ⟨_, rfl⟩
  obtain ⟨A0, hA0⟩ : ∃ x, x = A i := ⟨_, rfl⟩
  obtain ⟨B0, hB0⟩ : ∃ x, x = B i := ⟨_, rfl⟩
  obtain ⟨A1, hA1⟩ : ∃ x, x = A (i + 1) := ⟨_, rfl⟩
  obtain ⟨B1, hB1⟩ : ∃ x, x = B (i + 1) := ⟨_, rfl⟩
  rw [← hx0, ← hA0, ← hB0, ← hA1, ← hB1] at hy1
  simp only [← hx0] at hpt2
  rw [← hA0, ← hB0]
  (conv => cbv)
  repeat' (first | assumption | ((first | refine stp ?_ | refine stpB (fun _ => ?_) (fun _ => ?_)) <;> (conv => cbv)) | exact stpF | fail)
  refine hk.callvI hy1 (fun r' h' ⟨e1, e2⟩ => ?_)
  subst e1
  subst e2
  (conv => cbv)
  repeat' (first | assumption | ((first | refine stp ?_ | refine stpB (fun _ => ?_) (fun _ => ?_)) <;> (conv => cbv)) | exact stpF | fail)
  refine hb (i + 1) _ ⟨by omega, by omega⟩ (by omega) ?_
  rw [← hA1, ← hB1]
  refine Gh.tm ?_
  repeat' (first | exact Holds.nil _ _ | refine Holds.cons (Wk.refl _ _) ?_ | refine Holds.cons (Wk.of_eq ?_) ?_)
  all_goals first
   | (rw [← hk.add64 i 1 (by omega) (by omega)]; rfl)
   | rfl
   | skip
 ·have : i = m := by omega
  subst this
  (conv => cbv)
  repeat' (first | assumption | ((first | refine hx _ _ ?_ | refine stp ?_ | refine stpB (fun _ => ?_) (fun _ => ?_)) <;> (conv => cbv)) | exact stpF | fail)
theorem wr_pairs (W : Nat → List Bool) : ∃ A B : Nat → AObj, ∀ k, wr (W k) = [A k, B k] :=
 ⟨fun k => (wr (W k)).getD 0 (.dead 0), fun k => (wr (W k)).getD 1 (.dead 0), fun k => by
   obtain ⟨o, o2, h⟩ := wr_pair (W k)
   show wr (W k) = [(wr (W k)).getD 0 (.dead 0), (wr (W k)).getD 1 (.dead 0)]
   rw [h]; rfl⟩
theorem slideput_spec (l : List Int) (p : Int) (ks : List Int) (bits : List Bool) (hl : l.length ≤ 1024) (hb : bits.length < 900000)
 (hgd : ∀ h, Does PP 128 [.agg [I p, LI ks], LI l] h (Is (.bool true) h)) (hp0 : 0 ≤ p) (hp1 : p ≤ 3) (hkl : (ks.length : Int) = 2 ^ p.toNat) (hs : (l.length / 2 ^ p.toNat) * 2 ^ p.toNat = l.length)
 (hks : ∀ i, i < ks.length → 0 ≤ ks.getD i 0 ∧ ks.getD i 0 ≤ 24) (hfar : ∀ x ∈ l, -8589934592 ≤ x ∧ x < 8589934592)
 (hbl : ∀ i, i ≤ ks.length → (pcodes l ks (l.length / 2 ^ p.toNat) i).length < 1000000) :
 Does PP 113 [.ptr 0 0, LI l, .agg [I p, LI ks]] (wr bits) (Is (.bool true) (wr (bits ++ bitsOf p.toNat 2 ++ pcodes l ks (l.length / 2 ^ p.toNat) ks.length))) := by
 obtain ⟨s, hs0⟩ : ∃ s, s = l.length / 2 ^ p.toNat := ⟨_, rfl⟩
 rw [← hs0] at hbl ⊢
 obtain ⟨W, hW⟩ : ∃ W : Nat → List Bool, ∀ i, W i = bits ++ bitsOf p.toNat 2 ++ pcodes l ks s i := ⟨_, fun _ => rfl⟩
 have hpp := put_spec bits p 2 (by omega) (by decide) (by decide) hp0 (by
  have : ∀ k : Nat, k ≤ 3 → (k : Int) < 2 ^ (Int.toNat 2) := by decide
  have := this p.toNat (by omega)
  omega)
 rw [show bits ++ bitsOf p.toNat (Int.toNat 2) = W 0 by rw [hW, pcodes, List.append_nil]; rfl] at hpp
 have hWe : bits ++ bitsOf p.toNat 2 ++ pcodes l ks s ks.length = W ks.length := (hW _).symm
 rw [hWe]
 have hpp' := fun G => wr_frameG G hpp rfl rfl rfl
 obtain ⟨A, B, hAB⟩ := wr_pairs W
 obtain ⟨o, o2, ho⟩ := wr_pair bits
 have hlow := wr_lowp (W ks.length)
 obtain ⟨m, hm⟩ : ∃ m : Int, m = (ks.length : Nat) := ⟨_, rfl⟩
 have hmn : ks.length = m.toNat := by omega
 rw [hmn, hAB] at hlow
 rw [ho, hmn, hAB]
 simp only [ho, hAB, List.cons_append, List.nil_append] at hpp'
 have hec2 : ∀ a b c d, Does PP 129 [LI l, I m, ptC p ks] [a, b, c, d] (Is (.clo (.func 136) [] [.ptr 5 0, .ptr 6 0, .ptr 4 0]) [a, b, c, d, .box [LI l], .box [I m], .box [ptC p ks]]) := fun a b c d =>
  (each_clo l m p ks).renI [] rfl (by decide) rfl trivial rfl rfl rfl rfl rfl rfl
 refine wlk Tryz.f113 ?_
 unhygienic intros
 have hln : lnI ks = m := by rw [hk.lnI_eq]; omega
 have hcp : cv .u64 p = p := by rw [hk.cv_eq]; exact wrapu64 (by omega) (by omega)
 (conv => cbv)
 repeat' (first | assumption | ((first | rw [hln] | rw [hcp] | refine hk.callA (hpp' _) ?_ | refine hk.callA (hec2 _ _ _ _) ?_ | refine stp ?_ | refine stpB (fun _ => ?_) (fun _ => ?_)) <;> (conv => cbv)) | exact stpF | fail)
 refine hk.rfunI ⟨136, [], [.ptr 5 0, .ptr 6 0, .ptr 4 0], [(3, .ptr 2 0), (5, .ptr 3 0), (6, .bool false)], rfl, ?_, ?_⟩
 ·exact fun t e c hg he hv => (Holds.get (by repeat (first | exact Holds.nil _ _ | refine Holds.cons (Wk.refl _ _) ?_)) t) e c hg he hv
 ·refine (each1_spec l ks p m A B (.box [.ptr 0 0]) (.box [I p, LI ks]) _ hl hp0 hp1 (by omega) (by rw [← hs0]; rw [hs0]; exact hs) (fun k hk' => ?_)).mono fun r h ⟨e1, e2⟩ => ?_
  ·clear hk hpp hpp' hec2 hln hcp
   rw [← hs0]
   have hkk : k < ks.length := by omega
   obtain ⟨K, hK⟩ : ∃ K, K = ks.getD k 0 := ⟨_, rfl⟩
   obtain ⟨hK0, hK1⟩ := hks k hkk
   rw [← hK] at hK0 hK1
   have hWs : W (k + 1) = W k ++ pcode K (partL l s k) := by rw [hW, hW, pcodes, hK]; simp only [List.append_assoc]
   obtain ⟨x, hx0⟩ : ∃ x, x = partL l s k := ⟨_, rfl⟩
   rw [← hx0] at hWs ⊢
   have hxl : x.length ≤ 1024 := by rw [hx0, partL, List.length_take, List.length_drop]; omega
   have hxf : ∀ j, j < x.length → -8589934592 ≤ x.getD j 0 ∧ x.getD j 0 < 8589934592 := fun j hj => hfar _ (by
    have : x.getD j 0 ∈ x := mem_getD.2 ⟨j, hj, rfl⟩
    generalize x.getD j 0 = y at *
    rw [hx0, partL] at this
    exact List.mem_of_mem_drop (List.mem_of_mem_take this))
   have hWl : (W k).length < 2000000 := by rw [hW, List.length_append, List.length_append, bitsOf_len]; have := hbl k (by omega); omega
   obtain ⟨V, hV⟩ : ∃ V : Nat → List Bool, ∀ j, V j = W k ++ bitsOf K.toNat 5 ++ rcodes K (x.take j) := ⟨_, fun _ => rfl⟩
   obtain ⟨C, D, hCD⟩ := wr_pairs V
   have hP := put_spec (W k) K 5 (by omega) (by decide) (by decide) hK0 (by
    have : (2 : Int) ^ Int.toNat 5 = 32 := by decide
    omega)
   rw [show W k ++ bitsOf K.toNat (Int.toNat 5) = V 0 by rw [hV, List.take_zero]; simp [rcodes]] at hP
   have hP' := fun G => wr_frameG G hP rfl rfl rfl
   have hR : ∀ j : Nat, j < x.length → Does PP 131 [.ptr 0 0, I (x.getD j 0), I K] (wr (V j)) (Is (.bool true) (wr (V (j + 1)))) := fun j hj => by
    obtain ⟨a, b⟩ := hxf j hj
    have hVl : (V j).length < 10000000 := by
     rw [hV, List.length_append, List.length_append, bitsOf_len]
     have := rcodes_len K x hK1 hxf j (by omega)
     omega
    have := riceput_spec (V j) (x.getD j 0) K hVl a b hK0 hK1
    rw [show V j ++ rcode (x.getD j 0) K = V (j + 1) by rw [hV, hV, rcodes_step K x j hj, List.append_assoc]] at this
    exact this
   have hR' := fun (j : Nat) (hj : j < x.length) G => wr_frameG G (hR j hj) rfl rfl rfl
   simp only [hAB, hCD, List.cons_append, List.nil_append] at hP' hR'
   have hend : V x.length = W (k + 1) := by rw [hV, hWs, pcode, List.take_length, List.append_assoc]
   have hCA : C x.length = A (k + 1) ∧ D x.length = B (k + 1) := by
    have h1 := hCD x.length
    rw [hend, hAB] at h1
    injection h1 with h1 h2
    injection h2 with h2 _
    exact ⟨h1.symm, h2.symm⟩
   rw [← hCA.1, ← hCA.2]
   obtain ⟨n, hn⟩ : ∃ n : Int, n = (x.length : Nat) := ⟨_, rfl⟩
   obtain ⟨i, hi⟩ : ∃ i : Int, i = (k : Nat) := ⟨_, rfl⟩
   rw [← hi]
   obtain ⟨E, hE⟩ : ∃ E : Int → AObj, ∀ j, E j = C j.toNat := ⟨_, fun _ => rfl⟩
   obtain ⟨F, hF⟩ : ∃ E : Int → AObj, ∀ j, E j = D j.toNat := ⟨_, fun _ => rfl⟩
   have e1 : C x.length = E n := by rw [hE, hn]; rfl
   have e2 : D x.length = F n := by rw [hF, hn]; rfl
   have e3 : C 0 = E 0 := (hE 0).symm
   have e4 : D 0 = F 0 := (hF 0).symm
   rw [e1, e2]
   simp only [e3, e4] at hP'
   have hR2 : ∀ (j : Int) G, 0 ≤ j → j < n → Does PP 131 [.ptr 0 0, I (x.getD j.toNat 0), I K] (E j :: F j :: G) (Is (.bool true) (E (j + 1) :: F (j + 1) :: G)) := fun j G a b => by
    rw [hE, hE, hF, hF, show (j + 1).toNat = j.toNat + 1 by omega]; exact hR' j.toNat (by omega) G
   obtain ⟨a0, ha0⟩ : ∃ a, a = A k := ⟨_, rfl⟩
   obtain ⟨b0, hb0⟩ : ∃ a, a = B k := ⟨_, rfl⟩
   rw [← ha0, ← hb0]
   simp only [← ha0, ← hb0] at hP'
   clear hR hR' hP hend hCA hCD hV hAB hW hWs hE hF e1 e2 e3 e4 hbl hfar hgd hlow hWe hxf
   refine doesYs P_ok (fun _ => false) (fun f => Nat.beq f 110 || Nat.beq f 131) 7 _ rfl rfl (by kernel_rfl) ?_
   intro i2 c2 u1 cv mx mn ad sbt bn bq ba lnI gtI apI sbI stI rpI lnG gtG apG sbG stG rpG fi fb fs fl fg fc sln sgt sap ssb sc b2s s2b nd call calld callv callvd loop rfun fin hk
   have hlnk : lnI ks = m := by rw [hk.lnI_eq]; omega
   have hlnx : lnI x = n := by rw [hk.lnI_eq]; omega
   have hgK : gtI ks i = K := by rw [hk.gtI_eq, hK, hi]; rfl
   have hgx := hk.gtI_eq x
   have hcK : cv .u64 K = K := by rw [hk.cv_eq]; exact wrapu64 (by omega) (by omega)
   have hi0 : 0 ≤ i ∧ i < m := by omega
   (conv => cbv)
   repeat' (first | assumption | ((first | rw [hlnk] | rw [hlnx] | rw [hgK] | rw [hcK] | refine hk.idxI hi0.1 hi0.2 ?_ | refine hk.callA (hP' _) ?_ | refine hk.callS (hP' _) ?_ | refine stp ?_ | refine stpB (fun _ => ?_) (fun _ => ?_)) <;> (conv => cbv)) | exact stpF | fail)
   generalize hLP : AObj.loop _ = LP
   refine hk.loopI (loop_rule (α := Int) (fun j => [(3, .ptr 2 0), (5, .ptr 3 0), (6, .bool false), (7, .int .i64 i), (8, .ls (.il .i64 x) .any), (27, .int .i64 i), (28, .ls (.il .i64 x) .any), (37, .ls (.il .i64 x) .any), (38, .int .i64 n), (39, .int .i64 j)])
    (fun j => [E j, F j, .box [.ptr 0 0], .box [.int .i64 p, .ls (.il .i64 ks) .any], .box [.ls (.il .i64 l) .any], .box [.int .i64 m], .box [.clo (.func 130) [.agg [.int .i64 p, .ls (.il .i64 ks) .any]] []], LP])
    (fun j => 0 ≤ j ∧ j ≤ n) (fun j => (n - j).toNat) 0 ⟨by omega, by omega⟩ ?_ ?_)
   ·exact ghT
   intro j ⟨hj, hj2⟩ Q' hb hx hr
   by_cases hjn : j < n
   ·have hR3 := fun G => hR2 j G hj hjn
    obtain ⟨y, hy0⟩ : ∃ y, y = gtI x j := ⟨_, rfl⟩
    rw [← hgx, ← hy0] at hR3
    obtain ⟨E0, hE0⟩ : ∃ x, x = E j := ⟨_, rfl⟩
    obtain ⟨F0, hF0⟩ : ∃ x, x = F j := ⟨_, rfl⟩
    obtain ⟨E1, hE1⟩ : ∃ x, x = E (j + 1) := ⟨_, rfl⟩
    obtain ⟨F1, hF1⟩ : ∃ x, x = F (j + 1) := ⟨_, rfl⟩
    simp only [← hE0, ← hF0, ← hE1, ← hF1] at hR3
    rw [← hE0, ← hF0]
    (conv => cbv)
    repeat' (first | assumption | ((first | rw [hlnk] | rw [hlnx] | rw [hgK] | rw [hcK] | refine hk.idxI hj hjn ?_ | refine hk.idxI hi0.1 hi0.2 ?_ | rw [← hy0] | refine hk.callA (hR3 _) ?_ | refine hk.callS (hR3 _) ?_ | refine stp ?_ | refine stpB (fun _ => ?_) (fun _ => ?_)) <;> (conv => cbv)) | exact stpF | fail)
    refine hb (j + 1) _ ⟨by omega, by omega⟩ (by omega) ?_
    rw [← hE1, ← hF1]
    refine Gh.tm ?_
    repeat' (first | exact Holds.nil _ _ | refine Holds.cons (Wk.refl _ _) ?_ | refine Holds.cons (Wk.of_eq ?_) ?_)
    all_goals first
     | (rw [← hk.add64 j 1 (by omega) (by omega)]; rfl)
     | rfl
     | skip
   ·have : j = n := by omega
    subst this
    subst hLP
    (conv => cbv)
    repeat' (first | assumption | ((first | refine hx _ _ ?_ | refine stp ?_ | refine stpB (fun _ => ?_) (fun _ => ?_)) <;> (conv => cbv)) | exact stpF | fail)
    all_goals trivial
  ·subst e2
   unfold rAfter
   (conv => cbv)
   exact ⟨fun h => (nomatch h), hk.finI (fin_lowN 2 (Nat.le_refl 2) (Wk.refl _ _) rfl hlow ⟨rfl, rfl⟩)⟩
end Go.Proofs.YtoeekjddeknmbaaGreat
