/-
  Contracts of functions of the program, proved over the abstract machine of the Al texts.
-/
import Derived.Test.YtfjdmgnhklpiiaaGreatTryTab
import Derived.Test.YtfjdmgnhklpiiaaGreatAl4
import Derived.Test.YtfjdmgnhklpiiaaGreatBaseX
import Derived.Test.YtfjdmgnhklpiiaaGreatPpX
import Derived.Test.YtfjdmgnhklpiiaaGreatPpY
import Derived.Test.YtfjdmgnhklpiiaaGreatRkX
import Derived.Test.YtfjdmgnhklpiiaaGreatBsX1
import Derived.Test.YtfjdmgnhklpiiaaGreatBsX2
import Derived.Test.YtfjdmgnhklpiiaaGreatBsX3
import Derived.Test.YtfjdmgnhklpiiaaGreatBsX4
import Derived.Test.YtfjdmgnhklpiiaaGreatBsX5
import Derived.Test.YtfjdmgnhklpiiaaGreatBsX6
import Derived.Test.YtfjdmgnhklpiiaaGreatBsX7
import Derived.Test.YtfjdmgnhklpiiaaGreatBsX8
import Derived.Test.YtfjdmgnhklpiiaaGreatSlX
set_option maxHeartbeats 4000000
set_option maxRecDepth 20000
set_option linter.unusedSimpArgs false
set_option linter.unusedVariables false
open Go Go.AL
namespace Go.Proofs.YtfjdmgnhklpiiaaGreat
abbrev RS := List Bool × Int
def RV (bs : List Int) (s : RS) : Prop := s.1 <:+ unpack bs
def rpos (bs : List Int) (s : RS) : Int := 8 * bs.length - s.1.length
def rh (bs : List Int) (s : RS) : Heap := rd bs (rpos bs s) s.2
def tkS (n : Int) (s : RS) : RS := (s.1.drop (tkN s.1 s.2 n).toNat, tkF s.1 s.2 n)
def tkW (n : Int) (s : RS) : Int := tkV s.1 s.2 n
def gvS (e : Int) (s : RS) : RS := (s.1, if s.2 = 0 then e else s.2)
theorem RV_len {bs : List Int} {s : RS} (h : RV bs s) : s.1.length ≤ 8 * bs.length := by
  have := h.length_le
  rwa [unpack_len] at this
theorem RV_rem {bs : List Int} {s : RS} (h : RV bs s) : remOf bs (rpos bs s) = s.1 := by
  obtain ⟨t, ht⟩ := h
  have h2 : t.length + s.1.length = 8 * bs.length := by rw [← unpack_len, ← ht, List.length_append]
  rw [remOf, rpos, ← ht, show (8 * (bs.length : Int) - (s.1.length : Int)).toNat = t.length by omega, List.drop_left]
theorem RV_pos {bs : List Int} {s : RS} (h : RV bs s) : 0 ≤ rpos bs s ∧ (rpos bs s).toNat ≤ 8 * bs.length := by
  have := RV_len h
  unfold rpos
  omega
theorem RV_drop {bs : List Int} {s : RS} (h : RV bs s) (k : Nat) (f : Int) : RV bs (s.1.drop k, f) := List.IsSuffix.trans (List.drop_suffix k s.1) h
theorem RV_tk {bs : List Int} {s : RS} (h : RV bs s) (n : Int) : RV bs (tkS n s) := RV_drop h _ _
theorem RV_gv {bs : List Int} {s : RS} (h : RV bs s) (e : Int) : RV bs (gvS e s) := h
theorem RV_open (bs : List Int) : RV bs (unpack bs, 0) := List.suffix_refl _
theorem rpos_tk {bs : List Int} {s : RS} (h : RV bs s) (n : Int) : rpos bs (tkS n s) = rpos bs s + tkN s.1 s.2 n := by
  have h1 := tkN_nn s.1 s.2 n
  have h2 := tkN_le s.1 s.2 n
  unfold rpos tkS
  rw [List.length_drop]
  omega
theorem tkW_range (n : Int) (s : RS) : 0 ≤ tkW n s ∧ tkW n s < 9223372036854775808 := tkV_range _ _ _
theorem tkW_lt (n : Int) (s : RS) (hn : 0 ≤ n) : tkW n s < 2 ^ n.toNat := by
  unfold tkW tkV
  split
  · have := num_lt (s.1.take n.toNat)
    have h2 : 2 ^ (s.1.take n.toNat).length ≤ 2 ^ n.toNat := Nat.pow_le_pow_right (by decide) (by rw [List.length_take]; omega)
    exact Int.lt_of_lt_of_le (Int.ofNat_lt.2 this) (by exact_mod_cast h2)
  · exact Int.pow_pos (by decide)
theorem tkW_bad (n : Int) (s : RS) (h : (tkS n s).2 ≠ 0) : tkW n s = 0 := by
  unfold tkW tkV
  exact if_neg h
theorem tkS_fail (n : Int) (s : RS) (h : s.2 ≠ 0) : tkS n s = s := by
  have hF : tkF s.1 s.2 n = s.2 := by unfold tkF; exact if_pos h
  unfold tkS tkN
  rw [hF, if_neg h]
  rfl
theorem tkS_ok {n : Int} {s : RS} (h : (tkS n s).2 = 0) : s.2 = 0 ∧ 0 ≤ n ∧ n.toNat ≤ s.1.length ∧ (tkS n s).1 = s.1.drop n.toNat ∧ tkW n s = (num (s.1.take n.toNat) : Nat) := by
  have h' : tkF s.1 s.2 n = 0 := h
  obtain ⟨a, b, c, d⟩ := tkF_ok h'
  refine ⟨a, b, d, ?_, ?_⟩
  · unfold tkS tkN
    rw [if_pos h']
  · unfold tkW tkV
    rw [if_pos h']
theorem take_rh (bs : List Int) (hB : Bytes8 bs) (hl : bs.length < 137438953472) (s : RS) (hs : RV bs s) (n : Int) :
    Does PP 32 [.ptr 0 0, I n] (rh bs s) (Is (.int .u64 (tkW n s)) (rh bs (tkS n s))) := by
  obtain ⟨h0, h1⟩ := RV_pos hs
  have := rtake_spec bs (rpos bs s) s.2 n hB h0 h1 hl
  rw [RV_rem hs, ← rpos_tk hs] at this
  exact this
theorem give_rh (bs : List Int) (s : RS) (e : Int) : Does PP 31 [.ptr 0 0, I e] (rh bs s) (Is (.tup []) (rh bs (gvS e s))) := give_spec bs (rpos bs s) s.2 e
theorem left_rh (bs : List Int) (hl : bs.length < 137438953472) (s : RS) (hs : RV bs s) : Does PP 15 [.ptr 0 0] (rh bs s) (Is (I (s.1.length : Nat)) (rh bs s)) := by
  obtain ⟨h0, h1⟩ := RV_pos hs
  have := left_spec bs (rpos bs s) s.2 h0 h1 hl
  rw [RV_rem hs] at this
  exact this
theorem fail_rh (bs : List Int) (s : RS) : Does PP 11 [.ptr 0 0] (rh bs s) (Is (I s.2) (rh bs s)) := fail_spec bs (rpos bs s) s.2
theorem bit_rh (bs : List Int) (hB : Bytes8 bs) (hl : bs.length < 137438953472) (b : Bool) (t : List Bool) (f : Int) (hs : RV bs (b :: t, f)) :
    Does PP 78 [.ptr 0 0] (rh bs (b :: t, f)) (Is (.int .u64 (b.toNat : Nat)) (rh bs (t, f))) := by
  obtain ⟨h0, h1⟩ := RV_pos hs
  have hl2 := RV_len hs
  have := rbit_spec bs (rpos bs (b :: t, f)) f hB h0 (by unfold rpos; simp only [List.length_cons]; simp only [List.length_cons] at hl2; omega) hl
  have hr := RV_rem hs
  have hg : (unpack bs).getD (rpos bs (b :: t, f)).toNat false = b := by
    have : (remOf bs (rpos bs (b :: t, f))).getD 0 false = b := by rw [hr]; rfl
    rw [remOf, List.getD_eq_getElem?_getD, List.getElem?_drop] at this
    rw [List.getD_eq_getElem?_getD]
    exact this
  rw [hg, show rpos bs (b :: t, f) + 1 = rpos bs (t, f) by unfold rpos; simp only [List.length_cons]; omega] at this
  exact this
def itS (f : RS → RS) (g : RS → Int) : Nat → RS → List Int → RS × List Int
  | 0, s, l => (s, l)
  | j + 1, s, l => if s.2 ≠ 0 then (s, l) else itS f g j (f s) (l ++ [g s])
theorem itS_fail (f : RS → RS) (g : RS → Int) (j : Nat) (s : RS) (l : List Int) (h : s.2 ≠ 0) : itS f g j s l = (s, l) := by
  cases j with
  | zero => rfl
  | succ j => rw [itS, if_pos h]
theorem itS_len (f : RS → RS) (g : RS → Int) : ∀ (j : Nat) (s : RS) (l : List Int), (itS f g j s l).2.length ≤ l.length + j
  | 0, s, l => by simp [itS]
  | j + 1, s, l => by
    rw [itS]
    split
    · simp
    · have := itS_len f g j (f s) (l ++ [g s])
      simp only [List.length_append, List.length_cons, List.length_nil] at this
      omega
theorem itS_RV {bs : List Int} {f : RS → RS} (hf : ∀ s, RV bs s → RV bs (f s)) (g : RS → Int) : ∀ (j : Nat) (s : RS) (l : List Int), RV bs s → RV bs (itS f g j s l).1
  | 0, s, l, h => h
  | j + 1, s, l, h => by
    rw [itS]
    split
    · exact h
    · exact itS_RV hf g j _ _ (hf s h)
theorem rd_frameG {f : FuncId} {args : List AVal} {r : AVal} {bs : List Int} {a b a' b' : Int} (G : Heap) (hd : Does PP f args (rd bs a b) (Is r (rd bs a' b'))) (ha : lows 1 args = true)
    (ea : rns (rho [0] (1 + G.length)) args = args) (er : Go.AL.rn (rho [0] (1 + G.length)) r = r) :
    Does PP f args (.box [.ls (.il .u8 bs) .any, .int .i64 a, .int .i64 b] :: G) (Is r (.box [.ls (.il .u8 bs) .any, .int .i64 a', .int .i64 b'] :: G)) := by
  show Does PP f args (rd bs a b ++ G) (Is r (rd bs a' b' ++ G))
  have hN : (rd bs a b ++ G).length = 1 + G.length := by simp [rd]; omega
  refine hd.renI [0] rfl (by decide) (by rw [hN]; simp [Nat.blt_eq]; omega) (by rw [hN]; exact ⟨rfl, trivial⟩) ha rfl rfl (by rw [hN]; exact ea) (by rw [hN]; exact er) ?_
  rw [hN]
  simp [rd, putH, rnos, rno, rns, Go.AL.rn, rho]
end Go.Proofs.YtfjdmgnhklpiiaaGreat
set_option maxHeartbeats 4000000
set_option maxRecDepth 20000
set_option linter.unusedSimpArgs false
set_option linter.unusedVariables false
open Go Go.AL
namespace Go.Proofs.YtfjdmgnhklpiiaaGreat
def bsE (kd vl sh : Int) (ix : List Int) (lg gn pt : Int) (rc da : List Int) (n d : Int) : Int :=
  if ¬ (1 ≤ n ∧ n ≤ 1024 ∧ 8 ≤ d ∧ d ≤ 26) then 1
  else if formE kd vl sh ix lg gn pt rc da n d ≠ 0 then formE kd vl sh ix lg gn pt rc da n d
  else if kd = 2 ∧ nmE ix lg gn da d ≠ 0 then 9
  else if (outL kd vl sh ix lg gn da n d).any (lacksP d) = true then 9 else 0
def bsL (kd vl sh : Int) (ix : List Int) (lg gn pt : Int) (rc da : List Int) (n d : Int) : List Int := if bsE kd vl sh ix lg gn pt rc da n d = 0 then outL kd vl sh ix lg gn da n d else []
theorem formE_range' (kd vl sh : Int) (ix : List Int) (lg gn pt : Int) (rc da : List Int) (n d : Int) : 0 ≤ formE kd vl sh ix lg gn pt rc da n d ∧ formE kd vl sh ix lg gn pt rc da n d ≤ 100 := by
  unfold formE
  repeat' split
  all_goals decide
theorem bsE_range (kd vl sh : Int) (ix : List Int) (lg gn pt : Int) (rc da : List Int) (n d : Int) : 0 ≤ bsE kd vl sh ix lg gn pt rc da n d ∧ bsE kd vl sh ix lg gn pt rc da n d ≤ 100 := by
  have := formE_range' kd vl sh ix lg gn pt rc da n d
  unfold bsE
  repeat' split
  all_goals first | exact this | decide
theorem row_rz (i G : Nat) (m : Int) (R : List Int) (hm : m = (R.length : Nat)) : rz i G (.il .i64 R) (.tup [.sl i G 0 m, I 0]) = .tup [LI R, I 0] := by
  have e2 : rz i G (.il .i64 R) (.sl i G 0 m) = LI R := by
    rw [rz_sl]
    show AVal.ls (.il .i64 (rSub R 0 m)) .any = _
    rw [show rSub R 0 m = R by
      show (R.drop (Int.toNat 0)).take (m - 0).toNat = R
      rw [Int.toNat_zero, List.drop_zero, List.take_of_length_le (by omega)]]
  show AVal.tup [rz i G (.il .i64 R) (.sl i G 0 m), rz i G (.il .i64 R) (I 0)] = _
  rw [e2]
  rfl
theorem row_fin2 {f : FuncId} {args : List AVal} {o1 o2 : AObj} {R : List Int} {G : Nat} {m : Int} (hd : Does PP f args [] (Is (.tup [.sl 2 G 0 m, I 0]) [o1, o2, .rw G (.il .i64 R)])) (hm : m = (R.length : Nat)) : Does PP f args [] (Is (.tup [LI R, I 0]) []) := by
  refine Does.fin hd fun r h' ⟨e1, e2⟩ => ?_
  subst e1
  subst e2
  refine fin_rz 2 G (.il .i64 R) rfl rfl ?_
  rw [row_rz 2 G m R hm]
  exact fin_nil (Wk.refl _ _) rfl ⟨rfl, rfl⟩
theorem row_fin1 {f : FuncId} {args : List AVal} {o1 : AObj} {R : List Int} {G : Nat} {m : Int} (hd : Does PP f args [] (Is (.tup [.sl 1 G 0 m, I 0]) [o1, .rw G (.il .i64 R)])) (hm : m = (R.length : Nat)) : Does PP f args [] (Is (.tup [LI R, I 0]) []) := by
  refine Does.fin hd fun r h' ⟨e1, e2⟩ => ?_
  subst e1
  subst e2
  refine fin_rz 1 G (.il .i64 R) rfl rfl ?_
  rw [row_rz 1 G m R hm]
  exact fin_nil (Wk.refl _ _) rfl ⟨rfl, rfl⟩
theorem smp_both (kd vl sh : Int) (ix : List Int) (lg gn pt : Int) (rc da : List Int) (n d : Int) (hn : n ≤ 64)
    (hl1 : ix.length ≤ 9223372036854775807) (hl2 : rc.length ≤ 9223372036854775807) (hl3 : da.length ≤ 9223372036854775807) :
    (∀ h, Does PP 19 [.agg [I kd, I vl, I sh, LI ix, I lg, I gn, I pt, LI rc, LI da], I n, I d] h (Is (.tup [LI (bsL kd vl sh ix lg gn pt rc da n d), I (bsE kd vl sh ix lg gn pt rc da n d)]) h)) ∧
    (∀ h, Does PP 21 [.agg [I kd, I vl, I sh, LI ix, I lg, I gn, I pt, LI rc, LI da], I n, I d] h (Is (.tup [LI (bsL kd vl sh ix lg gn pt rc da n d), I (bsE kd vl sh ix lg gn pt rc da n d)]) h)) := by
  by_cases hrg : 1 ≤ n ∧ n ≤ 1024 ∧ 8 ≤ d ∧ d ≤ 26
  case neg =>
    have e : bsE kd vl sh ix lg gn pt rc da n d = 1 := if_pos hrg
    have e2 : bsL kd vl sh ix lg gn pt rc da n d = [] := by rw [bsL, e]; rfl
    rw [e, e2]
    exact ⟨fun h => bsamples_range _ _ _ _ _ _ _ _ _ _ _ h hrg, fun h => rsamples10_range _ _ _ _ _ _ _ _ _ _ _ h hrg⟩
  have e1 : bsE kd vl sh ix lg gn pt rc da n d = if formE kd vl sh ix lg gn pt rc da n d ≠ 0 then formE kd vl sh ix lg gn pt rc da n d
      else if kd = 2 ∧ nmE ix lg gn da d ≠ 0 then 9 else if (outL kd vl sh ix lg gn da n d).any (lacksP d) = true then 9 else 0 := if_neg (fun h => h hrg)
  obtain ⟨r1, r2, r3, r4⟩ := hrg
  by_cases hf : formE kd vl sh ix lg gn pt rc da n d = 0
  case neg =>
    rw [if_pos hf] at e1
    have e2 : bsL kd vl sh ix lg gn pt rc da n d = [] := by rw [bsL, e1, if_neg hf]
    rw [e1, e2]
    exact ⟨fun h => bsamples_form _ _ _ _ _ _ _ _ _ _ _ h r1 r2 r3 r4 hl1 hl2 hl3 hf, fun h => rsamples10_form _ _ _ _ _ _ _ _ _ _ _ h r1 r2 r3 r4 hl1 hl2 hl3 hf⟩
  rw [if_neg (fun h => h hf)] at e1
  by_cases k2 : kd = 2
  · subst k2
    by_cases hbad : nmE ix lg gn da d = 0
    case neg =>
      rw [if_pos ⟨rfl, hbad⟩] at e1
      have e2 : bsL 2 vl sh ix lg gn pt rc da n d = [] := by rw [bsL, e1]; rfl
      rw [e1, e2]
      exact ⟨fun h => bsamples_bad _ _ _ _ _ _ _ _ _ _ h r1 r2 r3 r4 hl1 hl2 hl3 hf hbad, fun h => rsamples10_bad _ _ _ _ _ _ _ _ _ _ h r1 r2 r3 r4 hl1 hl2 hl3 hf hbad⟩
    rw [if_neg (fun h => h.2 hbad)] at e1
    have eo : outL 2 vl sh ix lg gn da n d = nmL sh ix lg gn da d := rfl
    rw [eo] at e1
    obtain ⟨hE, hE2⟩ : onE lg gn da = 0 ∧ smE ix (pw d - 1) (onL lg gn da) = 0 := by
      unfold nmE at hbad
      by_cases h1 : onE lg gn da = 0
      · by_cases h2 : smE ix (pw d - 1) (onL lg gn da) = 0
        · exact ⟨h1, h2⟩
        · simp [h1, h2] at hbad
      · simp [h1] at hbad
    have hr := fun h => rsamples10_two vl sh ix lg gn pt rc da n d h r1 r2 r3 r4 hl1 hl2 hl3 hf hE hE2
    by_cases hok : (nmL sh ix lg gn da d).any (lacksP d) = true
    · rw [if_pos hok] at e1
      have e2 : bsL 2 vl sh ix lg gn pt rc da n d = [] := by rw [bsL, e1]; rfl
      rw [e1, e2]
      simp only [allP, hok] at hr
      exact ⟨fun h => pure0 (bsamples_twoN _ _ _ _ _ _ _ _ _ _ r1 r2 r3 r4 hl1 hl2 hl3 hf hE hE2 hok) rfl rfl h, hr⟩
    · have hok : (nmL sh ix lg gn da d).any (lacksP d) = false := by simpa using hok
      rw [if_neg (by rw [hok]; decide)] at e1
      have e2 : bsL 2 vl sh ix lg gn pt rc da n d = nmL sh ix lg gn da d := by rw [bsL, e1]; rfl
      rw [e1, e2]
      simp only [allP, hok] at hr
      exact ⟨fun h => pure0 (row_fin2 (bsamples_two _ _ _ _ _ _ _ _ _ _ r1 r2 r3 r4 hl1 hl2 hl3 hf hE hE2 hok) rfl) rfl rfl h, hr⟩
  · rw [if_neg (fun h => k2 h.1)] at e1
    have hr := fun h => rsamples10_plain kd vl sh ix lg gn pt rc da n d h r1 r2 r3 r4 hl1 hl2 hl3 hf k2
    by_cases k3 : kd = 3
    · subst k3
      have ho : outL 3 vl sh ix lg gn da n d = da := rfl
      simp only [ho] at hr e1
      obtain ⟨_, hdn⟩ := form_plain hf k2
      by_cases hok : da.any (lacksP d) = true
      · rw [if_pos hok] at e1
        have e2 : bsL 3 vl sh ix lg gn pt rc da n d = [] := by rw [bsL, e1]; rfl
        rw [e1, e2]
        simp only [allP, hok] at hr
        exact ⟨fun h => pure0 (bsamples_rawN _ _ _ _ _ _ _ _ _ _ r1 r2 r3 r4 hl1 hl2 hl3 hf hok) rfl rfl h, hr⟩
      · have hok : da.any (lacksP d) = false := by simpa using hok
        rw [if_neg (by rw [hok]; decide)] at e1
        have e2 : bsL 3 vl sh ix lg gn pt rc da n d = da := by rw [bsL, e1]; rfl
        rw [e1, e2]
        simp only [allP, hok] at hr
        exact ⟨fun h => pure0 (row_fin1 (bsamples_raw _ _ _ _ _ _ _ _ _ _ r1 r2 r3 r4 hl1 hl2 hl3 hf hok) (hdn rfl).symm) rfl rfl h, hr⟩
    · have ho : outL kd vl sh ix lg gn da n d = List.replicate n.toNat vl := by rw [outL, if_neg k2, if_neg k3]
      simp only [ho] at hr e1
      by_cases hok : (List.replicate n.toNat vl).any (lacksP d) = true
      · rw [if_pos hok] at e1
        have e2 : bsL kd vl sh ix lg gn pt rc da n d = [] := by rw [bsL, e1]; rfl
        rw [e1, e2]
        simp only [allP, hok] at hr
        exact ⟨fun h => pure0 (bsamples_constN _ _ _ _ _ _ _ _ _ _ _ r1 hn r3 r4 hl1 hl2 hl3 hf k2 k3 hok) rfl rfl h, hr⟩
      · have hok : (List.replicate n.toNat vl).any (lacksP d) = false := by simpa using hok
        rw [if_neg (by rw [hok]; decide)] at e1
        have e2 : bsL kd vl sh ix lg gn pt rc da n d = List.replicate n.toNat vl := by rw [bsL, e1, ho]; rfl
        rw [e1, e2]
        simp only [allP, hok] at hr
        exact ⟨fun h => pure0 (row_fin2 (bsamples_const _ _ _ _ _ _ _ _ _ _ _ r1 hn r3 r4 hl1 hl2 hl3 hf k2 k3 hok) (by rw [List.length_replicate]; omega)) rfl rfl h, hr⟩
end Go.Proofs.YtfjdmgnhklpiiaaGreat
set_option maxHeartbeats 4000000
set_option maxRecDepth 20000
set_option linter.unusedSimpArgs false
set_option linter.unusedVariables false
open Go Go.AL
namespace Go.Proofs.YtfjdmgnhklpiiaaGreat
def sgW (n : Int) (s : RS) : Int := if tkW n s ≥ 2 ^ (n - 1).toNat then tkW n s - 2 ^ n.toNat else tkW n s
theorem pow_le48 {n : Int} (h : n ≤ 48) : (2 : Int) ^ n.toNat ≤ 281474976710656 := by
  have := Nat.pow_le_pow_right (n := 2) (by decide) (show n.toNat ≤ 48 by omega)
  have h2 : (2 : Int) ^ 48 = 281474976710656 := by decide
  rw [← h2]
  exact Int.ofNat_le.2 this
theorem rsigned_rh (bs : List Int) (hB : Bytes8 bs) (hl : bs.length < 137438953472) (s : RS) (hs : RV bs s) (n : Int) (h1 : 1 ≤ n) (h2 : n ≤ 47) :
    Does PP 33 [.ptr 0 0, I n] (rh bs s) (Is (I (sgW n s)) (rh bs (tkS n s))) := by
  have ht := take_rh bs hB hl s hs n
  obtain ⟨v0, v1⟩ := tkW_range n s
  have hlt := tkW_lt n s (by omega)
  have hbad := tkW_bad n s
  have hp0 : (0 : Int) < 2 ^ (n - 1).toNat := Int.pow_pos (by decide)
  have hsg : sgW n s = if tkW n s ≥ 2 ^ (n - 1).toNat then tkW n s - 2 ^ n.toNat else tkW n s := rfl
  have hp1 := pow_le48 (n := n) (by omega)
  have hp2 := pow_le48 (n := n - 1) (by omega)
  obtain ⟨s1, _⟩ := shl_one (n - 1).toNat (by omega)
  obtain ⟨s2, _⟩ := shl_one n.toNat (by omega)
  rw [show (((n - 1).toNat : Nat) : Int) = n - 1 by omega] at s1
  rw [show ((n.toNat : Nat) : Int) = n by omega] at s2
  obtain ⟨P, hP⟩ : ∃ P : Int, P = 2 ^ (n - 1).toNat := ⟨_, rfl⟩
  obtain ⟨N, hN⟩ : ∃ P : Int, P = 2 ^ n.toNat := ⟨_, rfl⟩
  obtain ⟨V, hV⟩ : ∃ P : Int, P = tkW n s := ⟨_, rfl⟩
  obtain ⟨W, hW⟩ : ∃ P : Int, P = sgW n s := ⟨_, rfl⟩
  unfold rh rd at ht ⊢
  obtain ⟨A, hA⟩ : ∃ P : Int, P = rpos bs s := ⟨_, rfl⟩
  obtain ⟨B, hB2⟩ : ∃ P : Int, P = rpos bs (tkS n s) := ⟨_, rfl⟩
  obtain ⟨F, hF⟩ : ∃ P : Int, P = s.2 := ⟨_, rfl⟩
  obtain ⟨G, hG⟩ : ∃ P : Int, P = (tkS n s).2 := ⟨_, rfl⟩
  simp only [← hP, ← hN, ← hV, ← hW, ← hA, ← hB2, ← hF, ← hG] at *
  clear hP hN hV hW hA hB2 hF hG hB hl hs
  have hc : (V ≥ P ∧ W = V - N ∧ G = 0) ∨ (¬ V ≥ P ∧ W = V) := by
    by_cases h : V ≥ P
    · rw [if_pos h] at hsg
      refine .inl ⟨h, hsg, ?_⟩
      by_cases hg : G = 0
      · exact hg
      · have := hbad hg; omega
    · rw [if_neg h] at hsg
      exact .inr ⟨h, hsg⟩
  clear hsg hbad
  refine wlk Tryz.f33 ?_
  unhygienic intros
  obtain ⟨m, hm⟩ : ∃ m, m = n - 1 := ⟨_, rfl⟩
  have t0 : i2 .sub .i64 n 1 = m := by rw [hm]; exact hk.sub64 _ _ (by omega) (by omega)
  rw [← hm] at s1
  have t1 : i2 .shl .i64 1 m = P := by rw [hk.i2_eq]; exact s1
  have t2 : i2 .shl .i64 1 n = N := by rw [hk.i2_eq]; exact s2
  have t3 : i2 .sub .i64 V N = V - N := hk.sub64 _ _ (by omega) (by omega)
  have t4 : cv .i64 V = V := by rw [hk.cv_eq]; exact wrap64 (by omega) (by omega)
  have hm0 : 0 ≤ m := by omega
  clear s1 s2
  rcases hc with ⟨c1, c2, c3⟩ | ⟨c1, c2⟩
  · rw [← c2] at t3
    clear c2
    (conv => cbv)
    repeat' (first | assumption | ((first | refine hk.callA ht ?_ | rw [t4] | rw [t0] | rw [t1] | rw [t2] | rw [t3] | refine stp ?_ | refine stpB (fun _ => ?_) (fun _ => ?_)) <;> (conv => cbv)) | exact stpF | fail)
  · subst c2
    clear t3
    (conv => cbv)
    repeat' (first | assumption | ((first | refine hk.callA ht ?_ | rw [t4] | rw [t0] | rw [t1] | rw [t2] | refine stp ?_ | refine stpB (fun _ => ?_) (fun _ => ?_)) <;> (conv => cbv)) | exact stpF | fail)
def zrun (m : Int) : Int → List Bool → Int × RS
  | _, [] => (0, [], 3)
  | n, true :: t => (n, t, 0)
  | n, false :: t => if n ≥ m then (0, t, 1) else zrun m (n + 1) t
def zrS (m : Int) (s : RS) : RS := if s.2 = 0 then (zrun m 0 s.1).2 else s
def zrW (m : Int) (s : RS) : Int := if s.2 = 0 then (zrun m 0 s.1).1 else 0
theorem zrun_RV (bs : List Int) (m : Int) : ∀ (l : List Bool) (n : Int), l <:+ unpack bs → RV bs (zrun m n l).2
  | [], n, h => List.nil_suffix
  | true :: t, n, h => List.IsSuffix.trans (List.suffix_cons _ _) h
  | false :: t, n, h => by
    have ht : t <:+ unpack bs := List.IsSuffix.trans (List.suffix_cons _ _) h
    rw [zrun]
    split
    · exact ht
    · exact zrun_RV bs m t _ ht
theorem RV_zr {bs : List Int} {s : RS} (h : RV bs s) (m : Int) : RV bs (zrS m s) := by
  unfold zrS
  split
  · exact zrun_RV bs m _ _ h
  · exact h
theorem zrun_range (m : Int) (hm : 0 ≤ m) : ∀ (l : List Bool) (n : Int), 0 ≤ n → n ≤ m → 0 ≤ (zrun m n l).1 ∧ (zrun m n l).1 ≤ m
  | [], n, h0, h1 => ⟨Int.le_refl _, hm⟩
  | true :: t, n, h0, h1 => ⟨h0, h1⟩
  | false :: t, n, h0, h1 => by
    rw [zrun]
    split
    · exact ⟨Int.le_refl _, hm⟩
    · exact zrun_range m hm t _ (by omega) (by omega)
theorem zrW_range (m : Int) (hm : 0 ≤ m) (s : RS) : 0 ≤ zrW m s ∧ zrW m s ≤ m := by
  unfold zrW
  split
  · exact zrun_range m hm _ _ (Int.le_refl _) hm
  · exact ⟨Int.le_refl _, hm⟩
theorem zr_plan (bs : List Int) (hB : Bytes8 bs) (hl : bs.length < 137438953472) (s : RS) (hs : RV bs s) (m : Int) (hm : 0 ≤ m) :
    ∃ Inv : Int → Int → Int → Prop, Inv 0 (rpos bs s) s.2 ∧ ∀ j a f, Inv j a f → 0 ≤ j ∧ j ≤ m + 1 ∧
      ((f ≠ 0 ∧ a = rpos bs (zrS m s) ∧ f = (zrS m s).2 ∧ zrW m s = 0) ∨
       (f = 0 ∧ j ≤ m ∧ ∃ L : Int, Does PP 15 [.ptr 0 0] (rd bs a 0) (Is (I L) (rd bs a 0)) ∧
        ((L = 0 ∧ Does PP 31 [.ptr 0 0, I 3] (rd bs a 0) (Is (.tup []) (rd bs a 3)) ∧ Inv (j + 1) a 3) ∨
         (L ≠ 0 ∧ ∃ a1 : Int,
          ((Does PP 78 [.ptr 0 0] (rd bs a 0) (Is (.int .u64 1) (rd bs a1 0)) ∧ zrW m s = j ∧ a1 = rpos bs (zrS m s) ∧ (zrS m s).2 = 0) ∨
           (Does PP 78 [.ptr 0 0] (rd bs a 0) (Is (.int .u64 0) (rd bs a1 0)) ∧
            ((j ≥ m ∧ Does PP 31 [.ptr 0 0, I 1] (rd bs a1 0) (Is (.tup []) (rd bs a1 1)) ∧ Inv (j + 1) a1 1) ∨
             (¬ j ≥ m ∧ Inv (j + 1) a1 0)))))))) := by
  obtain ⟨X, hX⟩ : ∃ X : Int × RS, X = (zrW m s, zrS m s) := ⟨_, rfl⟩
  have e1 : zrW m s = X.1 := by rw [hX]
  have e2 : zrS m s = X.2 := by rw [hX]
  have h0 : (s.2 = 0 → zrun m 0 s.1 = X) ∧ (s.2 ≠ 0 → X = (0, s)) := by
    refine ⟨fun h => ?_, fun h => ?_⟩
    · rw [hX, zrW, zrS, if_pos h, if_pos h]
    · rw [hX, zrW, zrS, if_neg h, if_neg h]
  rw [e1, e2]
  clear hX e1 e2
  refine ⟨fun j a f => ∃ t, RV bs (t, f) ∧ a = rpos bs (t, f) ∧ 0 ≤ j ∧ j ≤ m + 1 ∧ (f = 0 → j ≤ m ∧ zrun m j t = X) ∧ (f ≠ 0 → X = (0, t, f)), ⟨s.1, hs, rfl, Int.le_refl _, by omega, fun h => ⟨hm, h0.1 h⟩, h0.2⟩, ?_⟩
  intro j a f ⟨t, hv, ha, j0, j1, h1, h2⟩
  refine ⟨j0, j1, ?_⟩
  by_cases hf : f = 0
  · right
    obtain ⟨j2, h3⟩ := h1 hf
    clear h1 h2
    have h1 := h3
    clear h3
    subst hf
    refine ⟨rfl, j2, (t.length : Nat), by rw [ha]; exact left_rh bs hl (t, 0) hv, ?_⟩
    have rpe : ∀ (t : List Bool) (f g : Int), rpos bs (t, f) = rpos bs (t, g) := fun _ _ _ => rfl
    cases t with
    | nil =>
      left
      refine ⟨rfl, by rw [ha]; exact give_rh bs ([], 0) 3, [], hv, ha, by omega, by omega, fun h => absurd h (by decide), fun _ => h1.symm⟩
    | cons b t =>
      right
      refine ⟨by simp only [List.length_cons]; omega, rpos bs (t, 0), ?_⟩
      have hv2 : ∀ f, RV bs (t, f) := fun f => List.IsSuffix.trans (List.suffix_cons _ _) hv
      have hb := bit_rh bs hB hl b t 0 hv
      cases b
      · right
        refine ⟨by rw [ha]; exact hb, ?_⟩
        rw [zrun] at h1
        by_cases hjm : j ≥ m
        · left
          rw [if_pos hjm] at h1
          exact ⟨hjm, give_rh bs (t, 0) 1, t, hv2 1, rfl, by omega, by omega, fun h => absurd h (by decide), fun _ => h1.symm⟩
        · right
          rw [if_neg hjm] at h1
          exact ⟨hjm, t, hv2 0, rfl, by omega, by omega, fun _ => ⟨by omega, h1⟩, fun h => absurd rfl h⟩
      · left
        rw [zrun] at h1
        exact ⟨by rw [ha]; exact hb, by rw [← h1], by rw [← h1], by rw [← h1]⟩
  · left
    have h2 := h2 hf
    exact ⟨hf, by rw [ha, h2], by rw [h2], by rw [h2]⟩
theorem zeros_rh (bs : List Int) (hB : Bytes8 bs) (hl : bs.length < 137438953472) (s : RS) (hs : RV bs s) (m : Int) (hm : 0 ≤ m) (hm2 : m ≤ 1000) :
    Does PP 133 [.ptr 0 0, I m] (rh bs s) (Is (I (zrW m s)) (rh bs (zrS m s))) := by
  obtain ⟨Inv, hI0, hI⟩ := zr_plan bs hB hl s hs m hm
  unfold rh rd at *
  obtain ⟨U, hU⟩ : ∃ U : Int, U = rpos bs (zrS m s) := ⟨_, rfl⟩
  obtain ⟨V, hV⟩ : ∃ U : Int, U = zrW m s := ⟨_, rfl⟩
  obtain ⟨W, hW⟩ : ∃ U : Int, U = (zrS m s).2 := ⟨_, rfl⟩
  obtain ⟨a0, ha0⟩ : ∃ U : Int, U = rpos bs s := ⟨_, rfl⟩
  obtain ⟨f0, hf0⟩ : ∃ U : Int, U = s.2 := ⟨_, rfl⟩
  simp only [← hU, ← hV, ← hW, ← ha0, ← hf0] at *
  clear hU hV hW ha0 hf0 hs hB hl
  refine wlk Tryz.f133 ?_
  unhygienic intros
  (conv => cbv)
  repeat' (first | assumption | ((first | refine stp ?_ | refine stpB (fun _ => ?_) (fun _ => ?_)) <;> (conv => cbv)) | exact stpF | fail)
  refine hk.loopI (loop_rule (α := Int × Int × Int) (fun x => [(0, .ptr 0 0), (1, .int .i64 m), (5, .int .i64 x.1)]) (fun x => [.box [.ls (.il .u8 bs) .any, .int .i64 x.2.1, .int .i64 x.2.2]])
    (fun x => Inv x.1 x.2.1 x.2.2) (fun x => (m + 1 - x.1).toNat) (0, a0, f0) hI0 ?_ ?_)
  · exact Gh.tm (by repeat (first | exact Holds.nil _ _ | refine Holds.cons (Wk.refl _ _) ?_))
  intro ⟨j, a, f⟩ hj Q' hb hx hr
  simp only at hj
  obtain ⟨j0, j1, hc⟩ := hI j a f hj
  clear hI
  dsimp only
  rcases hc with ⟨x1, x2, x3, x4⟩ | ⟨x1, x2, L, hL, hc⟩
  · subst x2 x3 x4
    (conv => cbv)
    repeat' (first | assumption | ((first | refine hx _ _ ?_ | refine stp ?_ | refine stpB (fun _ => ?_) (fun _ => ?_)) <;> (conv => cbv)) | exact stpF | fail)
    all_goals skip
  · subst x1
    obtain ⟨j2, hj2⟩ : ∃ x, x = j + 1 := ⟨_, rfl⟩
    rw [← hj2] at hc
    rcases hc with ⟨d1, hg, d2⟩ | ⟨d1, a1, hc⟩
    · subst d1
      (conv => cbv)
      repeat' (first | assumption | ((first | refine hk.callA hL ?_ | refine hk.callA hg ?_ | refine stp ?_ | refine stpB (fun _ => ?_) (fun _ => ?_)) <;> (conv => cbv)) | exact stpF | fail)
      refine hb (j2, a, 3) _ d2 (by simp only; omega) ?_
      rw [hj2]
      refine Gh.tm ?_
      repeat' (first | exact Holds.nil _ _ | refine Holds.cons (Wk.refl _ _) ?_ | refine Holds.cons (Wk.of_eq ?_) ?_)
      all_goals first
        | (rw [← hk.add64 j 1 (by omega) (by omega)]; rfl)
        | rfl
        | skip
    · rcases hc with ⟨hbt, d2, d3, d4⟩ | ⟨hbt, ⟨d2, hg, d3⟩ | ⟨d2, d3⟩⟩
      · subst d2 d3 d4
        (conv => cbv)
        repeat' (first | assumption | ((first | refine hk.callA hL ?_ | refine hk.callA hbt ?_ | refine hx _ _ ?_ | refine hr _ ?_ | refine stp ?_ | refine stpB (fun _ => ?_) (fun _ => ?_)) <;> (conv => cbv)) | exact stpF | fail)
        all_goals skip
      · (conv => cbv)
        repeat' (first | assumption | ((first | refine hk.callA hL ?_ | refine hk.callA hbt ?_ | refine hk.callA hg ?_ | refine stp ?_ | refine stpB (fun _ => ?_) (fun _ => ?_)) <;> (conv => cbv)) | exact stpF | fail)
        refine hb (j2, a1, 1) _ d3 (by simp only; omega) ?_
        rw [hj2]
        refine Gh.tm ?_
        repeat' (first | exact Holds.nil _ _ | refine Holds.cons (Wk.refl _ _) ?_ | refine Holds.cons (Wk.of_eq ?_) ?_)
        all_goals first
          | (rw [← hk.add64 j 1 (by omega) (by omega)]; rfl)
          | rfl
          | skip
      · (conv => cbv)
        repeat' (first | assumption | ((first | refine hk.callA hL ?_ | refine hk.callA hbt ?_ | refine stp ?_ | refine stpB (fun _ => ?_) (fun _ => ?_)) <;> (conv => cbv)) | exact stpF | fail)
        refine hb (j2, a1, 0) _ d3 (by simp only; omega) ?_
        rw [hj2]
        refine Gh.tm ?_
        repeat' (first | exact Holds.nil _ _ | refine Holds.cons (Wk.refl _ _) ?_ | refine Holds.cons (Wk.of_eq ?_) ?_)
        all_goals first
          | (rw [← hk.add64 j 1 (by omega) (by omega)]; rfl)
          | rfl
          | skip
def unZ (z : Int) : Int := if z % 2 = 1 then -(z / 2) - 1 else z / 2
theorem unfold_spec (z : Int) (h : Heap) (h0 : 0 ≤ z) (h1 : z < 281474976710656) : Does PP 134 [I z] h (Is (I (unZ z)) h) := by
  obtain ⟨r, hr⟩ : ∃ r, r = unZ z := ⟨_, rfl⟩
  rw [← hr]
  obtain ⟨q, hq⟩ : ∃ q, q = z / 2 := ⟨_, rfl⟩
  obtain ⟨p, hp⟩ : ∃ q, q = z % 2 := ⟨_, rfl⟩
  have hr1 : p = 1 → r = -q - 1 := fun h => by rw [hr, unZ, ← hp, if_pos h, hq]
  have hr2 : ¬ p = 1 → r = q := fun h => by rw [hr, unZ, ← hp, if_neg h, hq]
  clear hr
  refine pure0 ?_ rfl rfl h
  refine wlk Tryz.f134 ?_
  unhygienic intros
  have t1 : i2 .rem .i64 z 2 = p := by rw [hk.i2_rem, Int.tmod_eq_emod_of_nonneg h0]; omega
  have t2 : i2 .quo .i64 z 2 = q := by rw [hk.i2_quo, Int.tdiv_eq_ediv_of_nonneg h0, wrap64 (by omega) (by omega)]; omega
  have t3 : u1 .neg .i64 q = -q := by rw [hk.u1_neg, show (0 : Int) - q = -q by omega]; exact wrap64 (by omega) (by omega)
  have t4 : i2 .sub .i64 (-q) 1 = -q - 1 := hk.sub64 _ _ (by omega) (by omega)
  obtain ⟨nq, hnq⟩ : ∃ x, x = -q := ⟨_, rfl⟩
  rw [← hnq] at t3 t4 hr1
  obtain ⟨nq1, hnq1⟩ : ∃ x, x = nq - 1 := ⟨_, rfl⟩
  rw [← hnq1] at t4 hr1
  by_cases h : p = 1
  · have hr1 := hr1 h
    subst hr1
    (conv => cbv)
    repeat' (first | assumption | ((first | rw [t1] | rw [t2] | rw [t3] | rw [t4] | refine stp ?_ | refine stpB (fun _ => ?_) (fun _ => ?_)) <;> (conv => cbv)) | exact stpF | fail)
    all_goals first
      | exact hk.fin0 rfl rfl (Wk.refl _ _)
      | skip
  · have hr2 := hr2 h
    subst hr2
    (conv => cbv)
    repeat' (first | assumption | ((first | rw [t1] | rw [t2] | rw [t3] | rw [t4] | refine stp ?_ | refine stpB (fun _ => ?_) (fun _ => ?_)) <;> (conv => cbv)) | exact stpF | fail)
    all_goals first
      | exact hk.fin0 rfl rfl (Wk.refl _ _)
      | skip
def rtZ (k : Int) (s : RS) : Int := if zrW 24 s < 24 then zrW 24 s * 2 ^ k.toNat + tkW k (zrS 24 s) else tkW 34 (zrS 24 s)
def rtS (k : Int) (s : RS) : RS := if k < 0 ∨ k > 24 then gvS 1 s else if zrW 24 s < 24 then tkS k (zrS 24 s) else if tkW 34 (zrS 24 s) / 2 ^ k.toNat < 24 then gvS 2 (tkS 34 (zrS 24 s)) else tkS 34 (zrS 24 s)
def rtW (k : Int) (s : RS) : Int := if (rtS k s).2 = 0 then unZ (rtZ k s) else 0
theorem RV_rt {bs : List Int} {s : RS} (h : RV bs s) (k : Int) : RV bs (rtS k s) := by
  unfold rtS
  split
  · exact h
  · split
    · exact RV_tk (RV_zr h _) _
    · split
      · exact RV_gv (RV_tk (RV_zr h _) _) _
      · exact RV_tk (RV_zr h _) _
theorem or_shl64 (q l k : Nat) (hq : q < 24) (hk : k ≤ 24) (hl : l < 2 ^ k) : rI2 .or .i64 (rI2 .shl .i64 (q : Int) (k : Int)) (l : Int) = (q : Int) * 2 ^ k + (l : Int) := by
  have hp : 2 ^ k ≤ 2 ^ 24 := Nat.pow_le_pow_right (by decide) hk
  have hm : 2 ^ k * q ≤ 2 ^ 24 * 24 := Nat.mul_le_mul hp (by omega)
  have e : rI2 .shl .i64 (q : Int) (k : Int) = ((2 ^ k * q : Nat) : Int) := by
    show IntKind.wrap .i64 ((q : Int) * 2 ^ (min (k : Int).toNat 64)) = _
    have e1 : (q : Int) * 2 ^ k = ((2 ^ k * q : Nat) : Int) := by rw [Int.natCast_mul, Int.natCast_pow, Int.mul_comm]; rfl
    rw [show min (k : Int).toNat 64 = k by omega, e1]
    exact wrap64 (by omega) (by omega)
  rw [e]
  show IntKind.wrap .i64 _ = _
  rw [or_low .i64 k q l hl (by show 2 ^ k * q + l < 18446744073709551616; omega)]
  rw [wrap64 (by omega) (by omega)]
  rw [Int.natCast_add, Int.natCast_mul, Int.natCast_pow, Int.mul_comm]
  rfl
theorem rtS_bad {k : Int} (s : RS) (h : k < 0 ∨ k > 24) : rtS k s = gvS 1 s ∧ rtW k s = 0 := by
  have e : rtS k s = gvS 1 s := if_pos h
  refine ⟨e, ?_⟩
  rw [rtW, e]
  refine if_neg ?_
  unfold gvS
  simp only
  split <;> omega
theorem ricetake_rh (bs : List Int) (hB : Bytes8 bs) (hl : bs.length < 137438953472) (s : RS) (hs : RV bs s) (k : Int) :
    Does PP 111 [.ptr 0 0, I k] (rh bs s) (Is (I (rtW k s)) (rh bs (rtS k s))) := by
  by_cases hkk : k < 0 ∨ k > 24
  · obtain ⟨e1, e2⟩ := rtS_bad s hkk
    rw [e1, e2]
    have hg := give_rh bs s 1
    unfold rh rd at hg ⊢
    obtain ⟨A, hA⟩ : ∃ P : Int, P = rpos bs s := ⟨_, rfl⟩
    obtain ⟨B, hB2⟩ : ∃ P : Int, P = rpos bs (gvS 1 s) := ⟨_, rfl⟩
    obtain ⟨F, hF⟩ : ∃ P : Int, P = s.2 := ⟨_, rfl⟩
    obtain ⟨G, hG⟩ : ∃ P : Int, P = (gvS 1 s).2 := ⟨_, rfl⟩
    simp only [← hA, ← hB2, ← hF, ← hG] at *
    clear hA hB2 hF hG hB hl hs e1 e2
    refine wlk Tryz.f111 ?_
    unhygienic intros
    (conv => cbv)
    refine hk.brLss (fun h => ?_) (fun h => ?_)
    · (conv => cbv)
      repeat' (first | assumption | ((first | refine hk.callA hg ?_ | refine stp ?_ | refine stpB (fun _ => ?_) (fun _ => ?_)) <;> (conv => cbv)) | exact stpF | fail)
    · (conv => cbv)
      repeat' (first | assumption | ((first | refine hk.callA hg ?_ | refine stp ?_ | refine stpB (fun _ => ?_) (fun _ => ?_)) <;> (conv => cbv)) | exact stpF | fail)
  · have hS : rtS k s = if zrW 24 s < 24 then tkS k (zrS 24 s) else if tkW 34 (zrS 24 s) / 2 ^ k.toNat < 24 then gvS 2 (tkS 34 (zrS 24 s)) else tkS 34 (zrS 24 s) := if_neg hkk
    have hW : rtW k s = if (rtS k s).2 = 0 then unZ (rtZ k s) else 0 := rfl
    have hZ : rtZ k s = if zrW 24 s < 24 then zrW 24 s * 2 ^ k.toNat + tkW k (zrS 24 s) else tkW 34 (zrS 24 s) := rfl
    have hz := zeros_rh bs hB hl s hs 24 (by decide) (by decide)
    obtain ⟨q0, q1⟩ := zrW_range 24 (by decide) s
    have hv1 := RV_zr hs 24
    obtain ⟨s1, hs1⟩ : ∃ x, x = zrS 24 s := ⟨_, rfl⟩
    obtain ⟨q, hq⟩ : ∃ x, x = zrW 24 s := ⟨_, rfl⟩
    rw [← hs1, ← hq] at hz
    rw [← hs1] at hv1
    rw [← hq] at q0 q1
    rw [← hs1, ← hq] at hS hZ
    have hfl := fail_rh bs (rtS k s)
    have hk0 : 0 ≤ k := by omega
    have hk1 : k ≤ 24 := by omega
    have hp0 : (0 : Int) < 2 ^ k.toNat := Int.pow_pos (by decide)
    have hpk : (2 : Int) ^ k.toNat ≤ 16777216 := by
      have := Nat.pow_le_pow_right (n := 2) (by decide) (show k.toNat ≤ 24 by omega)
      exact Int.ofNat_le.2 this
    by_cases hq24 : q < 24
    · rw [if_pos hq24] at hS hZ
      have ht := take_rh bs hB hl s1 hv1 k
      obtain ⟨v0, _⟩ := tkW_range k s1
      have hlt := tkW_lt k s1 hk0
      rw [← hS] at ht
      obtain ⟨S, hSd⟩ : ∃ x, x = rtS k s := ⟨_, rfl⟩
      obtain ⟨V, hV⟩ : ∃ x, x = tkW k s1 := ⟨_, rfl⟩
      obtain ⟨Z, hZd⟩ : ∃ x, x = rtZ k s := ⟨_, rfl⟩
      obtain ⟨W, hWd⟩ : ∃ x, x = rtW k s := ⟨_, rfl⟩
      have hor := or_shl64 q.toNat V.toNat k.toNat (by omega) (by omega) (by
        rw [← hV] at hlt
        have : ((2 ^ k.toNat : Nat) : Int) = 2 ^ k.toNat := by simp
        omega)
      rw [← hSd, ← hV] at ht
      rw [← hSd] at hfl
      rw [← hZd, ← hV] at hZ
      rw [← hWd, ← hSd, ← hZd] at hW
      rw [← hV] at v0 hlt
      rw [← hSd, ← hWd]
      rw [show ((q.toNat : Nat) : Int) = q by omega, show ((k.toNat : Nat) : Int) = k by omega, show ((V.toNat : Nat) : Int) = V by omega, ← hZ] at hor
      have hZr : 0 ≤ Z ∧ Z < 281474976710656 := by
        have h1 : q * 2 ^ k.toNat ≤ 24 * 2 ^ k.toNat := Int.mul_le_mul_of_nonneg_right (by omega) (by omega)
        have h2 : 0 ≤ q * 2 ^ k.toNat := Int.mul_nonneg q0 (by omega)
        omega
      have hun := fun h => unfold_spec Z h hZr.1 hZr.2
      unfold rh rd at hz ht hfl ⊢
      obtain ⟨A, hA⟩ : ∃ P : Int, P = rpos bs s := ⟨_, rfl⟩
      obtain ⟨A1, hA1⟩ : ∃ P : Int, P = rpos bs s1 := ⟨_, rfl⟩
      obtain ⟨A2, hA2⟩ : ∃ P : Int, P = rpos bs S := ⟨_, rfl⟩
      obtain ⟨F, hF⟩ : ∃ P : Int, P = s.2 := ⟨_, rfl⟩
      obtain ⟨F1, hF1⟩ : ∃ P : Int, P = s1.2 := ⟨_, rfl⟩
      obtain ⟨F2, hF2⟩ : ∃ P : Int, P = S.2 := ⟨_, rfl⟩
      obtain ⟨U, hU⟩ : ∃ P : Int, P = unZ Z := ⟨_, rfl⟩
      rw [← hA, ← hF, ← hA1, ← hF1] at hz
      rw [← hA1, ← hF1, ← hA2, ← hF2] at ht
      rw [← hA2, ← hF2] at hfl ⊢
      rw [← hA, ← hF]
      rw [← hF2, ← hU] at hW
      simp only [← hU] at hun
      have hl2 : V < 9223372036854775808 := by omega
      clear hA hA1 hA2 hF hF1 hF2 hU hSd hV hZd hWd hB hl hs hv1 hs1 hq hZ hS hlt hpk hp0
      refine wlkS (fun f => Nat.beq f 32) Tryz.f111 ?_
      unhygienic intros
      obtain ⟨SH, hSH⟩ : ∃ x, x = i2 .shl .i64 q k := ⟨_, rfl⟩
      have t2 : i2 .or .i64 SH V = Z := by rw [hSH, hk.i2_eq]; exact hor
      have t4 : cv .i64 V = V := by rw [hk.cv_eq]; exact wrap64 (by omega) (by omega)
      clear hor
      by_cases hF20 : F2 = 0
      · rw [if_pos hF20] at hW
        subst hF20 hW
        (conv => cbv)
        repeat' (first | assumption | ((first | refine hk.callA hz ?_ | refine hk.callA ht ?_ | refine hk.callS ht ?_ | rw [t4] | rw [← hSH] | rw [t2] | refine hk.callA hfl ?_ | refine hk.callA (hun _) ?_ | refine hk.calldA hun ?_ | refine stp ?_ | refine stpB (fun _ => ?_) (fun _ => ?_)) <;> (conv => cbv)) | exact stpF | fail)
      · rw [if_neg hF20] at hW
        subst hW
        (conv => cbv)
        repeat' (first | assumption | ((first | refine hk.callA hz ?_ | refine hk.callA ht ?_ | refine hk.callS ht ?_ | rw [t4] | rw [← hSH] | rw [t2] | refine hk.callA hfl ?_ | refine stp ?_ | refine stpB (fun _ => ?_) (fun _ => ?_)) <;> (conv => cbv)) | exact stpF | fail)
    · rw [if_neg hq24] at hS hZ
      have ht := take_rh bs hB hl s1 hv1 34
      obtain ⟨v0, _⟩ := tkW_range 34 s1
      have hlt := tkW_lt 34 s1 (by decide)
      have hgv := give_rh bs (tkS 34 s1) 2
      obtain ⟨S, hSd⟩ : ∃ x, x = rtS k s := ⟨_, rfl⟩
      obtain ⟨V, hV⟩ : ∃ x, x = tkW 34 s1 := ⟨_, rfl⟩
      obtain ⟨Z, hZd⟩ : ∃ x, x = rtZ k s := ⟨_, rfl⟩
      obtain ⟨W, hWd⟩ : ∃ x, x = rtW k s := ⟨_, rfl⟩
      obtain ⟨s3, hs3⟩ : ∃ x, x = tkS 34 s1 := ⟨_, rfl⟩
      obtain ⟨s4, hs4⟩ : ∃ x, x = gvS 2 s3 := ⟨_, rfl⟩
      rw [← hs3, ← hV] at ht
      rw [← hs3, ← hs4] at hgv
      rw [← hSd] at hfl
      rw [← hZd, ← hV] at hZ
      rw [← hWd, ← hSd, ← hZd] at hW
      rw [← hV] at v0 hlt
      rw [← hSd, ← hV, ← hs3, ← hs4] at hS
      rw [← hSd, ← hWd]
      subst hZ
      have h34 : (2 : Int) ^ (Int.toNat 34) = 17179869184 := by decide
      rw [h34] at hlt
      have hun := fun h => unfold_spec Z h v0 (by omega)
      have hsh := shr_pow Z k.toNat v0 (by omega)
      rw [show ((k.toNat : Nat) : Int) = k by omega] at hsh
      obtain ⟨Q, hQ⟩ : ∃ x, x = Z / 2 ^ k.toNat := ⟨_, rfl⟩
      rw [← hQ] at hsh hS
      unfold rh rd at hz ht hfl hgv ⊢
      obtain ⟨A, hA⟩ : ∃ P : Int, P = rpos bs s := ⟨_, rfl⟩
      obtain ⟨A1, hA1⟩ : ∃ P : Int, P = rpos bs s1 := ⟨_, rfl⟩
      obtain ⟨A2, hA2⟩ : ∃ P : Int, P = rpos bs S := ⟨_, rfl⟩
      obtain ⟨A3, hA3⟩ : ∃ P : Int, P = rpos bs s3 := ⟨_, rfl⟩
      obtain ⟨A4, hA4⟩ : ∃ P : Int, P = rpos bs s4 := ⟨_, rfl⟩
      obtain ⟨F, hF⟩ : ∃ P : Int, P = s.2 := ⟨_, rfl⟩
      obtain ⟨F1, hF1⟩ : ∃ P : Int, P = s1.2 := ⟨_, rfl⟩
      obtain ⟨F2, hF2⟩ : ∃ P : Int, P = S.2 := ⟨_, rfl⟩
      obtain ⟨F3, hF3⟩ : ∃ P : Int, P = s3.2 := ⟨_, rfl⟩
      obtain ⟨F4, hF4⟩ : ∃ P : Int, P = s4.2 := ⟨_, rfl⟩
      obtain ⟨U, hU⟩ : ∃ P : Int, P = unZ Z := ⟨_, rfl⟩
      have hSS : (Q < 24 → A2 = A4 ∧ F2 = F4) ∧ (¬ Q < 24 → A2 = A3 ∧ F2 = F3) := by
        refine ⟨fun h => ?_, fun h => ?_⟩
        · rw [if_pos h] at hS; rw [hA2, hA4, hF2, hF4, hS]; exact ⟨rfl, rfl⟩
        · rw [if_neg h] at hS; rw [hA2, hA3, hF2, hF3, hS]; exact ⟨rfl, rfl⟩
      rw [← hA, ← hF, ← hA1, ← hF1] at hz
      rw [← hA1, ← hF1, ← hA3, ← hF3] at ht
      rw [← hA3, ← hF3, ← hA4, ← hF4] at hgv
      rw [← hA2, ← hF2] at hfl ⊢
      rw [← hA, ← hF]
      rw [← hF2, ← hU] at hW
      simp only [← hU] at hun
      clear hA hA1 hA2 hF hF1 hF2 hU hSd hV hZd hWd hB hl hs hv1 hs1 hq hS hpk hp0 hA3 hA4 hF3 hF4 hs3 hs4 hQ h34
      refine wlkS (fun f => Nat.beq f 32) Tryz.f111 ?_
      unhygienic intros
      have t2 : i2 .shr .i64 Z k = Q := by rw [hk.i2_eq]; exact hsh
      have t4 : cv .i64 Z = Z := by rw [hk.cv_eq]; exact wrap64 (by omega) (by omega)
      clear hsh
      by_cases hQ : Q < 24
      · obtain ⟨e1, e2⟩ := hSS.1 hQ
        clear hSS
        subst e1 e2
        by_cases hF20 : F2 = 0
        · rw [if_pos hF20] at hW
          subst hF20 hW
          (conv => cbv)
          repeat' (first | assumption | ((first | refine hk.callA hz ?_ | refine hk.callA ht ?_ | refine hk.callS ht ?_ | rw [t4] | rw [t2] | refine hk.callA hgv ?_ | refine hk.callA hfl ?_ | refine hk.callA (hun _) ?_ | refine hk.calldA hun ?_ | refine stp ?_ | refine stpB (fun _ => ?_) (fun _ => ?_)) <;> (conv => cbv)) | exact stpF | fail)
        · rw [if_neg hF20] at hW
          subst hW
          (conv => cbv)
          repeat' (first | assumption | ((first | refine hk.callA hz ?_ | refine hk.callA ht ?_ | refine hk.callS ht ?_ | rw [t4] | rw [t2] | refine hk.callA hgv ?_ | refine hk.callA hfl ?_ | refine stp ?_ | refine stpB (fun _ => ?_) (fun _ => ?_)) <;> (conv => cbv)) | exact stpF | fail)
      · obtain ⟨e1, e2⟩ := hSS.2 hQ
        clear hSS
        subst e1 e2
        by_cases hF20 : F2 = 0
        · rw [if_pos hF20] at hW
          subst hF20 hW
          (conv => cbv)
          repeat' (first | assumption | ((first | refine hk.callA hz ?_ | refine hk.callA ht ?_ | refine hk.callS ht ?_ | rw [t4] | rw [t2] | refine hk.callA hfl ?_ | refine hk.callA (hun _) ?_ | refine hk.calldA hun ?_ | refine stp ?_ | refine stpB (fun _ => ?_) (fun _ => ?_)) <;> (conv => cbv)) | exact stpF | fail)
        · rw [if_neg hF20] at hW
          subst hW
          (conv => cbv)
          repeat' (first | assumption | ((first | refine hk.callA hz ?_ | refine hk.callA ht ?_ | refine hk.callS ht ?_ | rw [t4] | rw [t2] | refine hk.callA hfl ?_ | refine stp ?_ | refine stpB (fun _ => ?_) (fun _ => ?_)) <;> (conv => cbv)) | exact stpF | fail)
end Go.Proofs.YtfjdmgnhklpiiaaGreat
set_option maxHeartbeats 4000000
set_option maxRecDepth 20000
set_option linter.unusedSimpArgs false
set_option linter.unusedVariables false
open Go Go.AL
namespace Go.Proofs.YtfjdmgnhklpiiaaGreat
theorem it_plan (bs : List Int) (f : RS → RS) (g : RS → Int) (hf : ∀ s, RV bs s → RV bs (f s)) (hfail : ∀ s : RS, s.2 ≠ 0 → f s = s) (n : Int) (hn : 0 ≤ n) (s0 : RS) (hs0 : RV bs s0) (l0 : List Int) :
    ∃ Inv : Int → Int → Int → List Int → Prop, Inv 0 (rpos bs s0) s0.2 l0 ∧ ∀ i a F l, Inv i a F l → 0 ≤ i ∧ i ≤ n ∧ l.length = l0.length + i.toNat ∧ (F = 0 ∨ l = l0) ∧
      (i < n → ∃ s, RV bs s ∧ a = rpos bs s ∧ F = s.2 ∧ (((f s).2 ≠ 0 ∧ f s = (itS f g n.toNat s0 l0).1) ∨ ((f s).2 = 0 ∧ Inv (i + 1) (rpos bs (f s)) (f s).2 (l ++ [g s])))) ∧
      (i = n → a = rpos bs (itS f g n.toNat s0 l0).1 ∧ F = (itS f g n.toNat s0 l0).1.2 ∧ l = (itS f g n.toNat s0 l0).2) := by
  obtain ⟨R, hR⟩ : ∃ R, R = itS f g n.toNat s0 l0 := ⟨_, rfl⟩
  rw [← hR]
  refine ⟨fun i a F l => ∃ s, RV bs s ∧ a = rpos bs s ∧ F = s.2 ∧ 0 ≤ i ∧ i ≤ n ∧ l.length = l0.length + i.toNat ∧ (F = 0 ∨ l = l0) ∧ itS f g (n - i).toNat s l = R, ⟨s0, hs0, rfl, rfl, Int.le_refl _, hn, by simp, .inr rfl, by rw [Int.sub_zero, hR]⟩, ?_⟩
  intro i a F l ⟨s, hv, ha, hF, i0, i1, hll, hfl, hit⟩
  refine ⟨i0, i1, hll, hfl, fun hin => ⟨s, hv, ha, hF, ?_⟩, fun hin => ?_⟩
  · rw [show (n - i).toNat = (n - (i + 1)).toNat + 1 by omega, itS] at hit
    by_cases hs : s.2 ≠ 0
    · rw [if_pos hs] at hit
      left
      rw [hfail s hs]
      exact ⟨hs, by rw [← hit]⟩
    · rw [if_neg hs] at hit
      by_cases h2 : (f s).2 = 0
      · right
        exact ⟨h2, f s, hf s hv, rfl, rfl, by omega, by omega, by rw [List.length_append, hll]; simp only [List.length_cons, List.length_nil]; omega, .inl h2, hit⟩
      · left
        rw [itS_fail _ _ _ _ _ h2] at hit
        exact ⟨h2, by rw [← hit]⟩
  · rw [show (n - i).toNat = 0 by omega, itS] at hit
    rw [← hit]
    exact ⟨ha, hF, rfl⟩
def tnR (bits n : Int) (s : RS) : RS × List Int := itS (tkS bits) (sgW bits) n.toNat s []
theorem taken_rh (bs : List Int) (hB : Bytes8 bs) (hl : bs.length < 137438953472) (s : RS) (hs : RV bs s) (n bits : Int) (hn0 : 0 ≤ n) (hn1 : n ≤ 1024) (h1 : 1 ≤ bits) (h2 : bits ≤ 47) :
    Does PP 34 [.ptr 0 0, I n, I bits] (rh bs s) (Is (LI (if (tnR bits n s).1.2 = 0 then (tnR bits n s).2 else [])) (rh bs (tnR bits n s).1)) := by
  obtain ⟨Inv, hI0, hI⟩ := it_plan bs (tkS bits) (sgW bits) (fun s h => RV_tk h bits) (fun s h => tkS_fail bits s h) n hn0 s hs []
  have eT : tnR bits n s = itS (tkS bits) (sgW bits) n.toNat s [] := rfl
  rw [← eT] at hI
  have hsg := fun s hs => rsigned_rh bs hB hl s hs bits h1 h2
  obtain ⟨R, hR⟩ : ∃ R, R = tnR bits n s := ⟨_, rfl⟩
  rw [← hR] at hI ⊢
  obtain ⟨A, hA⟩ : ∃ A : Int, A = rpos bs R.1 := ⟨_, rfl⟩
  obtain ⟨F, hF⟩ : ∃ A : Int, A = R.1.2 := ⟨_, rfl⟩
  obtain ⟨L, hL⟩ : ∃ A, A = R.2 := ⟨_, rfl⟩
  have hfl := fun a F => fail_spec bs a F
  have hI : ∀ i a f l, Inv i a f l → 0 ≤ i ∧ i ≤ n ∧ l.length = i.toNat ∧ (f = 0 ∨ l = []) ∧ (i < n → ∃ v a1 f1 : Int, Does PP 33 [.ptr 0 0, I bits] (rd bs a f) (Is (I v) (rd bs a1 f1)) ∧ ((f1 ≠ 0 ∧ a1 = A ∧ f1 = F) ∨ (f1 = 0 ∧ Inv (i + 1) a1 f1 (l ++ [v])))) ∧
      (i = n → a = A ∧ f = F ∧ l = L) := fun i a f l h => by
    obtain ⟨i0, i1, hll, hfl, c1, c2⟩ := hI i a f l h
    refine ⟨i0, i1, by simpa using hll, hfl, fun h => ?_, fun h => ?_⟩
    · obtain ⟨s, hv, ha, hf, hc⟩ := c1 h
      refine ⟨sgW bits s, rpos bs (tkS bits s), (tkS bits s).2, by rw [ha, hf]; exact hsg s hv, ?_⟩
      rcases hc with ⟨d1, d2⟩ | ⟨d1, d2⟩
      · exact .inl ⟨d1, by rw [d2, hA], by rw [d2, hF]⟩
      · exact .inr ⟨d1, d2⟩
    · obtain ⟨d1, d2, d3⟩ := c2 h
      exact ⟨by rw [d1, hA], by rw [d2, hF], by rw [d3, hL]⟩
  unfold rh rd at *
  rw [← hA, ← hF, ← hL]
  obtain ⟨a0, ha0⟩ : ∃ A : Int, A = rpos bs s := ⟨_, rfl⟩
  obtain ⟨f0, hf0⟩ : ∃ A : Int, A = s.2 := ⟨_, rfl⟩
  rw [← ha0, ← hf0] at hI0
  rw [← ha0, ← hf0]
  clear hA hF hL hR hsg ha0 hf0 eT hs hB hl
  have hI : ∀ i a f l, Inv i a f l → 0 ≤ i ∧ i ≤ n ∧ l.length = i.toNat ∧ (f = 0 ∨ l = []) ∧ (i < n → ∃ v a1 f1 : Int, Does PP 33 [.ptr 0 0, I bits] [.box [.ls (.il .u8 bs) .any, .int .i64 a, .int .i64 f], .tok 0] (Is (I v) [.box [.ls (.il .u8 bs) .any, .int .i64 a1, .int .i64 f1], .tok 0]) ∧ ((f1 ≠ 0 ∧ a1 = A ∧ f1 = F) ∨ (f1 = 0 ∧ Inv (i + 1) a1 f1 (l ++ [v])))) ∧
      (i = n → a = A ∧ f = F ∧ l = L) := fun i a f l h => by
    obtain ⟨i0, i1, hll, hfl, c1, c2⟩ := hI i a f l h
    refine ⟨i0, i1, hll, hfl, fun h => ?_, c2⟩
    obtain ⟨v, a1, f1, d, e⟩ := c1 h
    exact ⟨v, a1, f1, d.renI [0] rfl (by decide) rfl ⟨rfl, trivial⟩ rfl rfl rfl rfl rfl rfl, e⟩
  have hfl : ∀ a f o o2, Does PP 11 [.ptr 0 0] [.box [.ls (.il .u8 bs) .any, .int .i64 a, .int .i64 f], .tok o, .tok o2] (Is (I f) [.box [.ls (.il .u8 bs) .any, .int .i64 a, .int .i64 f], .tok o, .tok o2]) := fun a f o o2 =>
    (hfl a f).renI [0] rfl (by decide) rfl ⟨rfl, trivial⟩ rfl rfl rfl rfl rfl rfl
  refine wlk Tryz.f34 ?_
  unhygienic intros
  have hlo : ∀ ms i, 0 ≤ i → ms.length = i.toNat → lnI ms = i := fun ms i h h2 => by rw [hk.lnI_eq]; omega
  have hl1 : ∀ x, lnI [x] = 1 := fun x => hk.lnI_eq _
  (conv => cbv)
  repeat' (first | assumption | ((first | refine stp ?_ | refine stpB (fun _ => ?_) (fun _ => ?_)) <;> (conv => cbv)) | exact stpF | fail)
  refine hk.loopI (loop_rule (α := Int × Int × Int × List Int) (fun x => [(0, .ptr 0 0), (2, .int .i64 bits), (6, .ls .nl .nil), (7, .ls (.il .i64 x.2.2.2) (.tok 1 0)), (8, .int .i64 n), (9, .int .i64 x.1)]) (fun x => [.box [.ls (.il .u8 bs) .any, .int .i64 x.2.1, .int .i64 x.2.2.1], .tok 0])
    (fun x => Inv x.1 x.2.1 x.2.2.1 x.2.2.2) (fun x => (n - x.1).toNat) (0, a0, f0, []) hI0 ?_ ?_)
  · refine Gh.trans (Gh.thaw 7 (.il .i64 []) rfl trivial rfl) (Gh.tm ?_)
    repeat' (first | exact Holds.nil _ _ | refine Holds.cons (Wk.refl _ _) ?_)
  intro ⟨i, a, f, l⟩ hJ Q' hb hx hr
  simp only at hJ
  obtain ⟨i0, i1, hll, hlf, c1, c2⟩ := hI i a f l hJ
  dsimp only
  (conv => cbv)
  refine hk.brLss (fun h2 => ?_) (fun h2 => ?_)
  · obtain ⟨v, a1, f1, hsg, hc⟩ := c1 h2
    obtain ⟨l2, hl2⟩ : ∃ l2, l2 = l ++ [v] := ⟨_, rfl⟩
    rw [← hl2] at hc
    have hap : apI l [v] = l2 := by rw [hl2]; exact hk.apI_eq _ _
    have hlo := hlo l i i0 hll
    rcases hc with ⟨d1, d2, d3⟩ | ⟨d1, d2⟩
    · subst d2 d3
      (conv => cbv)
      repeat' (first | assumption | ((first | refine hk.callA hsg ?_ | refine hk.callA (hfl _ _ _ _) ?_ | rw [hl1, hlo, hap] | refine hk.needI (by first | (simp only [rNd, hk.ad_eq, hk.sb_eq]; omega) | (simp [rNd, hk.ad_eq, hk.sb_eq]; omega)) ?_ | rw [hap] | refine hr _ ?_ | refine stp ?_ | refine stpB (fun _ => ?_) (fun _ => ?_)) <;> (conv => cbv)) | exact stpF | fail)
      all_goals first
        | exact hk.finI (fin_lowN 1 (Nat.le_refl 1) (by rw [if_neg d1]; exact Wk.nilL _ _) rfl rfl ⟨rfl, rfl⟩)
        | skip
    · subst d1
      (conv => cbv)
      repeat' (first | assumption | ((first | refine hk.callA hsg ?_ | refine hk.callA (hfl _ _ _ _) ?_ | rw [hl1, hlo, hap] | refine hk.needI (by first | (simp only [rNd, hk.ad_eq, hk.sb_eq]; omega) | (simp [rNd, hk.ad_eq, hk.sb_eq]; omega)) ?_ | rw [hap] | refine hr _ ?_ | refine stp ?_ | refine stpB (fun _ => ?_) (fun _ => ?_)) <;> (conv => cbv)) | exact stpF | fail)
      refine hb (i + 1, a1, 0, l2) _ d2 (by simp only; omega) ?_
      refine Gh.retok 1 1 rfl (Nat.le_of_ble_eq_true rfl) ?_ rfl rfl
      repeat' (first | exact HoldsT.nil _ _ _ _ | refine HoldsT.tok rfl ?_ | refine HoldsT.cons (Wk.refl _ _) rfl ?_ | refine HoldsT.cons (Wk.of_eq ?_) rfl ?_)
      all_goals first
        | (rw [← hk.add64 i 1 (by omega) (by omega)]; rfl)
        | rfl
        | skip
  · have : i = n := by omega
    subst this
    obtain ⟨e1, e2, e3⟩ := c2 rfl
    subst e1 e2 e3
    refine hx _ _ ?_
    (conv => cbv)
    by_cases hf0 : f = 0
    · rw [if_pos hf0]
      exact hk.finI (fin_lowN 1 (Nat.le_refl 1) (Wk.any _ _ _) rfl rfl ⟨rfl, rfl⟩)
    · rw [if_neg hf0]
      have hl0 : l = [] := hlf.resolve_left hf0
      subst hl0
      exact hk.finI (fin_lowN 1 (Nat.le_refl 1) (Wk.any _ _ _) rfl rfl ⟨rfl, rfl⟩)
end Go.Proofs.YtfjdmgnhklpiiaaGreat
