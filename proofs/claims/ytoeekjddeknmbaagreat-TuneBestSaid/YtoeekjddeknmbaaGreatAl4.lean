/-
  AL: from a contract to a call in a world that came in: arguments told off the cells; what is left behind.
-/
import Derived.Test.YtoeekjddeknmbaaGreatAl3
import Derived.Below
import Derived.OpenShut
import Derived.Carry
import Derived.Deep.Slices
import Derived.ProofKit
namespace Go.AL
open Go Go.RowKit
def inEnv (W : World) : Env := ⟨W, fun _ => none, [], cellsSize W⟩
theorem inEnv_good (W : World) : Good (inEnv W) := ⟨fun i o h => by simp [inEnv] at h, fun i j oi oj b h => by simp [inEnv] at h, fun b => Nat.le_refl _⟩
theorem bridge {P : Program} {f : FuncId} {args : List AVal} {cs : Array Value} {W : World} {v : AVal} (hd : Does P f args [] (Is v [])) (hlen : args.length = cs.size)
 (ha : ∀ i, i < args.length → PVR W (cellsSize W) (args.getD i .junk) (cs.getD i undef)) {R : Value → World → Prop} (hv : ∀ e' c, Good e' → e'.h = [] → VR e' v c → Below W.heap.size W e'.w → R c e'.w) :
 Calls P f cs W fun e W' => ∃ c, e = .returned c ∧ R c W' := by
 have h1 := hd.2 (inEnv W) cs (inEnv_good W) rfl ⟨hlen, fun i hi => .pure _ _ (ha i hi)⟩
 refine Calls.mono h1 fun en W' hp => ?_
 cases en with
 | returned c =>
   obtain ⟨r, e', ⟨e1, e2⟩, hw, hg, hvr, hu, hx⟩ := hp
   subst e1
   subst hw
   refine ⟨c, rfl, hv e' c hg e2 hvr ⟨hu.os, hu.tape, hu.output, hu.size, fun k hk => (hu.frame k hk ?_).1⟩⟩
   rintro ⟨i, o, h, _⟩
   simp [inEnv] at h
 | _ => exact hp.elim
theorem bridge_law {P : Program} {f : FuncId} {args : List AVal} {cs : Array Value} {W : World} (hd : Does P f args [] (Is (.bool true) [])) (hlen : args.length = cs.size)
 (ha : ∀ i, i < args.length → PVR W (cellsSize W) (args.getD i .junk) (cs.getD i undef)) : Calls P f cs W fun e W' => e = .returned (.bool true) ∧ Below W.heap.size W W' := by
 refine Calls.mono (bridge hd hlen ha (R := fun c W' => c = .bool true ∧ Below W.heap.size W W') fun e' c hg he hv hb => ⟨hv.bool_inv, hb⟩) fun e W' ⟨c, h1, h2, h3⟩ => ?_
 subst h2
 exact ⟨h1, h3⟩
theorem ps_of_cell {W : World} {b o : Nat} {c : Value} (h : W.cell? ⟨b, o, none⟩ = some c) : o < cellsSize W b := by
 unfold World.cell? at h
 unfold cellsSize
 simp only at h
 split at h
 ·rename_i cs el fz hh
  rw [hh]
  simp at h
  exact (Array.getElem?_eq_some_iff.1 h).1
 ·cases h
end Go.AL
/-
  AL: a variable that nobody writes any more is told as its value ('pp').
-/
set_option linter.unusedSectionVars false
set_option linter.unusedVariables false
set_option linter.unusedSimpArgs false
namespace Go.AL
open Go
mutual
/-- Box i's address told as what lies there. -/
def fz (i : Nat) (vs : List AVal) : AVal → AVal
 | .ptr j off => match Nat.beq j i with
   | true => .pp (vs.drop off)
   | false => .ptr j off
 | .agg us => .agg (fzs i vs us)
 | .tup us => .tup (fzs i vs us)
 | .clo f a b => .clo f (fzs i vs a) (fzs i vs b)
 | .iface t v => .iface t (fz i vs v)
 | v => v
def fzs (i : Nat) (vs : List AVal) : List AVal → List AVal
 | [] => []
 | v :: r => fz i vs v :: fzs i vs r
end
def Env.fz (e : Env) (i b n : Nat) : Env := ⟨e.w, e.sg, e.h.set i (.dead 0), fun b' => if b' = b then n else e.ps b'⟩
section
variable {e : Env} (hg : Good e) {i : Nat} {vs : List AVal} (hi : e.h[i]? = some (.box vs))
include hg hi
end
end Go.AL
/-
  AL: a nil slice that will be appended to is told as a list that owns its end.
-/
set_option linter.unusedSectionVars false
set_option linter.unusedVariables false
set_option linter.unusedSimpArgs false
namespace Go.AL
open Go
theorem Gh.thaw {n0 nt : Nat} {tm : Nat → AVal} {h : Heap} (t : Nat) (q : LX) (hq : q.n = 0) (hf : q.fit) (ht : tm t = .ls .nl .nil) :
 Gh n0 nt ⟨tm, h⟩ ⟨upd tm t (.ls q (.tok h.length 0)), h ++ [.tok 0]⟩ := fun e0 e a hn hs => by
 obtain ⟨hg, hu, hx⟩ := thaw_env hs.good
 have hh := hs.heap
 simp only at hh
 refine ⟨e.thaw, rfl, hg, by show e.h ++ [AObj.tok 0] = _; rw [hh], fun u => ?_, hs.size, hs.marks.step rfl hu, hs.upd.trans hu, Ext0 hs.ext hx⟩
 show VR e.thaw (upd tm t _ u) _
 rw [upd_get]
 split
 ·rename_i he
  subst he
  have hv := hs.tm u
  simp only [ht] at hv
  have hc : a.tmps.getD u undef = .slice none 0 0 := by
   revert hv
   generalize a.tmps.getD u undef = c
   intro hv
   cases hv with
   | pure _ _ hp => cases hp; rfl
  rw [hc]
  refine .tok q h.length 0 _ (.lsnil q .any hq hf (.inl rfl)) ?_
  have : e.thaw.h[h.length]? = some (.tok 0) := by
   show (e.h ++ [AObj.tok 0])[h.length]? = _
   rw [hh]; simp
  rw [this]
  exact ⟨Nat.le_refl _, fun _ => trivial⟩
 ·exact (hs.tm u).mono (Nat.le_refl _) hx
end Go.AL
/-
  AL: objects that nothing leads to any more are forgotten.
-/
set_option linter.unusedSectionVars false
set_option linter.unusedVariables false
set_option linter.unusedSimpArgs false
namespace Go.AL
open Go
theorem Gh.low {n0 nt : Nat} {tm : Nat → AVal} {h h' : Heap} {l : List (Nat × AVal)} (m : Nat) (hm : n0 ≤ m) (hh : Holds h tm l) (hl : lowL m l = true) (ho : lowOs m (h.take m) = true) (e1 : h.take m = h') :
 Gh n0 nt ⟨tm, h⟩ ⟨tmL l, h'⟩ := fun e0 e a hn hs => by
 subst e1
 have hhp := hs.heap
 simp only at hhp
 have look : ∀ {i : Nat} {o : AObj}, (e.h.take m)[i]? = some o → i < m ∧ e.h[i]? = some o := fun {i o} ho => by
  rw [List.getElem?_take] at ho
  split at ho
  ·exact ⟨by assumption, ho⟩
  ·cases ho
 have own : ∀ b, Owned { e with h := e.h.take m } b → Owned e b := fun b ⟨i, o, h1, h2, h3⟩ => ⟨i, o, (look h1).2, h2, h3⟩
 have hu : Upd e { e with h := e.h.take m } := ⟨rfl, rfl, rfl, Nat.le_refl _, fun _ _ _ => ⟨rfl, rfl⟩, fun b hb => .inl (own b hb)⟩
 refine ⟨{ e with h := e.h.take m }, rfl, ⟨fun i o h1 => ?_, fun i j oi oj b h1 h2 h3 h4 h5 h6 => hs.good.inj i j oi oj b (look h1).2 h2 (look h3).2 h4 h5 h6, hs.good.ps⟩, by show e.h.take m = _; rw [hhp],
  fun t => (hh.get t e _ hs.good hhp (hs.tm t)).low (lowL_get hl t), hs.size, hs.marks.step rfl hu, hs.upd.trans hu, ?_⟩
 ·exact ObjOK.low (hs.good.obj i o (look h1).2) (lowOs_get (by rw [hhp] at h1; exact ho) i o (by rw [hhp] at h1; exact h1))
 ·refine ⟨fun i o hi h1 => ?_, hs.ext.ps, hs.ext.cell, hs.ext.size⟩
  obtain ⟨o', h2, h3⟩ := hs.ext.obj i o hi h1
  refine ⟨o', ?_, h3⟩
  show (e.h.take m)[i]? = some o'
  rw [take_get (o := none) (by omega)]; exact h2
end Go.AL
/-
  AL: a token's count told anew, at a loop's back edge.
-/
set_option linter.unusedSectionVars false
set_option linter.unusedVariables false
set_option linter.unusedSimpArgs false
namespace Go.AL
open Go
def HoldsT (h : Heap) (i n : Nat) (tm : Nat → AVal) : List (Nat × AVal) → Prop
 | [] => True
 | (d, v) :: r => ((Wk h (tm d) v ∧ low i v = true) ∨ ∃ q, tm d = .ls q (.tok i n) ∧ v = .ls q (.tok i 0)) ∧ HoldsT h i n tm r
theorem HoldsT.nil (h : Heap) (i n : Nat) (tm : Nat → AVal) : HoldsT h i n tm [] := trivial
theorem HoldsT.cons {h : Heap} {i n : Nat} {tm : Nat → AVal} {d : Nat} {v : AVal} {r : List (Nat × AVal)} (h1 : Wk h (tm d) v) (h2 : low i v = true) (h3 : HoldsT h i n tm r) : HoldsT h i n tm ((d, v) :: r) := ⟨.inl ⟨h1, h2⟩, h3⟩
theorem HoldsT.tok {h : Heap} {i n : Nat} {tm : Nat → AVal} {d : Nat} {q : LX} {r : List (Nat × AVal)} (h1 : tm d = .ls q (.tok i n)) (h3 : HoldsT h i n tm r) : HoldsT h i n tm ((d, .ls q (.tok i 0)) :: r) := ⟨.inr ⟨q, h1, rfl⟩, h3⟩
theorem HoldsT.get {h : Heap} {i n : Nat} {tm : Nat → AVal} : ∀ {l : List (Nat × AVal)}, HoldsT h i n tm l → ∀ t, (Wk h (tm t) (tmL l t) ∧ low i (tmL l t) = true) ∨ ∃ q, tm t = .ls q (.tok i n) ∧ tmL l t = .ls q (.tok i 0)
 | [], _, t => .inl ⟨.junk _ _, rfl⟩
 | (d, v) :: r, hh, t => by
   unfold tmL
   split
   ·rename_i hb
    rw [Nat.eq_of_beq_eq_true hb]
    exact hh.1
   ·exact hh.2.get t
theorem Gh.retok {n0 nt : Nat} {tm : Nat → AVal} {h h' : Heap} {l : List (Nat × AVal)} (i n : Nat) (hi : h[i]? = some (.tok n)) (hm : n0 ≤ i) (hh : HoldsT h i n tm l) (ho : lowOs i (h.take i) = true) (e1 : h.take i ++ [.tok 0] = h') :
 Gh n0 nt ⟨tm, h⟩ ⟨tmL l, h'⟩ := fun e0 e a hn hs => by
 subst e1
 have hhp := hs.heap
 simp only at hhp
 subst hhp
 have hil : i < e.h.length := (List.getElem?_eq_some_iff.1 hi).1
 have lt : (e.h.take i).length = i := by simp; omega
 have low_ : ∀ j, j < i → (e.h.take i ++ [AObj.tok 0])[j]? = e.h[j]? := fun j hj => by
  rw [List.getElem?_append_left (by omega), take_get (o := none) hj]
 have at_ : (e.h.take i ++ [AObj.tok 0])[i]? = some (.tok 0) := by
  rw [List.getElem?_append_right (by omega), lt]; simp
 have look : ∀ j o, (e.h.take i ++ [AObj.tok 0])[j]? = some o → (j = i ∧ o = .tok 0) ∨ (j < i ∧ e.h[j]? = some o) := fun j o hj => by
  rcases Nat.lt_trichotomy j i with h | h | h
  ·exact .inr ⟨h, by rw [← low_ j h]; exact hj⟩
  ·subst h; rw [at_] at hj; exact .inl ⟨rfl, (Option.some.inj hj).symm⟩
  ·rw [List.getElem?_eq_none (by simp; omega)] at hj; cases hj
 let e' : Env := { e with h := e.h.take i ++ [.tok 0] }
 have hx1 : Ext i { e with h := e.h.take i } e' := ⟨fun j o hj h1 => ⟨o, by
  have h1 : (e.h.take i)[j]? = some o := h1
  show (e.h.take i ++ [AObj.tok 0])[j]? = some o
  rw [List.getElem?_append_left (by omega)]; exact h1, OMono.kept rfl rfl j o⟩, fun _ => Nat.le_refl _, fun _ _ _ => rfl, fun _ => Nat.le_refl _⟩
 have vr : ∀ v c, VR { e with h := e.h.take i } v c → VR e' v c := fun v c h => h.mono (by show (e.h.take i).length ≤ i; omega) hx1
 have own : ∀ b, Owned e' b → Owned e b := fun b ⟨j, o, h1, h2, h3⟩ => by
  rcases look j o h1 with ⟨rfl, rfl⟩ | ⟨_, h4⟩
  ·exact ⟨j, _, hi, rfl, h3⟩
  ·exact ⟨j, o, h4, h2, h3⟩
 have hu : Upd e e' := ⟨rfl, rfl, rfl, Nat.le_refl _, fun _ _ _ => ⟨rfl, rfl⟩, fun b hb => .inl (own b hb)⟩
 have live : ∀ (j : Nat) (o : AObj), (e.h.take i ++ [AObj.tok 0])[j]? = some o → o.live = true → ∃ o', e.h[j]? = some o' ∧ o'.live = true := fun j o h1 h2 => by
  rcases look j o h1 with ⟨rfl, rfl⟩ | ⟨_, h4⟩
  ·exact ⟨_, hi, rfl⟩
  ·exact ⟨o, h4, h2⟩
 refine ⟨e', rfl, ⟨fun j o h1 => ?_, fun j k oj ok b h1 h2 h3 h4 h5 h6 => ?_, hs.good.ps⟩, rfl, fun t => ?_, hs.size, hs.marks.step rfl hu, hs.upd.trans hu, ?_⟩
 ·rcases look j o h1 with ⟨rfl, rfl⟩ | ⟨h2, h3⟩
  ·exact hs.good.obj j _ hi
  ·have h4 : (e.h.take i)[j]? = some o := by rw [take_get (o := none) h2]; exact h3
   exact ObjOK.kept (e := { e with h := e.h.take i }) rfl rfl rfl vr (ObjOK.low (hs.good.obj j o h3) (lowOs_get ho j o h4))
 ·obtain ⟨o1, g1, g2⟩ := live j oj h1 h2
  obtain ⟨o2, g3, g4⟩ := live k ok h3 h4
  exact hs.good.inj j k o1 o2 b g1 g2 g3 g4 h5 h6
 ·rcases hh.get t with ⟨w1, w2⟩ | ⟨q, w1, w2⟩
  ·exact vr _ _ ((w1 e _ hs.good rfl (hs.tm t)).low w2)
  ·have hv := hs.tm t
   simp only [w1] at hv
   show VR e' (tmL l t) _
   rw [w2]
   revert hv
   generalize a.tmps.getD t undef = c
   intro hv
   cases hv with
   | pure _ _ hp => cases hp with
     | lsnil _ _ _ _ hc => rcases hc with hc | hc <;> cases hc
   | tok _ _ _ _ hp ht =>
     refine .tok q i 0 c hp ?_
     rw [hi] at ht
     show tokAt (e.h.take i ++ [AObj.tok 0])[i]? 0 _
     rw [at_]
     exact ⟨Nat.le_refl _, fun _ => ht.2 rfl⟩
 ·refine ⟨fun j o hj h1 => ?_, hs.ext.ps, hs.ext.cell, hs.ext.size⟩
  obtain ⟨o', h2, h3⟩ := hs.ext.obj j o hj h1
  refine ⟨o', ?_, h3⟩
  show (e.h.take i ++ [AObj.tok 0])[j]? = some o'
  rw [low_ j (by omega)]; exact h2
end Go.AL
/-
  AL: what is known of a heap, said otherwise ahead of a call.
-/
set_option linter.unusedSectionVars false
set_option linter.unusedVariables false
set_option linter.unusedSimpArgs false
namespace Go.AL
open Go
def GE (h h' : Heap) : Prop := ∀ e, Good e → e.h = h → ∃ e', e'.w = e.w ∧ Good e' ∧ e'.h = h' ∧ Upd e e' ∧ Ext e.h.length e e'
theorem GE.refl (h : Heap) : GE h h := fun e hg he => ⟨e, rfl, hg, he, .refl e, .refl _ e⟩
theorem GE.trans {h h' h'' : Heap} (a : GE h h') (b : GE h' h'') (hl : h.length ≤ h'.length) : GE h h'' := fun e hg he => by
 obtain ⟨e1, w1, g1, h1, u1, x1⟩ := a e hg he
 obtain ⟨e2, w2, g2, h2, u2, x2⟩ := b e1 g1 h1
 exact ⟨e2, w2.trans w1, g2, h2, u1.trans u2, x1.trans (x2.le (by rw [he, h1]; exact hl))⟩
theorem Does.ghost {P : Program} {f : FuncId} {args : List AVal} {h h' : Heap} {R : AVal → Heap → Prop} (hg : GE h h') (hd : Does P f args h' R) (hl : h.length ≤ h'.length) : Does P f args h R := by
 refine ⟨hd.1, fun e cs hgood he ha => ?_⟩
 obtain ⟨e1, w1, g1, h1, u1, x1⟩ := hg e hgood he
 have := hd.2 e1 cs g1 h1 ⟨ha.len, fun i hi => (ha.rel i hi).mono (Nat.le_refl _) x1⟩
 rw [w1] at this
 refine Calls.mono this fun en w hp => ?_
 cases en with
 | returned c =>
   obtain ⟨r, e2, hr, hw, hg2, hv, hu, hx⟩ := hp
   exact ⟨r, e2, hr, hw, hg2, hv, u1.trans hu, x1.trans (hx.le (by rw [he, h1]; exact hl))⟩
 | _ => exact hp.elim
theorem Gh.ghost {n0 nt : Nat} {tm : Nat → AVal} {h h' : Heap} (hg : GE h h') (hn : n0 ≤ h.length) : Gh n0 nt ⟨tm, h⟩ ⟨tm, h'⟩ := fun e0 e a hn0 hs => by
 have hhp := hs.heap
 simp only at hhp
 obtain ⟨e1, w1, g1, h1, u1, x1⟩ := hg e hs.good hhp
 refine ⟨e1, w1, g1, h1, fun t => (hs.tm t).mono (Nat.le_refl _) x1, hs.size, hs.marks.step rfl u1, hs.upd.trans u1, hs.ext.trans (x1.le (by rw [hhp]; omega))⟩
theorem putCells_get_self : ∀ (vs : List AVal) (j : Nat) (v : AVal), j < vs.length → (vs.set j v).getD j .junk = v
 | vs, j, v, h => by simp [List.getD, h]
theorem GE.thaw {h : Heap} (i j : Nat) (vs : List AVal) (q : LX) (hi : h[i]? = some (.box vs)) (hj : vs[j]? = some (.ls .nl .nil)) (hq : q.n = 0) (hf : q.fit) :
 GE h ((h.set i (.box (vs.set j (.ls q (.tok h.length 0))))) ++ [.tok 0]) := fun e hg he => by
 subst he
 obtain ⟨gt, ut, xt⟩ := thaw_env hg
 have hil : i < e.h.length := (List.getElem?_eq_some_iff.1 hi).1
 have hjl : j < vs.length := (List.getElem?_eq_some_iff.1 hj).1
 have hit : e.thaw.h[i]? = some (.box vs) := by
  show (e.h ++ [AObj.tok 0])[i]? = _
  rw [List.getElem?_append_left hil]; exact hi
 let e2 : Env := { e.thaw with h := e.thaw.h.set i (.box (vs.set j (.ls q (.tok e.h.length 0)))) }
 have hset : e.thaw.h.set i (.box (vs.set j (.ls q (.tok e.h.length 0)))) = (e.h.set i (.box (vs.set j (.ls q (.tok e.h.length 0))))) ++ [.tok 0] := by
  show (e.h ++ [AObj.tok 0]).set i _ = _
  rw [List.set_append_left _ _ hil]
 have hitl : i < e.thaw.h.length := (List.getElem?_eq_some_iff.1 hit).1
 have look : ∀ k o, e2.h[k]? = some o → (k = i ∧ o = .box (vs.set j (.ls q (.tok e.h.length 0)))) ∨ (k ≠ i ∧ e.thaw.h[k]? = some o) := fun k o hk => by
  have hk : (e.thaw.h.set i (.box (vs.set j (.ls q (.tok e.h.length 0)))))[k]? = some o := hk
  by_cases hki : k = i
  ·subst hki
   rw [List.getElem?_set, if_pos rfl, if_pos hitl] at hk
   exact .inl ⟨rfl, (Option.some.inj hk).symm⟩
  ·rw [List.getElem?_set_ne (Ne.symm hki)] at hk
   exact .inr ⟨hki, hk⟩
 have x2 : Ext e.thaw.h.length e.thaw e2 := by
  refine ⟨fun k o hk ho => ?_, fun _ => Nat.le_refl _, fun _ _ _ => rfl, fun _ => Nat.le_refl _⟩
  by_cases hki : k = i
  ·subst hki
   rw [hit] at ho
   cases ho
   exact ⟨.box (vs.set j (.ls q (.tok e.h.length 0))), (by show (e.thaw.h.set k _)[k]? = _; rw [List.getElem?_set, if_pos rfl, if_pos hitl]), (by exact ⟨rfl, by simp⟩)⟩
  ·exact ⟨o, by show (e.thaw.h.set i _)[k]? = _; rw [List.getElem?_set_ne (Ne.symm hki)]; exact ho, OMono.kept rfl rfl k o⟩
 have vr : ∀ v c, VR e.thaw v c → VR e2 v c := fun v c h => h.mono (Nat.le_refl _) x2
 have live : ∀ (k : Nat) (o : AObj), e2.h[k]? = some o → o.live = true → ∃ o', e.thaw.h[k]? = some o' ∧ o'.live = true := fun k o hk hl => by
  rcases look k o hk with ⟨rfl, rfl⟩ | ⟨_, h2⟩
  ·exact ⟨_, hit, rfl⟩
  ·exact ⟨o, h2, hl⟩
 have u2 : Upd e.thaw e2 := ⟨rfl, rfl, rfl, Nat.le_refl _, fun _ _ _ => ⟨rfl, rfl⟩, fun b ⟨k, o, h1, h2, h3⟩ => by
  obtain ⟨o', h4, h5⟩ := live k o h1 h2
  exact .inl ⟨k, o', h4, h5, h3⟩⟩
 refine ⟨e2, rfl, ⟨fun k o hk => ?_, fun k m ok om b h1 h2 h3 h4 h5 h6 => ?_, gt.ps⟩, hset, ut.trans u2, xt.trans (x2.le (by simp [Env.thaw]))⟩
 ·rcases look k o hk with ⟨rfl, rfl⟩ | ⟨hne, ho⟩
  ·obtain ⟨b, cs, el, h1, h2, h3, h4, h5⟩ := gt.obj _ _ hit
   refine ⟨b, cs, el, h1, h2, by simpa using h3, h4, fun m hm => ?_⟩
   rw [List.length_set] at hm
   by_cases hmj : m = j
   ·subst hmj
    have h6 := h5 m hm
    have e1 : vs.getD m .junk = .ls .nl .nil := by simp [List.getD, hj]
    rw [e1] at h6
    have hc : cs.getD m undef = .slice none 0 0 := by
     revert h6
     generalize cs.getD m undef = c
     intro h6
     cases h6 with
     | pure _ _ hp => cases hp; rfl
    rw [hc, putCells_get_self _ _ _ hm]
    refine .tok q e.h.length 0 _ (.lsnil q .any hq hf (.inl rfl)) ?_
    have : e2.h[e.h.length]? = some (.tok 0) := by
     show (e.thaw.h.set k _)[e.h.length]? = _
     rw [List.getElem?_set_ne (by omega)]
     show (e.h ++ [AObj.tok 0])[e.h.length]? = _
     simp
    rw [this]
    exact ⟨Nat.le_refl _, fun _ => trivial⟩
   ·have e1 : (vs.set j (.ls q (.tok e.h.length 0))).getD m .junk = vs.getD m .junk := by simp [List.getD, List.getElem?_set_ne (Ne.symm hmj)]
    rw [e1]
    exact vr _ _ (h5 m hm)
  ·exact ObjOK.kept (e := e.thaw) rfl rfl rfl vr (gt.obj k o ho)
 ·obtain ⟨o1, a1, a2⟩ := live k ok h1 h2
  obtain ⟨o2, a3, a4⟩ := live m om h3 h4
  exact gt.inj k m o1 o2 b a1 a2 a3 a4 h5 h6
end Go.AL
/-
  AL: steps of a walk: a branch on a comparison, told as a fact.
-/
set_option linter.unusedSectionVars false
set_option linter.unusedVariables false
namespace Go.AL
open Go
theorem brB {c : Bool} {X Y : Prop} (h1 : c = true → X) (h2 : c = false → Y) : (match (generalizing := false) c with | true => X | false => Y) := by
 cases c
 ·exact h2 rfl
 ·exact h1 rfl
theorem brS {c : Bool} (c' : Bool) {X Y : Prop} (e : c = c') (h : match (generalizing := false) c' with | true => X | false => Y) : (match (generalizing := false) c with | true => X | false => Y) := by subst e; exact h
section
variable {P : Program} {n0 nt : Nat} {i2 : BinOp → IntKind → Int → Int → Int} {c2 : BinOp → Int → Int → Bool} {u1 : UnOp → IntKind → Int → Int} {cv : IntKind → Int → Int} {mx mn ad sbt : Int → Int → Int}
 {bn : Bool → Bool} {bq ba : Bool → Bool → Bool} {lnI : List Int → Int} {gtI : List Int → Int → Int} {apI : List Int → List Int → List Int} {sbI : List Int → Int → Int → List Int} {stI : List Int → Int → Int → List Int}
 {rpI : Int → Int → List Int} {lnG : List AVal → Int} {gtG : List AVal → Int → AVal} {apG : List AVal → List AVal → List AVal} {sbG : List AVal → Int → Int → List AVal} {stG : List AVal → Int → AVal → List AVal}
 {rpG : Int → AVal → List AVal} {fi : AVal → Int} {fb : AVal → Bool} {fs : AVal → List UInt8} {fl : AVal → List Int} {fg : AVal → List AVal} {fc : AVal → Nat → AVal} {sln : List UInt8 → Int} {sgt : List UInt8 → Int → Int}
 {sap : List UInt8 → List UInt8 → List UInt8} {ssb : List UInt8 → Int → Int → List UInt8} {sc : BinOp → List UInt8 → List UInt8 → Bool} {b2s : List Int → List UInt8} {nd : Need → Prop} {call : FuncId → List AVal → Heap → (AVal → Heap → Prop) → Prop}
 {calld : FuncId → List AVal → Heap → (AVal → Prop) → Prop} {callv : AVal → List AVal → Heap → (AVal → Heap → Prop) → Prop} {callvd : AVal → List AVal → Heap → (AVal → Prop) → Prop}
 {loop : (St → (Exit → St → Prop) → Prop) → St → (Exit → St → Prop) → Prop} {rfun : AVal → Array Tmp → Code → Code → St → (Exit → St → Prop) → Prop} {fin : (AVal → Heap → Prop) → AVal → Heap → Prop}
 (hk : HK P n0 nt i2 c2 u1 cv mx mn ad sbt bn bq ba lnI gtI apI sbI stI rpI lnG gtG apG sbG stG rpG fi fb fs fl fg fc sln sgt sap ssb sc b2s nd call calld callv callvd loop rfun fin)
include hk
variable {X Y : Prop} {a b : Int}
theorem HK.brLss (h1 : a < b → X) (h2 : ¬ a < b → Y) : (match (generalizing := false) c2 .lss a b with | true => X | false => Y) :=
 brB (c := c2 .lss a b) (fun h => h1 (by rwa [hk.c2_lss, decide_eq_true_eq] at h)) (fun h => h2 (by rwa [hk.c2_lss, decide_eq_false_iff_not] at h))
theorem HK.brLeq (h1 : a ≤ b → X) (h2 : ¬ a ≤ b → Y) : (match (generalizing := false) c2 .leq a b with | true => X | false => Y) :=
 brB (c := c2 .leq a b) (fun h => h1 (by rwa [hk.c2_leq, decide_eq_true_eq] at h)) (fun h => h2 (by rwa [hk.c2_leq, decide_eq_false_iff_not] at h))
theorem HK.brGtr (h1 : a > b → X) (h2 : ¬ a > b → Y) : (match (generalizing := false) c2 .gtr a b with | true => X | false => Y) :=
 brB (c := c2 .gtr a b) (fun h => h1 (by rwa [hk.c2_gtr, decide_eq_true_eq] at h)) (fun h => h2 (by rwa [hk.c2_gtr, decide_eq_false_iff_not] at h))
theorem HK.brGeq (h1 : a ≥ b → X) (h2 : ¬ a ≥ b → Y) : (match (generalizing := false) c2 .geq a b with | true => X | false => Y) :=
 brB (c := c2 .geq a b) (fun h => h1 (by rwa [hk.c2_geq, decide_eq_true_eq] at h)) (fun h => h2 (by rwa [hk.c2_geq, decide_eq_false_iff_not] at h))
theorem HK.brEql (h1 : a = b → X) (h2 : ¬ a = b → Y) : (match (generalizing := false) c2 .eql a b with | true => X | false => Y) :=
 brB (c := c2 .eql a b) (fun h => h1 (by rwa [hk.c2_eql, decide_eq_true_eq] at h)) (fun h => h2 (by rwa [hk.c2_eql, decide_eq_false_iff_not] at h))
theorem HK.brNeq (h1 : ¬ a = b → X) (h2 : a = b → Y) : (match (generalizing := false) c2 .neq a b with | true => X | false => Y) :=
 brB (c := c2 .neq a b) (fun h => h1 (by rwa [hk.c2_neq, decide_eq_true_eq] at h)) (fun h => h2 (by rw [hk.c2_neq, decide_eq_false_iff_not, ne_eq, Classical.not_not] at h; exact h))
theorem HK.brNot {t : Bool} (h1 : t = false → X) (h2 : t = true → Y) : (match (generalizing := false) bn t with | true => X | false => Y) :=
 brB (c := bn t) (fun h => h1 (by rw [hk.bn_eq] at h; simpa using h)) (fun h => h2 (by rw [hk.bn_eq] at h; simpa using h))
theorem HK.brLssT (h : a < b) (hx : X) : (match (generalizing := false) c2 .lss a b with | true => X | false => Y) := hk.brLss (fun _ => hx) (fun h' => absurd h h')
theorem HK.brLssF (h : ¬ a < b) (hy : Y) : (match (generalizing := false) c2 .lss a b with | true => X | false => Y) := hk.brLss (fun h' => absurd h' h) (fun _ => hy)
theorem HK.brLeqT (h : a ≤ b) (hx : X) : (match (generalizing := false) c2 .leq a b with | true => X | false => Y) := hk.brLeq (fun _ => hx) (fun h' => absurd h h')
theorem HK.brLeqF (h : ¬ a ≤ b) (hy : Y) : (match (generalizing := false) c2 .leq a b with | true => X | false => Y) := hk.brLeq (fun h' => absurd h' h) (fun _ => hy)
theorem HK.brGtrT (h : a > b) (hx : X) : (match (generalizing := false) c2 .gtr a b with | true => X | false => Y) := hk.brGtr (fun _ => hx) (fun h' => absurd h h')
theorem HK.brGtrF (h : ¬ a > b) (hy : Y) : (match (generalizing := false) c2 .gtr a b with | true => X | false => Y) := hk.brGtr (fun h' => absurd h' h) (fun _ => hy)
theorem HK.brGeqT (h : a ≥ b) (hx : X) : (match (generalizing := false) c2 .geq a b with | true => X | false => Y) := hk.brGeq (fun _ => hx) (fun h' => absurd h h')
theorem HK.brGeqF (h : ¬ a ≥ b) (hy : Y) : (match (generalizing := false) c2 .geq a b with | true => X | false => Y) := hk.brGeq (fun h' => absurd h' h) (fun _ => hy)
theorem HK.brEqlT (h : a = b) (hx : X) : (match (generalizing := false) c2 .eql a b with | true => X | false => Y) := hk.brEql (fun _ => hx) (fun h' => absurd h h')
theorem HK.brEqlF (h : ¬ a = b) (hy : Y) : (match (generalizing := false) c2 .eql a b with | true => X | false => Y) := hk.brEql (fun h' => absurd h' h) (fun _ => hy)
theorem HK.brNeqT (h : ¬ a = b) (hx : X) : (match (generalizing := false) c2 .neq a b with | true => X | false => Y) := hk.brNeq (fun _ => hx) (fun h' => absurd h' h)
theorem HK.brNeqF (h : a = b) (hy : Y) : (match (generalizing := false) c2 .neq a b with | true => X | false => Y) := hk.brNeq (fun h' => absurd h h') (fun _ => hy)
theorem HK.brNotS {t : Bool} (c' : Bool) (e : bn t = c') (h : match (generalizing := false) c' with | true => X | false => Y) : (match (generalizing := false) bn t with | true => X | false => Y) := brS c' e h
theorem HK.brBqS {t u : Bool} (c' : Bool) (e : bq t u = c') (h : match (generalizing := false) c' with | true => X | false => Y) : (match (generalizing := false) bq t u with | true => X | false => Y) := brS c' e h
theorem HK.idxI {i n : Int} {X : Prop} (h0 : 0 ≤ i) (h1 : i < n) (hx : X) : nd (.idx i n) ∧ X := ⟨hk.idx h0 h1, hx⟩
theorem HK.nzI {n : Int} {X : Prop} (h0 : n ≠ 0) (hx : X) : nd (.nz n) ∧ X := ⟨hk.ndI h0, hx⟩
theorem HK.ge0I {n : Int} {X : Prop} (h0 : 0 ≤ n) (hx : X) : nd (.ge0 n) ∧ X := ⟨hk.ndI h0, hx⟩
theorem HK.brNotT (h : Y) : (match (generalizing := false) bn true with | true => X | false => Y) := hk.brNot (fun h => by cases h) (fun _ => h)
theorem HK.brNotF (h : X) : (match (generalizing := false) bn false with | true => X | false => Y) := hk.brNot (fun _ => h) (fun h => by cases h)
theorem HK.callA {f : FuncId} {args : List AVal} {h h' : Heap} {K : AVal → Heap → Prop} {r : AVal} (hs : Does P f args h (Is r h')) (hK : K r h') : call f args h K := hk.callI hs fun r2 h2 ⟨e1, e2⟩ => by subst e1; subst e2; exact hK
theorem HK.callS {f : FuncId} {args : List AVal} {h h' : Heap} {K : AVal → Heap → Prop} {r : AVal} (hs : Does P f args h (Is r h')) (hK : K r h') : ∃ r h1, call f args h (fun v h => v = r ∧ h = h1) ∧ K r h1 := ⟨r, h', hk.callA hs ⟨rfl, rfl⟩, hK⟩
theorem HK.calldA {f : FuncId} {args : List AVal} {h : Heap} {K : AVal → Prop} {r : AVal} (hs : ∀ h, Does P f args h (Is r h)) (hK : K r) : calld f args h K := hk.calld1 (fun x => hs _) hK
theorem HK.finB {h : Heap} {b b' : Bool} (e : b' = b) : fin (Is (.bool b) h) (.bool b') h := hk.fin1 (congrArg _ e)
theorem HK.finN {h : Heap} {k : IntKind} {b b' : Int} (e : b' = b) : fin (Is (.int k b) h) (.int k b') h := hk.fin1 (congrArg _ e)
theorem HK.needI {q : Need} {X : Prop} (h : rNd q) (hx : X) : nd q ∧ X := ⟨hk.ndI h, hx⟩
theorem HK.sb0 (n : Int) : sbt n 0 = n := by rw [hk.sb_eq]; omega
theorem HK.ad0 (n : Int) : ad 0 n = n := by rw [hk.ad_eq]; omega
end
theorem fin_lowN {n0 : Nat} (m : Nat) (hm : n0 ≤ m) {R : AVal → Heap → Prop} {r r' : AVal} {h : Heap} (hw : Wk h r r') (hp : low m r' = true) (ho : lowOs m (h.take m) = true) (hR : R r' (h.take m)) : rFin n0 R r h := fun e0 e c hn hg he hv hu hx => by
 subst he
 have look : ∀ {i : Nat} {o : AObj}, (e.h.take m)[i]? = some o → i < m ∧ e.h[i]? = some o := fun {i o} ho => by
  rw [List.getElem?_take] at ho
  split at ho
  ·exact ⟨by assumption, ho⟩
  ·cases ho
 have own : ∀ b, Owned { e with h := e.h.take m } b → Owned e b := fun b ⟨i, o, h1, h2, h3⟩ => ⟨i, o, (look h1).2, h2, h3⟩
 refine ⟨r', { e with h := e.h.take m }, hR, rfl, ⟨fun i o h1 => ?_, fun i j oi oj b h1 h2 h3 h4 h5 h6 => hg.inj i j oi oj b (look h1).2 h2 (look h3).2 h4 h5 h6, hg.ps⟩, (hw e c hg rfl hv).low hp, ?_, ?_⟩
 ·exact ObjOK.low (hg.obj i o (look h1).2) (lowOs_get ho i o h1)
 ·exact ⟨hu.os, hu.tape, hu.output, hu.size, hu.frame, fun b hb => hu.own b (own b hb)⟩
 ·refine ⟨fun i o hi h1 => ?_, hx.ps, hx.cell, hx.size⟩
  obtain ⟨o', h2, h3⟩ := hx.obj i o hi h1
  refine ⟨o', ?_, h3⟩
  show (e.h.take m)[i]? = some o'
  rw [take_get (o := none) (by omega)]; exact h2
def Wks (h : Heap) : List AVal → List AVal → Prop
 | [], [] => True
 | a :: x, b :: y => Wk h a b ∧ Wks h x y
 | _, _ => False
theorem Wks.len {h : Heap} : ∀ {x y : List AVal}, Wks h x y → x.length = y.length
 | [], [], _ => rfl
 | _ :: x, _ :: y, hh => by simp [Wks.len hh.2]
theorem Wks.get {h : Heap} : ∀ {x y : List AVal}, Wks h x y → ∀ i, Wk h (x.getD i .junk) (y.getD i .junk)
 | [], [], _, i => by simp; exact .refl _ _
 | a :: x, b :: y, hh, 0 => hh.1
 | a :: x, b :: y, hh, i + 1 => by simpa using Wks.get hh.2 i
theorem Wk.tup {h : Heap} {x y : List AVal} (hh : Wks h x y) : Wk h (.tup x) (.tup y) := fun e c hg he hv => by
 have hl := hh.len
 cases hv with
 | pure _ _ hp => cases hp with
   | tup _ cs h1 h2 => exact .tup y cs (hl ▸ h1) fun i hi => hh.get i e _ hg he (.pure _ _ (h2 i (by omega)))
 | tup _ cs h1 h2 => exact .tup y cs (hl ▸ h1) fun i hi => hh.get i e _ hg he (h2 i (by omega))
theorem Wk.agg {h : Heap} {x y : List AVal} (hh : Wks h x y) : Wk h (.agg x) (.agg y) := fun e c hg he hv => by
 have hl := hh.len
 cases hv with
 | pure _ _ hp => cases hp with
   | agg _ cs h1 h2 => exact .agg y cs (hl ▸ h1) fun i hi => hh.get i e _ hg he (.pure _ _ (h2 i (by omega)))
 | agg _ cs h1 h2 => exact .agg y cs (hl ▸ h1) fun i hi => hh.get i e _ hg he (h2 i (by omega))
theorem Wk.nilL (h : Heap) (k : IntKind) : Wk h (.ls .nl .nil) (.ls (.il k []) .any) := Wk.trans (Wk.any h .nl .nil) (Wk.empty h rfl rfl trivial (.inl rfl))
end Go.AL
/-
  AL: a nil slice in a box told as a row that is empty.
-/
set_option linter.unusedSectionVars false
set_option linter.unusedVariables false
set_option linter.unusedSimpArgs false
namespace Go.AL
open Go
theorem GE.thawRow {h : Heap} (i j : Nat) (vs : List AVal) (q : LX) (hi : h[i]? = some (.box vs)) (hj : vs[j]? = some (.ls .nl .nil)) (hq : q.n = 0) :
 GE h ((h.set i (.box (vs.set j (.sl h.length 0 0 0)))) ++ [.rw 0 q]) := fun e hg he => by
 subst he
 obtain ⟨gt, ut, xt⟩ := thawR_env hg q hq
 have hil : i < e.h.length := (List.getElem?_eq_some_iff.1 hi).1
 have hjl : j < vs.length := (List.getElem?_eq_some_iff.1 hj).1
 have hit : (e.thawR q).h[i]? = some (.box vs) := by
  show (e.h ++ [AObj.rw 0 q])[i]? = _
  rw [List.getElem?_append_left hil]; exact hi
 let e2 : Env := { (e.thawR q) with h := (e.thawR q).h.set i (.box (vs.set j (.sl e.h.length 0 0 0))) }
 have hset : (e.thawR q).h.set i (.box (vs.set j (.sl e.h.length 0 0 0))) = (e.h.set i (.box (vs.set j (.sl e.h.length 0 0 0)))) ++ [.rw 0 q] := by
  show (e.h ++ [AObj.rw 0 q]).set i _ = _
  rw [List.set_append_left _ _ hil]
 have hitl : i < (e.thawR q).h.length := (List.getElem?_eq_some_iff.1 hit).1
 have look : ∀ k o, e2.h[k]? = some o → (k = i ∧ o = .box (vs.set j (.sl e.h.length 0 0 0))) ∨ (k ≠ i ∧ (e.thawR q).h[k]? = some o) := fun k o hk => by
  have hk : ((e.thawR q).h.set i (.box (vs.set j (.sl e.h.length 0 0 0))))[k]? = some o := hk
  by_cases hki : k = i
  ·subst hki
   rw [List.getElem?_set, if_pos rfl, if_pos hitl] at hk
   exact .inl ⟨rfl, (Option.some.inj hk).symm⟩
  ·rw [List.getElem?_set_ne (Ne.symm hki)] at hk
   exact .inr ⟨hki, hk⟩
 have x2 : Ext (e.thawR q).h.length (e.thawR q) e2 := by
  refine ⟨fun k o hk ho => ?_, fun _ => Nat.le_refl _, fun _ _ _ => rfl, fun _ => Nat.le_refl _⟩
  by_cases hki : k = i
  ·subst hki
   rw [hit] at ho
   cases ho
   exact ⟨.box (vs.set j (.sl e.h.length 0 0 0)), (by show ((e.thawR q).h.set k _)[k]? = _; rw [List.getElem?_set, if_pos rfl, if_pos hitl]), (by exact ⟨rfl, by simp⟩)⟩
  ·exact ⟨o, by show ((e.thawR q).h.set i _)[k]? = _; rw [List.getElem?_set_ne (Ne.symm hki)]; exact ho, OMono.kept rfl rfl k o⟩
 have vr : ∀ v c, VR (e.thawR q) v c → VR e2 v c := fun v c h => h.mono (Nat.le_refl _) x2
 have live : ∀ (k : Nat) (o : AObj), e2.h[k]? = some o → o.live = true → ∃ o', (e.thawR q).h[k]? = some o' ∧ o'.live = true := fun k o hk hl => by
  rcases look k o hk with ⟨rfl, rfl⟩ | ⟨_, h2⟩
  ·exact ⟨_, hit, rfl⟩
  ·exact ⟨o, h2, hl⟩
 have u2 : Upd (e.thawR q) e2 := ⟨rfl, rfl, rfl, Nat.le_refl _, fun _ _ _ => ⟨rfl, rfl⟩, fun b ⟨k, o, h1, h2, h3⟩ => by
  obtain ⟨o', h4, h5⟩ := live k o h1 h2
  exact .inl ⟨k, o', h4, h5, h3⟩⟩
 refine ⟨e2, rfl, ⟨fun k o hk => ?_, fun k m ok om b h1 h2 h3 h4 h5 h6 => ?_, gt.ps⟩, hset, ut.trans u2, xt.trans (x2.le (by simp [Env.thawR]))⟩
 ·rcases look k o hk with ⟨rfl, rfl⟩ | ⟨hne, ho⟩
  ·obtain ⟨b, cs, el, h1, h2, h3, h4, h5⟩ := gt.obj _ _ hit
   refine ⟨b, cs, el, h1, h2, by simpa using h3, h4, fun m hm => ?_⟩
   rw [List.length_set] at hm
   by_cases hmj : m = j
   ·subst hmj
    have h6 := h5 m hm
    have e1 : vs.getD m .junk = .ls .nl .nil := by simp [List.getD, hj]
    rw [e1] at h6
    have hc : cs.getD m undef = .slice none 0 0 := by
     revert h6
     generalize cs.getD m undef = c
     intro h6
     cases h6 with
     | pure _ _ hp => cases hp; rfl
    rw [hc, putCells_get_self _ _ _ hm]
    refine .sl e.h.length 0 0 0 _ rfl ?_
    have : e2.h[e.h.length]? = some (.rw 0 q) := by
     show ((e.thawR q).h.set k _)[e.h.length]? = _
     rw [List.getElem?_set_ne (by omega)]
     show (e.h ++ [AObj.rw 0 q])[e.h.length]? = _
     simp
    rw [this]
    exact ⟨Nat.le_refl _, fun _ => ⟨Int.le_refl _, Int.le_refl _, Int.natCast_nonneg _, .inl ⟨⟨_, rfl⟩, rfl, rfl, hq⟩⟩⟩
   ·have e1 : (vs.set j (.sl e.h.length 0 0 0)).getD m .junk = vs.getD m .junk := by simp [List.getD, List.getElem?_set_ne (Ne.symm hmj)]
    rw [e1]
    exact vr _ _ (h5 m hm)
  ·exact ObjOK.kept (e := (e.thawR q)) rfl rfl rfl vr (gt.obj k o ho)
 ·obtain ⟨o1, a1, a2⟩ := live k ok h1 h2
  obtain ⟨o2, a3, a4⟩ := live m om h3 h4
  exact gt.inj k m o1 o2 b a1 a2 a3 a4 h5 h6
theorem GE.link {h : Heap} (i j r : Nat) (vs : List AVal) (q : LX) (hi : h[i]? = some (.box vs)) (hj : vs[j]? = some (.ls .nl .nil)) (hr : h[r]? = some (.rw 0 q)) (hq : q.n = 0) :
 GE h (h.set i (.box (vs.set j (.sl r 0 0 0)))) := fun e gt he => by
 subst he
 have ut := Upd.refl e
 have xt := Ext.refl e.h.length e
 have hri : r ≠ i := fun h => by subst h; rw [hi] at hr; cases hr
 have hil : i < e.h.length := (List.getElem?_eq_some_iff.1 hi).1
 have hjl : j < vs.length := (List.getElem?_eq_some_iff.1 hj).1
 have hit : e.h[i]? = some (.box vs) := hi
 let e2 : Env := { e with h := e.h.set i (.box (vs.set j (.sl r 0 0 0))) }
 have hitl : i < e.h.length := (List.getElem?_eq_some_iff.1 hit).1
 have look : ∀ k o, e2.h[k]? = some o → (k = i ∧ o = .box (vs.set j (.sl r 0 0 0))) ∨ (k ≠ i ∧ e.h[k]? = some o) := fun k o hk => by
  have hk : (e.h.set i (.box (vs.set j (.sl r 0 0 0))))[k]? = some o := hk
  by_cases hki : k = i
  ·subst hki
   rw [List.getElem?_set, if_pos rfl, if_pos hitl] at hk
   exact .inl ⟨rfl, (Option.some.inj hk).symm⟩
  ·rw [List.getElem?_set_ne (Ne.symm hki)] at hk
   exact .inr ⟨hki, hk⟩
 have x2 : Ext e.h.length e e2 := by
  refine ⟨fun k o hk ho => ?_, fun _ => Nat.le_refl _, fun _ _ _ => rfl, fun _ => Nat.le_refl _⟩
  by_cases hki : k = i
  ·subst hki
   rw [hit] at ho
   cases ho
   exact ⟨.box (vs.set j (.sl r 0 0 0)), (by show (e.h.set k _)[k]? = _; rw [List.getElem?_set, if_pos rfl, if_pos hitl]), (by exact ⟨rfl, by simp⟩)⟩
  ·exact ⟨o, by show (e.h.set i _)[k]? = _; rw [List.getElem?_set_ne (Ne.symm hki)]; exact ho, OMono.kept rfl rfl k o⟩
 have vr : ∀ v c, VR e v c → VR e2 v c := fun v c h => h.mono (Nat.le_refl _) x2
 have live : ∀ (k : Nat) (o : AObj), e2.h[k]? = some o → o.live = true → ∃ o', e.h[k]? = some o' ∧ o'.live = true := fun k o hk hl => by
  rcases look k o hk with ⟨rfl, rfl⟩ | ⟨_, h2⟩
  ·exact ⟨_, hit, rfl⟩
  ·exact ⟨o, h2, hl⟩
 have u2 : Upd e e2 := ⟨rfl, rfl, rfl, Nat.le_refl _, fun _ _ _ => ⟨rfl, rfl⟩, fun b ⟨k, o, h1, h2, h3⟩ => by
  obtain ⟨o', h4, h5⟩ := live k o h1 h2
  exact .inl ⟨k, o', h4, h5, h3⟩⟩
 refine ⟨e2, rfl, ⟨fun k o hk => ?_, fun k m ok om b h1 h2 h3 h4 h5 h6 => ?_, gt.ps⟩, rfl, u2, x2⟩
 ·rcases look k o hk with ⟨rfl, rfl⟩ | ⟨hne, ho⟩
  ·obtain ⟨b, cs, el, h1, h2, h3, h4, h5⟩ := gt.obj _ _ hit
   refine ⟨b, cs, el, h1, h2, by simpa using h3, h4, fun m hm => ?_⟩
   rw [List.length_set] at hm
   by_cases hmj : m = j
   ·subst hmj
    have h6 := h5 m hm
    have e1 : vs.getD m .junk = .ls .nl .nil := by simp [List.getD, hj]
    rw [e1] at h6
    have hc : cs.getD m undef = .slice none 0 0 := by
     revert h6
     generalize cs.getD m undef = c
     intro h6
     cases h6 with
     | pure _ _ hp => cases hp; rfl
    rw [hc, putCells_get_self _ _ _ hm]
    refine .sl r 0 0 0 _ rfl ?_
    have : e2.h[r]? = some (.rw 0 q) := by
     show (e.h.set k _)[r]? = _
     rw [List.getElem?_set_ne (Ne.symm hri)]
     exact hr
    rw [this]
    exact ⟨Nat.le_refl _, fun _ => ⟨Int.le_refl _, Int.le_refl _, Int.natCast_nonneg _, .inl ⟨⟨_, rfl⟩, rfl, rfl, hq⟩⟩⟩
   ·have e1 : (vs.set j (.sl r 0 0 0)).getD m .junk = vs.getD m .junk := by simp [List.getD, List.getElem?_set_ne (Ne.symm hmj)]
    rw [e1]
    exact vr _ _ (h5 m hm)
  ·exact ObjOK.kept (e := e) rfl rfl rfl vr (gt.obj k o ho)
 ·obtain ⟨o1, a1, a2⟩ := live k ok h1 h2
  obtain ⟨o2, a3, a4⟩ := live m om h3 h4
  exact gt.inj k m o1 o2 b a1 a2 a3 a4 h5 h6
theorem GE.newRow {h : Heap} (q : LX) (hq : q.n = 0) : GE h (h ++ [.rw 0 q]) := fun e hg he => by
 subst he
 obtain ⟨gt, ut, xt⟩ := thawR_env hg q hq
 exact ⟨e.thawR q, rfl, gt, rfl, ut, xt⟩
end Go.AL
/-
  AL: a contract over a small heap is one over any heap that has its objects somewhere.
-/
set_option linter.unusedSectionVars false
set_option linter.unusedVariables false
set_option linter.unusedSimpArgs false
namespace Go.AL
open Go
mutual
/-- Objects' numbers told otherwise. -/
def rn (ρ : Nat → Nat) : AVal → AVal
 | .ls q (.tok i n) => .ls q (.tok (ρ i) n)
 | .sl i g lo hi => .sl (ρ i) g lo hi
 | .ptr i o => .ptr (ρ i) o
 | .pe i g ix o => .pe (ρ i) g ix o
 | .yld i => .yld (ρ i)
 | .hnd k i => .hnd k (ρ i)
 | .agg vs => .agg (rns ρ vs)
 | .tup vs => .tup (rns ρ vs)
 | .clo f a b => .clo f (rns ρ a) (rns ρ b)
 | .iface t v => .iface t (rn ρ v)
 | v => v
def rns (ρ : Nat → Nat) : List AVal → List AVal
 | [] => []
 | v :: r => rn ρ v :: rns ρ r
end
def rnl (ρ : Nat → Nat) : List (Nat × AVal) → List (Nat × AVal)
 | [] => []
 | (d, v) :: r => (d, rn ρ v) :: rnl ρ r
theorem rnl_get (ρ : Nat → Nat) : ∀ l t, tmL (rnl ρ l) t = rn ρ (tmL l t)
 | [], t => rfl
 | (d, v) :: r, t => by
   simp only [rnl, tmL]
   split
   ·rfl
   ·exact rnl_get ρ r t
def rno (ρ : Nat → Nat) : AObj → AObj
 | .box vs => .box (rns ρ vs)
 | .loop L => .loop { L with l := rnl ρ L.l }
 | o => o
def rnos (ρ : Nat → Nat) : List AObj → List AObj
 | [] => []
 | o :: r => rno ρ o :: rnos ρ r
def rho : List Nat → Nat → Nat → Nat
 | [], N, i => N + i
 | a :: _, _, 0 => a
 | _ :: r, N, i + 1 => rho r N i
def putH : List Nat → Heap → Heap → Heap
 | [], H, h => H ++ h
 | i :: r, H, o :: h => putH r (H.set i o) h
 | _ :: _, H, [] => H
def hasH (ρ : Nat → Nat) (H : Heap) : Nat → Heap → Prop
 | _, [] => True
 | i, o :: h => H[ρ i]? = some (rno ρ o) ∧ hasH ρ H (i + 1) h
def rwPure : Heap → Bool
 | [] => true
 | .rw _ (.gl s _) :: r => match shPure s with
   | true => rwPure r
   | false => false
 | _ :: r => rwPure r
theorem rns_len (ρ : Nat → Nat) : ∀ l, (rns ρ l).length = l.length
 | [] => rfl
 | v :: r => by simp [rns, rns_len ρ r]
theorem rns_get (ρ : Nat → Nat) : ∀ l j, j < l.length → (rns ρ l).getD j .junk = rn ρ (l.getD j .junk)
 | [], j, h => by simp at h
 | v :: r, 0, h => by simp [rns]
 | v :: r, j + 1, h => by simpa [rns] using rns_get ρ r j (by simpa using h)
theorem rnos_get (ρ : Nat → Nat) : ∀ (l : Heap) (j : Nat), (rnos ρ l)[j]? = l[j]?.map (rno ρ)
 | [], j => by simp [rnos]
 | v :: r, 0 => by simp [rnos]
 | v :: r, j + 1 => by simpa [rnos] using rnos_get ρ r j
theorem rnos_len (ρ : Nat → Nat) : ∀ l, (rnos ρ l).length = l.length
 | [] => rfl
 | v :: r => by simp [rnos, rnos_len ρ r]
theorem rwPure_get : ∀ {h : Heap}, rwPure h = true → ∀ (i : Nat) g s xs, h[i]? = some (.rw g (.gl s xs)) → shPure s = true
 | [], _, i, g, s, xs, hi => by simp at hi
 | o :: r, h, 0, g, s, xs, hi => by
   simp at hi
   subst hi
   unfold rwPure at h
   split at h
   ·assumption
   ·cases h
 | o :: r, h, i + 1, g, s, xs, hi => by
   have hr : rwPure r = true := by
    unfold rwPure at h
    split at h
    ·cases ‹_ = []›
    ·rename_i e
     split at h
     ·injection e with e1 e2; subst e2; exact h
     ·cases h
    ·rename_i e
     injection e with e1 e2; subst e2; exact h
   exact rwPure_get hr i g s xs (by simpa using hi)
theorem rho_lt (N : Nat) : ∀ (l : List Nat) i, i < l.length → rho l N i = l.getD i 0
 | [], i, h => by simp at h
 | a :: r, 0, h => by simp [rho]
 | a :: r, i + 1, h => by simpa [rho] using rho_lt N r i (by simpa using h)
theorem rho_ge (N : Nat) : ∀ (l : List Nat) i, l.length ≤ i → rho l N i = N + (i - l.length)
 | [], i, h => by simp [rho]
 | a :: r, 0, h => by simp at h
 | a :: r, i + 1, h => by
   rw [rho, rho_ge N r i (by simpa using h)]
   simp
theorem putH_other : ∀ (l : List Nat) (H h : Heap) (k : Nat), k < H.length → k ∉ l → (putH l H h)[k]? = H[k]?
 | [], H, h, k, hk, _ => by rw [putH, List.getElem?_append_left hk]
 | i :: r, H, o :: h, k, hk, hn => by
   simp only [List.mem_cons, not_or] at hn
   rw [putH, putH_other r _ h k (by simpa using hk) hn.2, List.getElem?_set_ne (Ne.symm hn.1)]
 | i :: r, H, [], k, hk, hn => rfl
theorem putH_at : ∀ (l : List Nat) (H h : Heap), l.Nodup → (∀ x ∈ l, x < H.length) → l.length ≤ h.length → ∀ i, (putH l H h)[rho l H.length i]? = h[i]?
 | [], H, h, _, _, _, i => by
   rw [putH, rho, List.getElem?_append_right (by omega)]
   simp
 | a :: r, H, [], _, _, hl, i => by simp at hl
 | a :: r, H, o :: h, hnd, hlt, hl, 0 => by
   rw [List.nodup_cons] at hnd
   have ha := hlt a (by simp)
   rw [putH, rho, putH_other r _ h a (by simpa using ha) hnd.1, List.getElem?_set_self ha]
   rfl
 | a :: r, H, o :: h, hnd, hlt, hl, i + 1 => by
   rw [List.nodup_cons] at hnd
   have := putH_at r (H.set a o) h hnd.2 (fun x hx => by simpa using hlt x (by simp [hx])) (by simpa using hl) i
   rw [List.length_set] at this
   rw [putH, rho, this]
   rfl
theorem hasH_get {ρ : Nat → Nat} {H : Heap} : ∀ {h : Heap} {j : Nat}, hasH ρ H j h → ∀ (i : Nat) o, h[i]? = some o → H[ρ (j + i)]? = some (rno ρ o)
 | [], j, _, i, o, hi => by simp at hi
 | a :: r, j, hh, 0, o, hi => by
   simp at hi; subst hi; exact hh.1
 | a :: r, j, hh, i + 1, o, hi => by
   have := hasH_get hh.2 i o (by simpa using hi)
   rwa [Nat.add_right_comm, Nat.add_assoc] at this
theorem rno_live (ρ : Nat → Nat) (o : AObj) : (rno ρ o).live = o.live := by cases o <;> rfl
theorem PVR.unrn {w : World} {ps : Nat → Nat} {ρ : Nat → Nat} {u : AVal} {c : Value} (h : PVR w ps u c) : ∀ v, u = rn ρ v → PVR w ps v c := by
 induction h with
 | agg vs cs hl hv ih =>
   intro v hv'
   cases v <;> (try simp only [rn] at hv') <;> first | (cases hv'; done) | skip
   case agg us =>
    injection hv' with hv'
    subst hv'
    rw [rns_len] at hl
    exact .agg us cs hl fun i hi => ih i (by rw [rns_len]; exact hi) _ (rns_get ρ us i hi)
   case ls q c => cases c <;> simp [rn] at hv'
 | tup vs cs hl hv ih =>
   intro v hv'
   cases v <;> (try simp only [rn] at hv') <;> first | (cases hv'; done) | skip
   case tup us =>
    injection hv' with hv'
    subst hv'
    rw [rns_len] at hl
    exact .tup us cs hl fun i hi => ih i (by rw [rns_len]; exact hi) _ (rns_get ρ us i hi)
   case ls q c => cases c <;> simp [rn] at hv'
 | clo f fs cs gs ds h1 h2 hf hc ih1 ih2 =>
   intro v hv'
   cases v <;> (try simp only [rn] at hv') <;> first | (cases hv'; done) | skip
   case clo g a b =>
    injection hv' with e1 e2 e3
    subst e1; subst e2; subst e3
    rw [rns_len] at h1 h2
    exact .clo f a b gs ds h1 h2 (fun i hi => ih1 i (by rw [rns_len]; exact hi) _ (rns_get ρ a i hi)) (fun i hi => ih2 i (by rw [rns_len]; exact hi) _ (rns_get ρ b i hi))
   case ls q c => cases c <;> simp [rn] at hv'
 | iface t x c hx ih =>
   intro v hv'
   cases v <;> (try simp only [rn] at hv') <;> first | (cases hv'; done) | skip
   case iface t' x' =>
    injection hv' with e1 e2
    subst e1
    exact .iface t x' c (ih x' e2)
   case ls q c => cases c <;> simp [rn] at hv'
 | ls q b off cap cv k1 k2 k3 k4 k5 k6 k7 ih =>
   intro v hv'
   cases v <;> (try simp only [rn] at hv') <;> first | (cases hv'; done) | skip
   case ls q' c' =>
    cases c' <;> simp only [rn] at hv' <;> cases hv'
    exact .ls q b off cap cv k1 k2 k3 k4 k5 k6 k7
 | lse q a hq hf =>
   intro v hv'
   cases v <;> (try simp only [rn] at hv') <;> first | (cases hv'; done) | skip
   case ls q' c' =>
    cases c' <;> simp only [rn] at hv' <;> cases hv'
    exact .lse q a hq hf
 | lsnil q c hq hf hc =>
   intro v hv'
   cases v <;> (try simp only [rn] at hv') <;> first | (cases hv'; done) | skip
   case ls q' c' =>
    cases c' <;> simp only [rn] at hv' <;> cases hv'
    ·exact .lsnil q _ hq hf (.inl rfl)
    ·exact .lsnil q _ hq hf (.inr rfl)
    ·rcases hc with hc | hc <;> cases hc
 | pp xs b off cv k1 k2 k3 ih =>
   intro v hv'
   cases v <;> (try simp only [rn] at hv') <;> first | (cases hv'; done) | skip
   case pp ys => cases hv'; exact .pp xs b off cv k1 k2 k3
   case ls q c => cases c <;> simp [rn] at hv'
 | bool b => intro v hv'; cases v <;> (try simp only [rn] at hv') <;> first | (cases hv'; first | exact .bool _ | done) | skip; (case ls q c => cases c <;> simp [rn] at hv')
 | int k n => intro v hv'; cases v <;> (try simp only [rn] at hv') <;> first | (cases hv'; first | exact .int _ _ | done) | skip; (case ls q c => cases c <;> simp [rn] at hv')
 | str s => intro v hv'; cases v <;> (try simp only [rn] at hv') <;> first | (cases hv'; first | exact .str _ | done) | skip; (case ls q c => cases c <;> simp [rn] at hv')
 | nilp => intro v hv'; cases v <;> (try simp only [rn] at hv') <;> first | (cases hv'; first | exact .nilp | done) | skip; (case ls q c => cases c <;> simp [rn] at hv')
 | nilf => intro v hv'; cases v <;> (try simp only [rn] at hv') <;> first | (cases hv'; first | exact .nilf | done) | skip; (case ls q c => cases c <;> simp [rn] at hv')
 | nili => intro v hv'; cases v <;> (try simp only [rn] at hv') <;> first | (cases hv'; first | exact .nili | done) | skip; (case ls q c => cases c <;> simp [rn] at hv')
 | und => intro v hv'; cases v <;> (try simp only [rn] at hv') <;> first | (cases hv'; first | exact .und | done) | skip; (case ls q c => cases c <;> simp [rn] at hv')
 | junk c => intro v hv'; cases v <;> (try simp only [rn] at hv') <;> first | (cases hv'; first | exact .junk _ | done) | skip; (case ls q c => cases c <;> simp [rn] at hv')
section
variable {e e' : Env} {ρ : Nat → Nat} {n : Nat}
theorem VR.unrn (hw : e'.w = e.w) (hps : e'.ps = e.ps) (hsg : ∀ i, i < n → e'.sg i = e.sg (ρ i)) (hh : ∀ i, i < n → e.h[ρ i]? = e'.h[i]?.map (rno ρ)) {u : AVal} {c : Value} (h : VR e u c) : ∀ v, u = rn ρ v → Go.AL.low n v = true → VR e' v c := by
 induction h with
 | pure v c h => intro v hv _; exact .pure _ _ (by rw [hw, hps]; exact h.unrn _ hv)
 | tok q i m c h ht =>
   intro v hv hl
   cases v <;> (try simp only [rn] at hv) <;> first | (cases hv; done) | skip
   case ls q' cp =>
    cases cp <;> simp only [rn] at hv <;> cases hv
    rename_i i'
    have hi : i' < n := by simpa [Go.AL.low] using hl
    refine .tok q i' m c (by rw [hw, hps]; exact h) ?_
    rw [hh i' hi] at ht
    revert ht
    cases e'.h[i']? with
    | none => exact fun h => h
    | some o =>
      cases o <;> simp only [Option.map_some, rno, tokAt] <;> first | exact id | skip
      intro ⟨h1, h2⟩
      refine ⟨h1, fun h3 => ?_⟩
      have h4 := h2 h3
      unfold endOK at h4 ⊢
      rw [hsg i' hi, hw, hps]
      exact h4
 | sl i g lo hi c h1 h =>
   intro v hv hl
   cases v <;> (try simp only [rn] at hv) <;> first | (cases hv; done) | skip
   case ls q' cp => cases cp <;> simp [rn] at hv
   case sl i' g' lo' hi' =>
    cases hv
    have hi2 : i' < n := by simpa [Go.AL.low] using hl
    refine .sl i' g lo hi c h1 ?_
    rw [hh i' hi2] at h
    revert h
    cases e'.h[i']? with
    | none => exact fun h => h
    | some o =>
      cases o <;> simp only [Option.map_some, rno, rwAt] <;> first | exact id | skip
      rw [hsg i' hi2, hw]
      exact id
 | ptr i off c h1 h =>
   intro v hv hl
   cases v <;> (try simp only [rn] at hv) <;> first | (cases hv; done) | skip
   case ls q' cp => cases cp <;> simp [rn] at hv
   case ptr i' off' =>
    cases hv
    have hi2 : i' < n := by simpa [Go.AL.low] using hl
    refine .ptr i' off c h1 ?_
    rw [hh i' hi2] at h
    revert h
    cases e'.h[i']? with
    | none => exact fun h => h
    | some o =>
      cases o <;> simp only [Option.map_some, rno, boxAt] <;> first | exact id | skip
      rw [hsg i' hi2, rns_len]
      exact id
 | pe i g ix off c h1 h =>
   intro v hv hl
   cases v <;> (try simp only [rn] at hv) <;> first | (cases hv; done) | skip
   case ls q' cp => cases cp <;> simp [rn] at hv
   case pe i' g' ix' off' =>
    cases hv
    have hi2 : i' < n := by simpa [Go.AL.low] using hl
    refine .pe i' g ix off c h1 ?_
    rw [hh i' hi2] at h
    revert h
    cases e'.h[i']? with
    | none => exact fun h => h
    | some o =>
      cases o <;> simp only [Option.map_some, rno, rwAt] <;> first | exact id | skip
      rw [hsg i' hi2]
      exact id
 | yld i c h1 h =>
   intro v hv hl
   cases v <;> (try simp only [rn] at hv) <;> first | (cases hv; done) | skip
   case ls q' cp => cases cp <;> simp [rn] at hv
   case yld i' =>
    cases hv
    have hi2 : i' < n := by simpa [Go.AL.low] using hl
    refine .yld i' c h1 ?_
    rw [hh i' hi2] at h
    revert h
    cases e'.h[i']? with
    | none => exact fun h => h
    | some o =>
      cases o <;> simp only [Option.map_some, rno, loopAt] <;> first | exact id | skip
      rw [hsg i' hi2]
      exact id
 | hnd k i c h1 h =>
   intro v hv hl
   cases v <;> (try simp only [rn] at hv) <;> first | (cases hv; done) | skip
   case ls q' cp => cases cp <;> simp [rn] at hv
   case hnd k' i' =>
    cases hv
    have hi2 : i' < n := by simpa [Go.AL.low] using hl
    refine .hnd _ i' c h1 ?_
    rw [hh i' hi2] at h
    revert h
    cases e'.h[i']? with
    | none => exact fun h => h
    | some o =>
      cases o <;> simp only [Option.map_some, rno, objAt] <;> first | exact id | skip
      rw [hsg i' hi2]
      exact id
 | agg vs cs hl hv ih =>
   intro v hv' hlo
   cases v <;> (try simp only [rn] at hv') <;> first | (cases hv'; done) | skip
   case ls q' cp => cases cp <;> simp [rn] at hv'
   case agg us =>
    injection hv' with hv'
    subst hv'
    rw [rns_len] at hl
    exact .agg us cs hl fun i hi => ih i (by rw [rns_len]; exact hi) _ (rns_get ρ us i hi) (lows_get (by simpa [Go.AL.low] using hlo) i hi)
 | tup vs cs hl hv ih =>
   intro v hv' hlo
   cases v <;> (try simp only [rn] at hv') <;> first | (cases hv'; done) | skip
   case ls q' cp => cases cp <;> simp [rn] at hv'
   case tup us =>
    injection hv' with hv'
    subst hv'
    rw [rns_len] at hl
    exact .tup us cs hl fun i hi => ih i (by rw [rns_len]; exact hi) _ (rns_get ρ us i hi) (lows_get (by simpa [Go.AL.low] using hlo) i hi)
 | clo f fs cs gs ds h1 h2 hf hc ih1 ih2 =>
   intro v hv' hlo
   cases v <;> (try simp only [rn] at hv') <;> first | (cases hv'; done) | skip
   case ls q' cp => cases cp <;> simp [rn] at hv'
   case clo g a b =>
    injection hv' with e1 e2 e3
    subst e1; subst e2; subst e3
    rw [rns_len] at h1 h2
    unfold Go.AL.low at hlo
    split at hlo
    ·rename_i ha
     exact .clo f a b gs ds h1 h2 (fun i hi => ih1 i (by rw [rns_len]; exact hi) _ (rns_get ρ a i hi) (lows_get ha i hi)) (fun i hi => ih2 i (by rw [rns_len]; exact hi) _ (rns_get ρ b i hi) (lows_get hlo i hi))
    ·cases hlo
 | iface t x c hx ih =>
   intro v hv' hlo
   cases v <;> (try simp only [rn] at hv') <;> first | (cases hv'; done) | skip
   case ls q' cp => cases cp <;> simp [rn] at hv'
   case iface t' x' =>
    injection hv' with e1 e2
    subst e1
    exact .iface t x' c (ih x' e2 (by simpa [Go.AL.low] using hlo))
theorem VR.rn (hw : e'.w = e.w) (hps : e'.ps = e.ps) (hsg : ∀ i o, e.h[i]? = some o → e'.sg (ρ i) = e.sg i) (hh : ∀ i o, e.h[i]? = some o → e'.h[ρ i]? = some (rno ρ o)) {v : AVal} {c : Value} (h : VR e v c) : VR e' (Go.AL.rn ρ v) c := by
 induction h with
 | pure v c h =>
   have key : ∀ v c, PVR e.w e.ps v c → PVR e'.w e'.ps (Go.AL.rn ρ v) c := fun v c h => by
    induction h with
    | agg vs cs hl hv ih => exact .agg _ cs (by rw [rns_len]; exact hl) fun i hi => by rw [rns_len] at hi; rw [rns_get ρ vs i hi]; exact ih i hi
    | tup vs cs hl hv ih => exact .tup _ cs (by rw [rns_len]; exact hl) fun i hi => by rw [rns_len] at hi; rw [rns_get ρ vs i hi]; exact ih i hi
    | clo f fs cs gs ds h1 h2 hf hc ih1 ih2 =>
      exact .clo f _ _ gs ds (by rw [rns_len]; exact h1) (by rw [rns_len]; exact h2) (fun i hi => by rw [rns_len] at hi; rw [rns_get ρ fs i hi]; exact ih1 i hi) (fun i hi => by rw [rns_len] at hi; rw [rns_get ρ cs i hi]; exact ih2 i hi)
    | iface t x c hx ih => exact .iface t _ c ih
    | lsnil q c hq hf hc =>
      rcases hc with rfl | rfl
      ·exact .lsnil q .any hq hf (.inl rfl)
      ·exact .lsnil q .nil hq hf (.inr rfl)
    | lse q a hq hf => exact .lse q a hq hf
    | ls q b off cap cv k1 k2 k3 k4 k5 k6 k7 _ => rw [hw, hps]; exact .ls q b off cap cv k1 k2 k3 k4 k5 k6 k7
    | pp xs b off cv k1 k2 k3 _ => rw [hw, hps]; exact .pp xs b off cv k1 k2 k3
    | bool b => exact .bool b
    | int k n => exact .int k n
    | str s => exact .str s
    | nilp => exact .nilp
    | nilf => exact .nilf
    | nili => exact .nili
    | und => exact .und
    | junk c => exact .junk c
   exact .pure _ _ (key v c h)
 | tok q i m c h ht =>
   refine .tok q (ρ i) m c (by rw [hw, hps]; exact h) ?_
   unfold tokAt at ht
   split at ht
   ·rename_i n' ho
    rw [hh i _ ho]
    refine ⟨ht.1, fun h3 => ?_⟩
    have h4 := ht.2 h3
    unfold endOK at h4 ⊢
    rw [hsg i _ ho, hw, hps]
    exact h4
   ·rename_i n' ho
    rw [hh i _ ho]; exact ht
   ·exact ht.elim
 | sl i g lo hi c h1 h =>
   refine .sl (ρ i) g lo hi c h1 ?_
   unfold rwAt at h
   split at h
   ·rename_i g' q ho
    rw [hh i _ ho]
    show g ≤ g' ∧ _
    rw [hsg i _ ho, hw]; exact h
   ·rename_i g' ho
    rw [hh i _ ho]; exact h
   ·exact h.elim
 | ptr i off c h1 h =>
   refine .ptr (ρ i) off c h1 ?_
   unfold boxAt at h
   split at h
   ·rename_i vs ho
    rw [hh i _ ho]
    show ∃ b, _
    rw [hsg i _ ho, rns_len]; exact h
   ·rename_i g' ho
    rw [hh i _ ho]; trivial
   ·exact h.elim
 | pe i g ix off c h1 h =>
   refine .pe (ρ i) g ix off c h1 ?_
   unfold rwAt at h
   split at h
   ·rename_i g' q ho
    rw [hh i _ ho]
    show g ≤ g' ∧ _
    rw [hsg i _ ho]; exact h
   ·rename_i g' ho
    rw [hh i _ ho]; exact h
   ·exact h.elim
 | agg vs cs hl hv ih => exact .agg _ cs (by rw [rns_len]; exact hl) fun i hi => by rw [rns_len] at hi; rw [rns_get ρ vs i hi]; exact ih i hi
 | tup vs cs hl hv ih => exact .tup _ cs (by rw [rns_len]; exact hl) fun i hi => by rw [rns_len] at hi; rw [rns_get ρ vs i hi]; exact ih i hi
 | clo f fs cs gs ds h1 h2 hf hc ih1 ih2 =>
   exact .clo f _ _ gs ds (by rw [rns_len]; exact h1) (by rw [rns_len]; exact h2) (fun i hi => by rw [rns_len] at hi; rw [rns_get ρ fs i hi]; exact ih1 i hi) (fun i hi => by rw [rns_len] at hi; rw [rns_get ρ cs i hi]; exact ih2 i hi)
 | yld i c h1 h =>
   refine .yld (ρ i) c h1 ?_
   unfold loopAt at h
   split at h
   ·rename_i r ho
    rw [hh i _ ho]
    show ∃ l, _
    rw [hsg i _ ho]; exact h
   ·rename_i g' ho
    rw [hh i _ ho]; trivial
   ·exact h.elim
 | hnd k i c h1 h =>
   refine .hnd k (ρ i) c h1 ?_
   unfold objAt at h
   split at h
   ·rename_i r ho
    rw [hh i _ ho]
    show ∃ l, _
    rw [hsg i _ ho]; exact h
   ·rename_i g' ho
    rw [hh i _ ho]; trivial
   ·exact h.elim
 | iface t v c h ih => exact .iface t _ c ih
end
theorem etaR_low {s : Sh} {x : AVal} (hs : shPure s = true) (hf : etaR s x = x) (n : Nat) : Go.AL.low n x = true := by rw [← hf]; exact eta_low n s x hs
theorem VR.of_low {e e' : Env} (hw : e'.w = e.w) (hps : e'.ps = e.ps) {v : AVal} {c : Value} (hl : Go.AL.low 0 v = true) (h : VR e v c) : VR e' v c := by
 have h6 : PVR e.w e.ps v c := VR.pureOf (e := { e with h := e.h.take 0 }) (h.low hl) (by simp)
 exact .pure _ _ (by rw [hw, hps]; exact h6)
theorem ObjOK.lt {e : Env} {i b : Nat} {o : AObj} (h : ObjOK e i o) (hl : o.live = true) (hb : e.sg i = some b) : b < e.w.heap.size := by
 cases o with
 | box vs => obtain ⟨b', cs, el, k1, k2, _⟩ := h; obtain rfl : b = b' := by rw [hb] at k1; exact Option.some.inj k1
             exact (Array.getElem?_eq_some_iff.1 k2).1
 | rw g q =>
   rcases h with ⟨_, k1⟩ | ⟨b', cs, el, k1, k2, _⟩
   ·rw [hb] at k1; cases k1
   ·obtain rfl : b = b' := by rw [hb] at k1; exact Option.some.inj k1
    exact (Array.getElem?_eq_some_iff.1 k2).1
 | tok n => obtain ⟨cs, el, k2⟩ := h b hb; exact (Array.getElem?_eq_some_iff.1 k2).1
 | loop r => obtain ⟨b', r2, k1, k2, _⟩ := h; obtain rfl : b = b' := by rw [hb] at k1; exact Option.some.inj k1
             exact (Array.getElem?_eq_some_iff.1 k2).1
 | obj r => obtain ⟨b', r2, k1, k2, _⟩ := h; obtain rfl : b = b' := by rw [hb] at k1; exact Option.some.inj k1
            exact (Array.getElem?_eq_some_iff.1 k2).1
 | dead g => cases hl
theorem rho_inj {l : List Nat} {N : Nat} (hnd : l.Nodup) (hlt : ∀ x ∈ l, x < N) {i j : Nat} (h : rho l N i = rho l N j) : i = j := by
 have lt : ∀ i, i < l.length → rho l N i = l.getD i 0 ∧ rho l N i < N := fun i hi => by
  rw [rho_lt N l i hi]
  refine ⟨rfl, hlt _ ?_⟩
  simp [List.getD, hi]
 by_cases hi : i < l.length <;> by_cases hj : j < l.length
 ·obtain ⟨a, _⟩ := lt i hi
  obtain ⟨b, _⟩ := lt j hj
  rw [a, b] at h
  simp only [List.getD, List.getElem?_eq_getElem hi, List.getElem?_eq_getElem hj, Option.getD_some] at h
  exact (List.getElem_inj hnd).1 h
 ·have := (lt i hi).2
  rw [h, rho_ge N l j (by omega)] at this
  omega
 ·have := (lt j hj).2
  rw [← h, rho_ge N l i (by omega)] at this
  omega
 ·rw [rho_ge N l i (by omega), rho_ge N l j (by omega)] at h
  omega
open Classical in
noncomputable def inv (ρ : Nat → Nat) (k : Nat) : Option Nat := if h : ∃ i, ρ i = k then some (Classical.choose h) else none
theorem inv_at {ρ : Nat → Nat} (hi : ∀ i j, ρ i = ρ j → i = j) (i : Nat) : inv ρ (ρ i) = some i := by
 have h : ∃ j, ρ j = ρ i := ⟨i, rfl⟩
 unfold inv
 rw [dif_pos h]
 exact congrArg some (hi _ _ (Classical.choose_spec h))
theorem inv_no {ρ : Nat → Nat} {k : Nat} (h : ∀ i, ρ i ≠ k) : inv ρ k = none := by
 unfold inv
 rw [dif_neg (by rintro ⟨i, hi⟩; exact h i hi)]
theorem Does.ren {P : Program} {f : FuncId} {args : List AVal} {h : Heap} {R : AVal → Heap → Prop} (hd : Does P f args h R) (l : List Nat) (H : Heap) (hl : l.length = h.length) (hnd : l.Nodup) (hlt : ∀ x ∈ l, x < H.length)
 (hH : hasH (rho l H.length) H 0 h) (ha : lows h.length args = true) (hlo : lowOs h.length h = true) (hR : ∀ r h', R r h' → rwPure h' = true) :
 Does P f (rns (rho l H.length) args) H (fun r' H' => ∃ r h', R r h' ∧ r' = Go.AL.rn (rho l H.length) r ∧ H' = putH l H (rnos (rho l H.length) h')) := by
 obtain ⟨N, hN⟩ : ∃ N, N = H.length := ⟨_, rfl⟩
 obtain ⟨ρ, hρ⟩ : ∃ ρ, ρ = rho l N := ⟨_, rfl⟩
 rw [← hN, ← hρ] at hH ⊢
 rw [← hN] at hlt
 have hinj : ∀ i j, ρ i = ρ j → i = j := fun i j h => by rw [hρ] at h; exact rho_inj hnd hlt h
 have hρlt : ∀ i, i < h.length → ρ i < N := fun i hi => by
  rw [hρ, rho_lt N l i (by omega)]
  refine hlt _ ?_
  simp [List.getD, show i < l.length by omega]
 have hρge : ∀ i, h.length ≤ i → ρ i = N + (i - h.length) := fun i hi => by rw [hρ, rho_ge N l i (by omega), hl]
 have hno : ∀ k, (∀ i, ρ i ≠ k) → k < N ∧ k ∉ l := fun k hk => by
  refine ⟨Nat.lt_of_not_le fun hge => hk (h.length + (k - N)) (by rw [hρge _ (by omega)]; omega), fun hm => ?_⟩
  obtain ⟨i, hi, he⟩ := List.mem_iff_getElem.1 hm
  refine hk i ?_
  rw [hρ, rho_lt N l i hi]
  simp [List.getD, hi, he]
 refine ⟨hd.1, fun e cs hg he hargs => ?_⟩
 subst he
 have hHs : ∀ (i : Nat) o, h[i]? = some o → e.h[ρ i]? = some (rno ρ o) := fun i o hi => by
  have := hasH_get hH i o hi
  rwa [Nat.zero_add] at this
 let es : Env := ⟨e.w, fun i => e.sg (ρ i), h, e.ps⟩
 have down : ∀ v c, VR e (Go.AL.rn ρ v) c → Go.AL.low h.length v = true → VR es v c := fun v c hv hlow =>
  VR.unrn (e := e) (e' := es) (n := h.length) rfl rfl (fun i _ => rfl) (fun i hi => by
   show e.h[ρ i]? = h[i]?.map (rno ρ)
   rw [List.getElem?_eq_getElem hi]
   exact hHs i _ (List.getElem?_eq_getElem hi)) hv v rfl hlow
 have hgs : Good es := by
  refine ⟨fun i o hi => ?_, fun i j oi oj b hi hil hj hjl si sj => ?_, hg.ps⟩
  ·have hi : h[i]? = some o := hi
   have hb := hg.obj _ _ (hHs i o hi)
   have hlo1 := lowOs_get hlo i o hi
   cases o with
   | box vs =>
     obtain ⟨b, c, el, h1, h2, h3, h4, h5⟩ := hb
     rw [rns_len] at h3 h5
     refine ⟨b, c, el, h1, h2, h3, h4, fun j hj => ?_⟩
     have := h5 j hj
     rw [rns_get ρ vs j hj] at this
     exact down _ _ this (lows_get hlo1 j hj)
   | rw g q =>
     rcases hb with h1 | ⟨b, c, el, h1, h2, h3, h4, h5, h6, h7⟩
     ·exact .inl h1
     ·refine .inr ⟨b, c, el, h1, h2, h3, h4, h5, h6, fun i j hi hj => ⟨VR.of_low (e := e) (e' := es) rfl rfl ?_ (h7 i j hi hj).1, (h7 i j hi hj).2⟩⟩
      have hc := h6 i hi
      cases q with
      | nl => simp [LX.n, LX.toL] at hi
      | il k l =>
        simp only [LX.n, LX.toL, List.length_map] at hi
        simp only [LX.k] at hj
        have : j = 0 := by omega
        subst this
        simp [LX.at_, LX.toL, List.getD, hi, AVal.cells, Go.AL.low]
      | gl s xs =>
        simp only [LX.n, LX.toL] at hi
        have hx : (LX.gl s xs).at_ i ∈ xs := by simp [LX.at_, LX.toL, List.getD, hi]
        exact lows_get (low_cells (etaR_low hlo1 (h5 _ hx) 0)) j (by rw [hc]; exact hj)
   | tok n => exact hb
   | loop r =>
     obtain ⟨b, r2, h1, h2, h3, h4⟩ := hb
     refine ⟨b, r2, h1, h2, h3, fun t => ?_⟩
     have := h4 t
     simp only [rnl_get] at this
     exact down _ _ this (lowL_get hlo1 t)
   | obj r =>
     obtain ⟨b, r2, h1, h2, h3⟩ := hb
     exact ⟨b, r2, h1, h2, h3⟩
   | dead g => trivial
  ·have hi : h[i]? = some oi := hi
   have hj : h[j]? = some oj := hj
   exact hinj _ _ (hg.inj (ρ i) (ρ j) _ _ b (hHs i oi hi) (by rw [rno_live]; exact hil) (hHs j oj hj) (by rw [rno_live]; exact hjl) si sj)
 have has : ArgsR es args cs := by
  refine ⟨by have := hargs.len; rwa [rns_len] at this, fun i hi => ?_⟩
  have := hargs.rel i (by rw [rns_len]; exact hi)
  rw [rns_get ρ args i hi] at this
  exact down _ _ this (lows_get ha i hi)
 refine Calls.mono (hd.2 es cs hgs rfl has) fun en w' hp => ?_
 cases en with
 | returned c =>
   obtain ⟨r, e1, hRr, hw, hg1, hv1, hu1, hx1⟩ := hp
   have hpure := hR _ _ hRr
   have hlen1 : h.length ≤ e1.h.length := by
    rcases Nat.eq_zero_or_pos h.length with h0 | h0
    ·omega
    ·obtain ⟨o', h1, _⟩ := hx1.obj (h.length - 1) (h[h.length - 1]) (by show h.length - 1 < h.length; omega) (by show h[h.length - 1]? = _; rw [List.getElem?_eq_getElem (by omega)])
     have := (List.getElem?_eq_some_iff.1 h1).1
     omega
   let sgb : Nat → Option Nat := fun k => match inv ρ k with
    | some i => e1.sg i
    | none => e.sg k
   have sg_at : ∀ i, sgb (ρ i) = e1.sg i := fun i => by simp only [sgb, inv_at hinj]
   have sg_no : ∀ k, (∀ i, ρ i ≠ k) → sgb k = e.sg k := fun k hk => by simp only [sgb, inv_no hk]
   let eb : Env := ⟨e1.w, sgb, putH l e.h (rnos ρ e1.h), e1.ps⟩
   have hb_at : ∀ i, eb.h[ρ i]? = e1.h[i]?.map (rno ρ) := fun i => by
    show (putH l e.h (rnos ρ e1.h))[ρ i]? = _
    rw [hρ, hN, putH_at l e.h _ hnd (by rw [← hN]; exact hlt) (by rw [rnos_len]; omega), ← hN, ← hρ, rnos_get]
   have hb_no : ∀ k, (∀ i, ρ i ≠ k) → eb.h[k]? = e.h[k]? := fun k hk => by
    obtain ⟨h1, h2⟩ := hno k hk
    exact putH_other l e.h _ k (by omega) h2
   have look : ∀ (k : Nat) o, eb.h[k]? = some o → (∃ i o', ρ i = k ∧ e1.h[i]? = some o' ∧ o = rno ρ o') ∨ ((∀ i, ρ i ≠ k) ∧ e.h[k]? = some o) := fun k o hk => by
    by_cases hex : ∃ i, ρ i = k
    ·obtain ⟨i, rfl⟩ := hex
     rw [hb_at] at hk
     cases h1 : e1.h[i]? with
     | none => rw [h1] at hk; cases hk
     | some o' =>
       rw [h1] at hk
       cases hk
       exact .inl ⟨i, o', rfl, h1, rfl⟩
    ·have hex' : ∀ i, ρ i ≠ k := fun i hi => hex ⟨i, hi⟩
     rw [hb_no k hex'] at hk
     exact .inr ⟨hex', hk⟩
   have up : ∀ v c, VR e1 v c → VR eb (Go.AL.rn ρ v) c := fun v c hv => VR.rn (e := e1) (e' := eb) rfl rfl (fun i o _ => sg_at i) (fun i o ho => by rw [hb_at, ho]; rfl) hv
   have ownS : ∀ b, Owned es b → Owned e b := fun b ⟨i, o, h1, h2, h3⟩ => ⟨ρ i, _, hHs i o h1, by rw [rno_live]; exact h2, h3⟩
   -- an object elsewhere is nobody's of the small heap
   have apart : ∀ (k : Nat) o b, (∀ i, ρ i ≠ k) → e.h[k]? = some o → o.live = true → e.sg k = some b → ¬ Owned es b := fun k o b hk ho hlv hs ⟨i, oi, h1, h2, h3⟩ =>
    hk i (hg.inj (ρ i) k _ o b (hHs i oi h1) (by rw [rno_live]; exact h2) ho hlv h3 hs)
   have fr : ∀ (k : Nat) o b, (∀ i, ρ i ≠ k) → e.h[k]? = some o → o.live = true → e.sg k = some b → e1.w.heap[b]? = e.w.heap[b]? ∧ e1.ps b = e.ps b := fun k o b hk ho hlv hs =>
    hu1.frame b ((hg.obj k o ho).lt hlv hs) (apart k o b hk ho hlv hs)
   have hext : Ext N e eb := by
    refine ⟨fun k o hk ho => ?_, hx1.ps, hx1.cell, hx1.size⟩
    by_cases hex : ∃ i, ρ i = k
    ·obtain ⟨i, rfl⟩ := hex
     have hi : i < h.length := Nat.lt_of_not_le fun hge => by have := hρge i hge; omega
     obtain ⟨o1, h1, hm⟩ := hx1.obj i h[i] hi (List.getElem?_eq_getElem hi)
     have h2 := hHs i _ (List.getElem?_eq_getElem hi)
     rw [h2] at ho
     cases ho
     refine ⟨rno ρ o1, by rw [hb_at, h1]; rfl, ?_⟩
     generalize h[i] = o0 at hm
     cases o0 <;> cases o1 <;> simp only [OMono, rno] at hm ⊢ <;> first | exact hm | skip
     ·exact ⟨(sg_at i).trans hm.1, by rw [rns_len, rns_len]; exact hm.2⟩
     ·exact ⟨hm.1, fun h => ⟨(sg_at i).trans (hm.2 h).1, (hm.2 h).2⟩⟩
     ·exact ⟨hm.1, fun h => ⟨(sg_at i).trans (hm.2 h).1, (hm.2 h).2⟩⟩
     ·exact (sg_at i).trans hm
     ·exact (sg_at i).trans hm
    ·have hex' : ∀ i, ρ i ≠ k := fun i hi => hex ⟨i, hi⟩
     refine ⟨o, by rw [hb_no k hex']; exact ho, ?_⟩
     have hs := sg_no k hex'
     cases o with
     | box vs => exact ⟨hs, rfl⟩
     | rw g q => exact ⟨Nat.le_refl _, fun _ => ⟨hs, rfl, rfl⟩⟩
     | tok n => exact ⟨Nat.le_refl _, fun _ => ⟨hs, fun b hb => (fr k _ b hex' ho rfl hb).2⟩⟩
     | loop r => exact hs
     | obj r => exact hs
     | dead g => exact Nat.le_refl _
   have mono : ∀ v c, VR e v c → VR eb v c := fun v c hv => hv.mono (by omega) hext
   refine ⟨Go.AL.rn ρ r, eb, ⟨r, e1.h, hRr, rfl, rfl⟩, hw, ⟨fun k o hk => ?_, fun k m ok om b hk hkl hm hml sk sm => ?_, hg1.ps⟩, up _ _ hv1, ⟨hu1.os, hu1.tape, hu1.output, hu1.size, fun b hb hno' => hu1.frame b hb (fun h => hno' (ownS b h)), fun b ⟨k, o, hk, hlv, hs⟩ => ?_⟩, hN ▸ hext⟩
   ·rcases look k o hk with ⟨i, o', rfl, h1, rfl⟩ | ⟨hex, h1⟩
    ·have hob := hg1.obj i o' h1
     cases o' with
     | box vs =>
       obtain ⟨b, c, el, k1, k2, k3, k4, k5⟩ := hob
       refine ⟨b, c, el, (sg_at i).trans k1, k2, by rw [rns_len]; exact k3, k4, fun j hj => ?_⟩
       rw [rns_len] at hj
       rw [rns_get ρ vs j hj]
       exact up _ _ (k5 j hj)
     | rw g q =>
       rcases hob with ⟨k1, k2⟩ | ⟨b, c, el, k1, k2, k3, k4, k5, k6, k7⟩
       ·exact .inl ⟨k1, (sg_at i).trans k2⟩
       ·refine .inr ⟨b, c, el, (sg_at i).trans k1, k2, k3, k4, k5, k6, fun x j hx hj => ⟨VR.of_low (e := e1) (e' := eb) rfl rfl ?_ (k7 x j hx hj).1, (k7 x j hx hj).2⟩⟩
        have hc := k6 x hx
        cases q with
        | nl => simp [LX.n, LX.toL] at hx
        | il k l =>
          simp only [LX.n, LX.toL, List.length_map] at hx
          simp only [LX.k] at hj
          have : j = 0 := by omega
          subst this
          simp [LX.at_, LX.toL, List.getD, hx, AVal.cells, Go.AL.low]
        | gl s xs =>
          simp only [LX.n, LX.toL] at hx
          have hxm : (LX.gl s xs).at_ x ∈ xs := by simp [LX.at_, LX.toL, List.getD, hx]
          exact lows_get (low_cells (etaR_low (rwPure_get hpure i g s xs h1) (k5 _ hxm) 0)) j (by rw [hc]; exact hj)
     | tok n => intro b hb; rw [show (eb.sg (ρ i)) = e1.sg i from sg_at i] at hb; exact hob b hb
     | loop r =>
       obtain ⟨b, r2, k1, k2, k3, k4⟩ := hob
       refine ⟨b, r2, (sg_at i).trans k1, k2, k3, fun t => ?_⟩
       simp only [rnl_get]
       exact up _ _ (k4 t)
     | obj r =>
       obtain ⟨b, r2, k1, k2, k3⟩ := hob
       exact ⟨b, r2, (sg_at i).trans k1, k2, k3⟩
     | dead g => trivial
    ·have hob := hg.obj k o h1
     have hs := sg_no k hex
     cases o with
     | box vs =>
       obtain ⟨b, c, el, k1, k2, k3, k4, k5⟩ := hob
       obtain ⟨f1, f2⟩ := fr k _ b hex h1 rfl k1
       exact ⟨b, c, el, hs.trans k1, f1.trans k2, k3, f2.trans k4, fun j hj => mono _ _ (k5 j hj)⟩
     | rw g q =>
       rcases hob with ⟨k1, k2⟩ | ⟨b, c, el, k1, k2, k3, k4, k5, k6, k7⟩
       ·exact .inl ⟨k1, hs.trans k2⟩
       ·obtain ⟨f1, f2⟩ := fr k _ b hex h1 rfl k1
        exact .inr ⟨b, c, el, hs.trans k1, f1.trans k2, k3, f2.trans k4, k5, k6, fun x j hx hj => ⟨mono _ _ (k7 x j hx hj).1, (k7 x j hx hj).2⟩⟩
     | tok n =>
       intro b hb
       rw [show eb.sg k = e.sg k from hs] at hb
       obtain ⟨c, el, k2⟩ := hob b hb
       exact ⟨c, el, (fr k _ b hex h1 rfl hb).1.trans k2⟩
     | loop r =>
       obtain ⟨b, r2, k1, k2, k3, k4⟩ := hob
       exact ⟨b, r2, hs.trans k1, (fr k _ b hex h1 rfl k1).1.trans k2, k3, fun t => mono _ _ (k4 t)⟩
     | obj r =>
       obtain ⟨b, r2, k1, k2, k3⟩ := hob
       exact ⟨b, r2, hs.trans k1, (fr k _ b hex h1 rfl k1).1.trans k2, k3⟩
     | dead g => trivial
   ·have mixed : ∀ (i m : Nat) o' om, e1.h[i]? = some o' → o'.live = true → e1.sg i = some b → (∀ j, ρ j ≠ m) → e.h[m]? = some om → om.live = true → e.sg m = some b → False := fun i m o' om h1 h2 h3 h4 h5 h6 h7 => by
     rcases hu1.own b ⟨i, o', h1, h2, h3⟩ with h8 | h8
     ·exact apart m om b h4 h5 h6 h7 h8
     ·have := (hg.obj m om h5).lt h6 h7
      have h8 : e.w.heap.size ≤ b := h8
      omega
    rcases look k ok hk with ⟨i, oi, rfl, hi, rfl⟩ | ⟨hex1, hk'⟩ <;> rcases look m om hm with ⟨j, oj, rfl, hj, rfl⟩ | ⟨hex2, hm'⟩
    ·rw [show eb.sg (ρ i) = e1.sg i from sg_at i] at sk
     rw [show eb.sg (ρ j) = e1.sg j from sg_at j] at sm
     rw [rno_live] at hkl hml
     rw [hg1.inj i j oi oj b hi hkl hj hml sk sm]
    ·rw [show eb.sg (ρ i) = e1.sg i from sg_at i] at sk
     rw [show eb.sg m = e.sg m from sg_no m hex2] at sm
     rw [rno_live] at hkl
     exact (mixed i m oi om hi hkl sk hex2 hm' hml sm).elim
    ·rw [show eb.sg k = e.sg k from sg_no k hex1] at sk
     rw [show eb.sg (ρ j) = e1.sg j from sg_at j] at sm
     rw [rno_live] at hml
     exact (mixed j k oj ok hj hml sm hex1 hk' hkl sk).elim
    ·rw [show eb.sg k = e.sg k from sg_no k hex1] at sk
     rw [show eb.sg m = e.sg m from sg_no m hex2] at sm
     exact hg.inj k m ok om b hk' hkl hm' hml sk sm
   ·rcases look k o hk with ⟨i, oi, rfl, hi, rfl⟩ | ⟨hex1, hk'⟩
    ·rw [show eb.sg (ρ i) = e1.sg i from sg_at i] at hs
     rw [rno_live] at hlv
     rcases hu1.own b ⟨i, oi, hi, hlv, hs⟩ with h8 | h8
     ·exact .inl (ownS b h8)
     ·exact .inr h8
    ·rw [show eb.sg k = e.sg k from sg_no k hex1] at hs
     exact .inl ⟨k, o, hk', hlv, hs⟩
 | _ => exact hp.elim
theorem Does.renI {P : Program} {f : FuncId} {args args' : List AVal} {h h' H H' : Heap} {r r' : AVal} (hd : Does P f args h (Is r h')) (l : List Nat) (hl : l.length = h.length) (hnd : l.Nodup) (hlt : l.all (fun x => Nat.blt x H.length) = true)
 (hH : hasH (rho l H.length) H 0 h) (ha : lows h.length args = true) (hlo : lowOs h.length h = true) (hR : rwPure h' = true) (ea : rns (rho l H.length) args = args') (er : Go.AL.rn (rho l H.length) r = r') (eh : putH l H (rnos (rho l H.length) h') = H') :
 Does P f args' H (Is r' H') := by
 subst ea; subst er; subst eh
 refine (hd.ren l H hl hnd (fun x hx => by simpa [Nat.blt_eq] using List.all_eq_true.1 hlt x hx) hH ha hlo (fun r1 h1 ⟨e1, e2⟩ => by subst e2; exact hR)).mono ?_
 rintro r1 h1 ⟨r2, h2, ⟨e1, e2⟩, e3, e4⟩
 subst e1; subst e2
 exact ⟨e3, e4⟩
end Go.AL
/-
  AL: arguments that came in, told off the cells, whatever their types: read by the table.
-/
set_option linter.unusedSectionVars false
set_option linter.unusedVariables false
set_option linter.unusedSimpArgs false
namespace Go.AL
open Go Go.ChangeShapes Go.WideShapes
def shC (T : Tab) : Nat → Nat → List Sh
 | 0, _ => [.any]
 | n + 1, t => match Tab.get? T t with
   | none => [.any]
   | some ti => match ti.d with
     | .int k => [.int k]
     | .bool => [.bool]
     | .str => [.str]
     | .slice e => match Tab.get? T e with
       | none => [.any]
       | some te => match te.d with
         | .int k => [.li k]
         | d => match d.isAgg with
           | true => [.lg (.rc (shC T n e))]
           | false => [.lg ((shC T n e).headD .any)]
     | .struct fs => fs.flatMap fun f => shC T n f.2
     | .array m e => (List.replicate m (shC T n e)).flatten
     | _ => [.any]
def shE (T : Tab) (n t : Nat) (agg : Bool) : Sh := match agg with
 | true => .rc (shC T n t)
 | false => (shC T n t).headD .any
def packE (agg : Bool) (c : List AVal) : AVal := match agg with
 | true => .agg c
 | false => c.getD 0 .junk
def tyFs (f : Nat → List AVal → Prop) : List (Nat × Nat) → List AVal → Prop
 | [], cs => cs = []
 | (_, t) :: r, cs => ∃ c d, cs = c ++ d ∧ f t c ∧ tyFs f r d
def tyN (f : List AVal → Prop) : Nat → List AVal → Prop
 | 0, cs => cs = []
 | m + 1, cs => ∃ c d, cs = c ++ d ∧ f c ∧ tyN f m d
def tyP (T : Tab) : Nat → Nat → List AVal → Prop
 | 0, _, _ => False
 | n + 1, t, cs => match Tab.get? T t with
   | none => False
   | some ti => match ti.d with
     | .bool => ∃ b, cs = [.bool b]
     | .int k => ∃ i, cs = [.int k i] ∧ (Lit.int k i).wf = true
     | .str => ∃ s, cs = [.str s] ∧ s.length ≤ maxLen
     | .slice e => match Tab.get? T e with
       | none => False
       | some te => match te.d with
         | .int k => ∃ l, cs = [.ls (.il k l) .any] ∧ l.length ≤ maxLen ∧ ∀ i ∈ l, (Lit.int k i).wf = true
         | d => ∃ xs, cs = [.ls (.gl (shE T n e d.isAgg) xs) .any] ∧ xs.length ≤ maxLen ∧ ∀ x ∈ xs, ∃ c, x = packE d.isAgg c ∧ tyP T n e c
     | .struct fs => tyFs (fun t c => tyP T n t c) fs cs
     | .array m e => tyN (fun c => tyP T n e c) m cs
     | _ => False
def okFs (T : Tab) (f : Nat → Bool) : List (Nat × Nat) → Nat → Nat → Bool
 | [], at_, sz => Nat.beq at_ sz
 | (off, t) :: r, at_, sz => Nat.beq off at_ && f t && (match Tab.get? T t with
   | some ti => okFs T f r (at_ + ti.sz) sz
   | none => false)
def okT (T : Tab) : Nat → Nat → Bool
 | 0, _ => false
 | n + 1, t => match Tab.get? T t with
   | none => false
   | some ti => match ti.d with
     | .bool | .int _ | .str => Nat.beq ti.sz 1
     | .slice e => Nat.beq ti.sz 1 && (match Tab.get? T e with
       | none => false
       | some te => (match te.d with
         | .int _ => Nat.beq te.sz 1
         | d => okT T n e && Nat.blt 0 te.sz && (d.isAgg || Nat.beq te.sz 1)))
     | .struct fs => okFs T (okT T n) fs 0 ti.sz
     | .array m e => okT T n e && (match Tab.get? T e with
       | none => false
       | some te => Nat.beq (m * te.sz) ti.sz)
     | _ => false
section
variable {H : Type} {enc : TypeId × Value → H} {P : Program} {T : Tab} (hT : TabOK P T) {w : World} {held : Bool}
theorem TIOK.cellsOf {t : Nat} {ti : TI} (h : TIOK P t ti) : P.cellsOf t = ti.sz := by
 obtain ⟨⟨info, z, d, hi, hs, _⟩, _⟩ := h
 simp [Program.cellsOf, hi, hs]
def Told (w : World) (as : List AVal) (cs : List Value) : Prop := as.length = cs.length ∧ ∀ i, i < as.length → PVR w (cellsSize w) (as.getD i .junk) (cs.getD i undef) ∧ (cs.getD i undef).oneCell' = true
theorem Told.nil (w : World) : Told w [] [] := ⟨rfl, fun i h => by simp at h⟩
theorem Told.one {w : World} {a : AVal} {c : Value} (h : PVR w (cellsSize w) a c) (h1 : c.oneCell' = true) : Told w [a] [c] := ⟨rfl, fun i hi => by
 have : i = 0 := by simp at hi; omega
 subst this; exact ⟨h, h1⟩⟩
theorem Told.append {w : World} {a b : List AVal} {c d : List Value} (h : Told w a c) (k : Told w b d) : Told w (a ++ b) (c ++ d) := by
 refine ⟨by simp [h.1, k.1], fun i hi => ?_⟩
 have hl := h.1
 by_cases hi2 : i < a.length
 ·have := h.2 i hi2
  simp only [List.getD] at this ⊢
  rw [List.getElem?_append_left hi2, List.getElem?_append_left (by omega)]
  exact this
 ·have := k.2 (i - a.length) (by simp at hi; omega)
  simp only [List.getD] at this ⊢
  rw [List.getElem?_append_right (by omega), List.getElem?_append_right (by omega), ← hl]
  exact this
theorem tyN_len {f : List AVal → Prop} {z : Nat} (hf : ∀ c, f c → c.length = z) : ∀ {m : Nat} {cs : List AVal}, tyN f m cs → cs.length = m * z
 | 0, cs, h => by simp only [tyN] at h; subst h; simp
 | m + 1, cs, h => by
   obtain ⟨x, y, rfl, hx, hy⟩ := h
   rw [List.length_append, hf x hx, tyN_len hf hy, Nat.add_mul]; omega
theorem tyFs_len {T : Tab} {f : Nat → List AVal → Prop} {g : Nat → Bool} (hf : ∀ t ti c, g t = true → Tab.get? T t = some ti → f t c → c.length = ti.sz) :
 ∀ {fs : List (Nat × Nat)} {at_ sz : Nat} {cs : List AVal}, okFs T g fs at_ sz = true → tyFs f fs cs → at_ + cs.length = sz
 | [], at_, sz, cs, hok, h => by simp only [tyFs] at h; subst h; simpa using Nat.eq_of_beq_eq_true hok
 | (off, t) :: r, at_, sz, cs, hok, h => by
   obtain ⟨x, y, rfl, hx, hy⟩ := h
   simp only [okFs, Bool.and_eq_true] at hok
   obtain ⟨⟨_, hg⟩, hr⟩ := hok
   split at hr
   ·rename_i ti hti
    have h1 := hf t ti x hg hti hx
    have h2 := tyFs_len hf hr hy
    rw [List.length_append]; omega
   ·cases hr
theorem tyP_len {n : Nat} : ∀ {t : Nat} {c : List AVal} {ti : TI}, okT T n t = true → Tab.get? T t = some ti → tyP T n t c → c.length = ti.sz := by
 induction n with
 | zero => intro t c ti h; simp [okT] at h
 | succ n ih =>
   intro t c ti hok hti h
   simp only [okT, tyP, hti] at hok h
   cases hd : ti.d <;> rw [hd] at hok h <;> simp only [] at hok h
   ·obtain ⟨i, rfl, _⟩ := h; exact (Nat.eq_of_beq_eq_true hok).symm
   ·obtain ⟨i, rfl⟩ := h; exact (Nat.eq_of_beq_eq_true hok).symm
   ·obtain ⟨i, rfl, _⟩ := h; exact (Nat.eq_of_beq_eq_true hok).symm
   ·rw [Bool.and_eq_true] at hok
    split at h
    ·exact h.elim
    ·split at h
     ·obtain ⟨i, rfl, _⟩ := h; exact (Nat.eq_of_beq_eq_true hok.1).symm
     ·obtain ⟨i, rfl, _⟩ := h; exact (Nat.eq_of_beq_eq_true hok.1).symm
   ·rename_i m e
    rw [Bool.and_eq_true] at hok
    split at hok
    ·cases hok.2
    ·rename_i te hte
     rw [← Nat.eq_of_beq_eq_true hok.2]
     exact tyN_len (fun c hc => ih hok.1 hte hc) h
   ·have := tyFs_len (fun t ti c h1 h2 h3 => ih h1 h2 h3) hok h
    omega
   all_goals simp at hok
def Fits (ss : List Sh) (as : List AVal) : Prop := ss.length = as.length ∧ ∀ j, j < as.length → etaR (ss.getD j .any) (as.getD j .junk) = as.getD j .junk
theorem Fits.nil : Fits [] [] := ⟨rfl, fun i h => by simp at h⟩
theorem Fits.one {s : Sh} {a : AVal} (h : etaR s a = a) : Fits [s] [a] := ⟨rfl, fun i hi => by
 have : i = 0 := by simp at hi; omega
 subst this; exact h⟩
theorem Fits.append {s t : List Sh} {a b : List AVal} (h : Fits s a) (k : Fits t b) : Fits (s ++ t) (a ++ b) := by
 refine ⟨by simp [h.1, k.1], fun i hi => ?_⟩
 have hl := h.1
 by_cases hi2 : i < a.length
 ·have := h.2 i hi2
  simp only [List.getD] at this ⊢
  rw [List.getElem?_append_left hi2, List.getElem?_append_left (by omega)]
  exact this
 ·have := k.2 (i - a.length) (by simp at hi; omega)
  simp only [List.getD] at this ⊢
  rw [List.getElem?_append_right (by omega), List.getElem?_append_right (by omega), hl]
  exact this
theorem tyN_fits {f : List AVal → Prop} {s : List Sh} (hf : ∀ c, f c → Fits s c) : ∀ {m : Nat} {cs : List AVal}, tyN f m cs → Fits (List.replicate m s).flatten cs
 | 0, cs, h => by simp only [tyN] at h; subst h; exact .nil
 | m + 1, cs, h => by
   obtain ⟨x, y, rfl, hx, hy⟩ := h
   rw [List.replicate_succ, List.flatten_cons]
   exact (hf x hx).append (tyN_fits hf hy)
theorem tyFs_fits {T : Tab} {f : Nat → List AVal → Prop} {g : Nat → Bool} {s : Nat → List Sh} (hf : ∀ t c, g t = true → f t c → Fits (s t) c) :
 ∀ {fs : List (Nat × Nat)} {at_ sz : Nat} {cs : List AVal}, okFs T g fs at_ sz = true → tyFs f fs cs → Fits (fs.flatMap fun f => s f.2) cs
 | [], at_, sz, cs, hok, h => by simp only [tyFs] at h; subst h; exact .nil
 | (off, t) :: r, at_, sz, cs, hok, h => by
   obtain ⟨x, y, rfl, hx, hy⟩ := h
   simp only [okFs, Bool.and_eq_true] at hok
   obtain ⟨⟨_, hg⟩, hr⟩ := hok
   split at hr
   ·rw [List.flatMap_cons]
    exact (hf t x hg hx).append (tyFs_fits hf hr hy)
   ·cases hr
theorem tyP_fits {n : Nat} : ∀ {t : Nat} {c : List AVal}, okT T n t = true → tyP T n t c → Fits (shC T n t) c := by
 induction n with
 | zero => intro t c h; simp [okT] at h
 | succ n ih =>
   intro t c hok h
   simp only [okT, tyP, shC] at hok h ⊢
   cases hti : Tab.get? T t with
   | none => rw [hti] at h; exact h.elim
   | some ti =>
   rw [hti] at hok h
   simp only [] at hok h ⊢
   cases hd : ti.d <;> rw [hd] at hok h <;> (try simp only [] at hok h ⊢)
   ·obtain ⟨i, rfl, _⟩ := h; exact .one rfl
   ·obtain ⟨i, rfl⟩ := h; exact .one rfl
   ·obtain ⟨i, rfl, _⟩ := h; exact .one rfl
   ·split at h
    ·exact h.elim
    ·rename_i te hte
     try simp only [hte]
     split at h
     ·rename_i k hk
      try simp only [hk]
      obtain ⟨i, rfl, _⟩ := h; exact .one rfl
     ·rename_i hk
      obtain ⟨xs, rfl, _⟩ := h
      unfold shE
      cases ha : te.d.isAgg
      all_goals
       (try simp only [])
       first
       | exact .one rfl
       | (split
          ·rename_i k hk'; exact absurd hk' (hk k)
          ·exact .one rfl)
   ·rename_i m e
    rw [Bool.and_eq_true] at hok
    exact tyN_fits (fun c hc => ih hok.1 hc) h
   ·exact tyFs_fits (fun t c h1 h2 => ih h1 h2) hok h
   all_goals (first | exact h.elim | (simp at hok))
theorem tyP_one {n : Nat} {t : Nat} {c : List AVal} {ti : TI} (hok : okT T n t = true) (hti : Tab.get? T t = some ti) (ha : ti.d.isAgg = false) (h : tyP T n t c) :
 ∃ v s, c = [v] ∧ (∀ vs, v ≠ .agg vs) ∧ shC T n t = [s] ∧ s.k = 1 := by
 cases n with
 | zero => exact h.elim
 | succ n =>
   simp only [okT, tyP, shC, hti] at hok h ⊢
   cases hd : ti.d <;> rw [hd] at hok h ha <;> (try simp only [] at hok h ⊢)
   ·obtain ⟨i, rfl, _⟩ := h; exact ⟨_, _, rfl, (fun _ h => by cases h), rfl, rfl⟩
   ·obtain ⟨i, rfl⟩ := h; exact ⟨_, _, rfl, (fun _ h => by cases h), rfl, rfl⟩
   ·obtain ⟨i, rfl, _⟩ := h; exact ⟨_, _, rfl, (fun _ h => by cases h), rfl, rfl⟩
   ·split at h
    ·exact h.elim
    ·rename_i te hte
     try simp only [hte]
     split at h
     ·rename_i k hk
      try simp only [hk]
      obtain ⟨i, rfl, _⟩ := h; exact ⟨_, _, rfl, (fun _ h => by cases h), rfl, rfl⟩
     ·rename_i hk
      obtain ⟨xs, rfl, _⟩ := h
      unfold shE
      cases ha : te.d.isAgg
      all_goals
       (try simp only [])
       first
       | exact ⟨_, _, rfl, (fun _ h => by cases h), rfl, rfl⟩
       | (split
          ·rename_i k hk'; exact absurd hk' (hk k)
          ·exact ⟨_, _, rfl, (fun _ h => by cases h), rfl, rfl⟩)
   ·cases ha
   ·cases ha
   all_goals (first | exact h.elim | (simp at hok))
theorem etasR_fits : ∀ {l : List Sh} {j : Nat} {x : AVal} {as : List AVal}, x.cells.drop j = as → Fits l as → etasR l j x = as
 | [], j, x, as, h, hf => by
   have := hf.1
   simp only [etasR]
   exact (List.eq_nil_of_length_eq_zero (by simpa using this.symm)).symm
 | s :: r, j, x, [], h, hf => by have := hf.1; simp at this
 | s :: r, j, x, a :: as, h, hf => by
   have h0 := hf.2 0 (by simp)
   have ha : rFc x j = a := by
    unfold rFc
    have := congrArg (fun l => l.getD 0 AVal.junk) h
    simpa [List.getD, List.getElem?_drop] using this
   simp only [etasR, ha]
   rw [show etaR s a = a by simpa using h0]
   congr 1
   refine etasR_fits (l := r) (j := j + 1) (x := x) (as := as) ?_ ⟨by simpa using hf.1, fun i hi => by simpa using hf.2 (i + 1) (by simpa using hi)⟩
   rw [← List.drop_drop, h]; rfl
theorem pack_fit {agg : Bool} {n t : Nat} {c : List AVal} (h : Fits (shC T n t) c) (h1 : agg = false → c.length = 1) : etaR (shE T n t agg) (packE agg c) = packE agg c := by
 unfold shE
 generalize shC T n t = l at h
 cases agg
 ·have hc := h1 rfl
  match c, hc, l, h.1 with
  | [a], _, [s], _ => simpa [packE] using h.2 0 (by simp)
 ·simp only [packE, etaR]
  rw [etasR_fits (as := c) (by simp [AVal.cells]) h]
theorem pack_cells {agg : Bool} {c : List AVal} (h1 : agg = false → c.length = 1) (hn : agg = false → ∀ vs, c.getD 0 .junk ≠ .agg vs) : (packE agg c).cells = c := by
 cases agg
 ·have hc := h1 rfl
  match c, hc with
  | [a], _ =>
    have := hn rfl
    simp only [packE, List.getD_cons_zero] at this ⊢
    cases a <;> first | rfl | (exact absurd rfl (this _))
 ·rfl
include hT in
theorem told_N {n : Nat} {e : Nat} {z : Nat} {m : Nat} {fuel : Nat} {cs : List Value} {xs : List (DataW H × List MemPlace)} (ih : ∀ {cs : List Value} {x : DataW H × List MemPlace}, DataW.trod enc P w 0 (fun _ => true) held fuel e cs = some x → ∃ as, Told w as cs ∧ tyP T n e as)
 (hl : cs.length = m * z) (hx : xs.length = m) (hf : ∀ i, i < m → DataW.trod enc P w 0 (fun _ => true) held fuel e ((cs.drop (i * z)).take z) = xs[i]?) : ∃ as, Told w as cs ∧ tyN (fun c => tyP T n e c) m as := by
 induction m generalizing cs xs with
 | zero => exact ⟨[], by rw [List.eq_nil_of_length_eq_zero (l := cs) (by simpa using hl)]; exact .nil w, rfl⟩
 | succ m ihm =>
   have h0 := hf 0 (by omega)
   rw [Nat.zero_mul, List.drop_zero, List.getElem?_eq_getElem (by omega)] at h0
   obtain ⟨as, ta, pa⟩ := ih h0
   rw [Nat.add_mul] at hl
   obtain ⟨bs, tb, pb⟩ := ihm (cs := cs.drop z) (xs := xs.drop 1) (by rw [List.length_drop]; omega) (by rw [List.length_drop]; omega) (fun i hi => by
    have := hf (i + 1) (by omega)
    rw [List.drop_drop, List.getElem?_drop, Nat.add_comm 1 i, ← this, Nat.add_mul, Nat.one_mul, Nat.add_comm])
   refine ⟨as ++ bs, ?_, as, bs, rfl, pa, pb⟩
   have := ta.append tb
   rwa [List.take_append_drop] at this
include hT in
theorem told_Fs {n fuel : Nat} (ih : ∀ {t : Nat} {cs : List Value} {x : DataW H × List MemPlace}, okT T n t = true → DataW.trod enc P w 0 (fun _ => true) held fuel t cs = some x → ∃ as, Told w as cs ∧ tyP T n t as) :
 ∀ {fs : List (Nat × Nat)} {at_ sz : Nat} {cs : List Value}, okFs T (okT T n) fs at_ sz = true → at_ + cs.length = sz →
  (∀ f ∈ fs, ∃ x, DataW.trod enc P w 0 (fun _ => true) held fuel f.2 ((cs.drop (f.1 - at_)).take (P.cellsOf f.2)) = some x) → ∃ as, Told w as cs ∧ tyFs (fun t c => tyP T n t c) fs as
 | [], at_, sz, cs, hok, hl, hf => by
   have := Nat.eq_of_beq_eq_true hok
   exact ⟨[], by rw [List.eq_nil_of_length_eq_zero (l := cs) (by omega)]; exact .nil w, rfl⟩
 | (off, t) :: r, at_, sz, cs, hok, hl, hf => by
   simp only [okFs, Bool.and_eq_true] at hok
   obtain ⟨⟨ho, hg⟩, hr⟩ := hok
   have ho := Nat.eq_of_beq_eq_true ho
   subst ho
   split at hr
   ·rename_i ti hti
    have hz := TIOK.cellsOf (hT _ _ hti)
    obtain ⟨x, hx⟩ := hf (off, t) (by simp)
    simp only [Nat.sub_self, List.drop_zero, hz] at hx
    obtain ⟨as, ta, pa⟩ := ih hg hx
    have hal := tyP_len hg hti pa
    have htl := ta.1
    rw [List.length_take] at htl
    have hge : ∀ (fs : List (Nat × Nat)) (a s : Nat), okFs T (okT T n) fs a s = true → ∀ f ∈ fs, a ≤ f.1 := by
     intro fs
     induction fs with
     | nil => intro a s _ f hf; simp at hf
     | cons g r ihr =>
       intro a s h f hf
       obtain ⟨o, u⟩ := g
       simp only [okFs, Bool.and_eq_true] at h
       obtain ⟨⟨h1, _⟩, h3⟩ := h
       have h1 := Nat.eq_of_beq_eq_true h1
       rcases List.mem_cons.1 hf with rfl | hf
       ·simp [h1]
       ·split at h3
        ·have := ihr _ _ h3 f hf; omega
        ·cases h3
    obtain ⟨bs, tb, pb⟩ := told_Fs ih (fs := r) (at_ := off + ti.sz) (sz := sz) (cs := cs.drop ti.sz) hr (by rw [List.length_drop]; omega) (fun f hfm => by
     obtain ⟨y, hy⟩ := hf f (by simp [hfm])
     refine ⟨y, ?_⟩
     have := hge r _ _ hr f hfm
     rw [List.drop_drop, show ti.sz + (f.1 - (off + ti.sz)) = f.1 - off by omega]
     exact hy)
    refine ⟨as ++ bs, ?_, as, bs, rfl, pa, pb⟩
    have := ta.append tb
    rwa [List.take_append_drop] at this
   ·cases hr
theorem pvr_slice {q : LX} {a : Addr} {len cap z : Nat} (hq : q.n = len) (hf : q.fit) (hz : len ≠ 0 → q.k = z) (hzp : 0 < z) (hcap : len ≤ cap) (hany : ∀ i, i < cap → ∃ cs, w.cells? 0 (a.add (i * z)) z = some cs)
 (hA : ∀ i, i < len → ∀ cs, w.cells? 0 (a.add (i * z)) z = some cs → Told w (q.at_ i).cells cs) : PVR w (cellsSize w) (.ls q .any) (.slice (some a) len cap) := by
 rcases Nat.eq_zero_or_pos cap with h0 | h0
 ·subst h0
  have : len = 0 := by omega
  subst this
  exact .lse q a hq hf
 ·obtain ⟨cs0, hc0⟩ := hany 0 h0
  obtain ⟨_, hl0, hg0⟩ := World.cells?_some hc0
  have hspot : a.spot = none := by
   have := hg0 0 hzp
   rw [List.getElem?_eq_getElem (by omega)] at this
   rw [Nat.zero_mul] at this
   have e : (a.add 0).add 0 = a := by simp [Addr.add]
   rw [e] at this
   unfold World.cell? at this
   split at this
   ·split at this
    ·cases this
    ·rename_i h; simpa using h
   ·cases this
  obtain ⟨b, off, spot⟩ := a
  simp only at hspot
  subst hspot
  have hadd : ∀ i j, ((⟨b, off, none⟩ : Addr).add i).add j = ⟨b, off + i + j, none⟩ := fun i j => by
   simp only [Addr.add]; split <;> split <;> simp_all <;> omega
  have hcell : ∀ i, i < cap → ∀ j, j < z → ∃ c, w.cell? ⟨b, off + i * z + j, none⟩ = some c := fun i hi j hj => by
   obtain ⟨cs, hc⟩ := hany i hi
   obtain ⟨_, hl, hg⟩ := World.cells?_some hc
   have := hg j hj
   rw [List.getElem?_eq_getElem (by omega), hadd] at this
   exact ⟨_, this⟩
  have htold : ∀ i, i < len → ∀ j, j < z → (q.at_ i).cells.length = z ∧ PVR w (cellsSize w) ((q.at_ i).cells.getD j .junk) ((w.cell? ⟨b, off + i * z + j, none⟩).getD undef) ∧ ((w.cell? ⟨b, off + i * z + j, none⟩).getD undef).oneCell' = true := fun i hi j hj => by
   obtain ⟨cs, hc⟩ := hany i (by omega)
   obtain ⟨_, hl, hg⟩ := World.cells?_some hc
   have ht := hA i hi cs hc
   have hlen := ht.1
   have h2 := ht.2 j (by omega)
   have := hg j hj
   rw [hadd] at this
   rw [this]
   exact ⟨by omega, h2⟩
  rw [← hq]
  refine .ls q b off cap (fun i j => (w.cell? ⟨b, off + i * q.k + j, none⟩).getD undef) (by omega) hf (fun i hi => ?_) (fun h => ?_) (fun i j hi hj => ?_) (fun i j hi hj => ?_) (fun i j hi hj => ?_)
  ·rw [hz (by omega)]; exact (htold i (by omega) 0 hzp).1
  ·have hk := hz (by omega)
   rw [hk]
   obtain ⟨c, hc⟩ := hcell (q.n - 1) (by omega) (z - 1) (by omega)
   have := ps_of_cell hc
   have h3 : (q.n - 1) * z + z = q.n * z := by rw [← Nat.succ_mul]; congr 1; omega
   omega
  ·have hk := hz (by omega)
   rw [hk] at hj ⊢
   obtain ⟨c, hc⟩ := hcell i (by omega) j hj
   rw [hc]; rfl
  ·have hk := hz (by omega)
   rw [hk] at hj ⊢
   exact (htold i (by omega) j hj).2.2
  ·have hk := hz (by omega)
   rw [hk] at hj ⊢
   exact (htold i (by omega) j hj).2.1
include hT in
theorem read_cells {n : Nat} : ∀ {fuel t : Nat} {cs : List Value} {x : DataW H × List MemPlace}, okT T n t = true → DataW.trod enc P w 0 (fun _ => true) held fuel t cs = some x → ∃ as, Told w as cs ∧ tyP T n t as := by
 induction n with
 | zero => intro fuel t cs x h; simp [okT] at h
 | succ n ih =>
   intro fuel t cs x hok h
   simp only [okT, tyP] at hok ⊢
   cases hti : Tab.get? T t with
   | none => rw [hti] at hok; cases hok
   | some ti =>
   rw [hti] at hok
   simp only [] at hok ⊢
   obtain ⟨d, hu, hdd⟩ := (hT _ _ hti).under
   cases hd : ti.d <;> rw [hd] at hok hdd <;> simp only [DOK] at hok hdd ⊢
   ·subst hdd
    obtain ⟨i, rfl, _, hw⟩ := DataW.trod_int hu h
    exact ⟨_, .one (.int _ _) rfl, i, rfl, hw⟩
   ·subst hdd
    obtain ⟨b, rfl, _⟩ := DataW.trod_bool hu h
    exact ⟨_, .one (.bool _) rfl, b, rfl⟩
   ·subst hdd
    obtain ⟨s, rfl, _, hs⟩ := DataW.trod_string hu h
    exact ⟨_, .one (.str _) rfl, _, rfl, by simpa using hs⟩
   ·rename_i e
    subst hdd
    rw [Bool.and_eq_true] at hok
    cases hte : Tab.get? T e with
    | none => rw [hte] at hok; cases hok.2
    | some te =>
    rw [hte] at hok
    have hz := TIOK.cellsOf (hT _ _ hte)
    have hok2 := hok.2
    simp only [] at hok2 ⊢
    rcases Go.Deep.open_slice hu h with ⟨rfl, _⟩ | ⟨a, len, cap, m, k, D, Pl, rfl, _, hl, hm, hmm, _, hx⟩
    ·split
     ·exact ⟨_, .one (.lsnil (.il _ []) .any rfl trivial (.inl rfl)) rfl, [], rfl, Nat.zero_le _, fun i hi => by simp at hi⟩
     ·exact ⟨_, .one (.lsnil (.gl _ []) .any rfl (fun x hx => by simp at hx) (.inl rfl)) rfl, [], rfl, Nat.zero_le _, fun i hi => by simp at hi⟩
    ·simp only [if_true] at hmm
     subst hmm
     rw [hz] at hx
     split
     ·rename_i k' hk'
      rw [hk'] at hok2
      have hz1 := Nat.eq_of_beq_eq_true hok2
      rw [hz1] at hx
      have hu2 : P.underlying e = some (.int k') := by
       obtain ⟨d2, hu2, hd2⟩ := (hT _ _ hte).under
       rw [hk'] at hd2
       simp only [DOK] at hd2
       rw [hu2, hd2]
      obtain ⟨Z, hZ⟩ := Go.Deep.choose_lt (α := Int) (n := m) (p := fun i v => w.cells? 0 (a.add (i * 1)) 1 = some [.int k' v] ∧ (Lit.int k' v).wf = true) (fun i hi => by
       obtain ⟨cs', h1, h2⟩ := hx i hi
       obtain ⟨v, rfl, _, hw⟩ := DataW.trod_int hu2 h2
       exact ⟨v, h1, hw⟩)
      have hn : (LX.il k' ((List.range len).map Z)).n = len := by simp [LX.n, LX.toL]
      refine ⟨_, .one (pvr_slice (z := 1) (q := .il k' ((List.range len).map Z)) hn trivial (fun _ => rfl) (by decide) hl (fun i hi => ⟨_, (hZ i hi).1⟩) (fun i hi cs hc => ?_)) rfl, _, rfl, ?_, ?_⟩
      ·rw [(hZ i (by omega)).1] at hc
       cases hc
       have : (LX.il k' ((List.range len).map Z)).at_ i = .int k' (Z i) := by simp [LX.at_, LX.toL, List.getD, hi]
       rw [this]
       exact .one (.int _ _) rfl
      ·simp; omega
      ·intro v hv
       simp only [List.mem_map, List.mem_range] at hv
       obtain ⟨i, hi, rfl⟩ := hv
       exact (hZ i (by omega)).2
     ·rename_i hk'
      have hok3 : okT T n e = true ∧ 0 < te.sz ∧ (te.d.isAgg = true ∨ te.sz = 1) := by
       split at hok2
       ·rename_i k' h; exact absurd h (hk' k')
       ·simp only [Bool.and_eq_true, Bool.or_eq_true] at hok2
        exact ⟨hok2.1.1, Nat.blt_eq.mp hok2.1.2, hok2.2.imp id Nat.eq_of_beq_eq_true⟩
      obtain ⟨hoke, hzp, hone⟩ := hok3
      obtain ⟨A, hA⟩ := Go.Deep.choose_lt (α := List AVal) (n := m) (p := fun i v => ∃ cs, w.cells? 0 (a.add (i * te.sz)) te.sz = some cs ∧ Told w v cs ∧ tyP T n e v) (fun i hi => by
       obtain ⟨cs', h1, h2⟩ := hx i hi
       obtain ⟨as, h3, h4⟩ := ih hoke h2
       exact ⟨as, cs', h1, h3, h4⟩)
      have hAlen : ∀ i, i < m → (A i).length = te.sz := fun i hi => by
       obtain ⟨cs, _, _, h3⟩ := hA i hi
       exact tyP_len hoke hte h3
      have h1f : ∀ i, i < m → te.d.isAgg = false → (A i).length = 1 := fun i hi h => by
       rw [hAlen i hi]
       rcases hone with h2 | h2
       ·rw [h] at h2; cases h2
       ·exact h2
      have hn : (LX.gl (shE T n e te.d.isAgg) ((List.range len).map fun i => packE te.d.isAgg (A i))).n = len := by simp [LX.n, LX.toL]
      have hat : ∀ i, i < len → (LX.gl (shE T n e te.d.isAgg) ((List.range len).map fun i => packE te.d.isAgg (A i))).at_ i = packE te.d.isAgg (A i) := fun i hi => by simp [LX.at_, LX.toL, List.getD, hi]
      have hk : len ≠ 0 → (LX.gl (shE T n e te.d.isAgg) ((List.range len).map fun i => packE te.d.isAgg (A i))).k = te.sz := fun h0 => by
       have h1 := hAlen 0 (by omega)
       obtain ⟨cs, _, _, h3⟩ := hA 0 (by omega)
       have hfit := tyP_fits hoke h3
       simp only [LX.k, shE]
       cases hag : te.d.isAgg
       ·simp only []
        rcases hone with h2 | h2
        ·rw [hag] at h2; cases h2
        ·rw [h2]
         obtain ⟨v, s, _, _, hs, hsk⟩ := tyP_one hoke hte hag h3
         rw [hs]
         exact hsk
       ·simp only [Sh.k]
        rw [hfit.1, h1]
      refine ⟨_, .one (pvr_slice (z := te.sz) (q := .gl (shE T n e te.d.isAgg) ((List.range len).map fun i => packE te.d.isAgg (A i))) hn ?_ hk hzp hl (fun i hi => ?_) (fun i hi cs hc => ?_)) rfl, _, rfl, ?_, ?_⟩
      ·intro x hx'
       simp only [List.mem_map, List.mem_range] at hx'
       obtain ⟨i, hi, rfl⟩ := hx'
       obtain ⟨cs, _, _, h3⟩ := hA i (by omega)
       exact pack_fit (tyP_fits hoke h3) (h1f i (by omega))
      ·obtain ⟨cs, h1, _⟩ := hA i hi
       exact ⟨cs, h1⟩
      ·obtain ⟨cs', h1, h2, h3⟩ := hA i (by omega)
       rw [h1] at hc
       cases hc
       rw [hat i hi, pack_cells (h1f i (by omega)) (fun hag vs hv => ?_)]
       ·exact h2
       ·obtain ⟨v', s, e1, e2, _⟩ := tyP_one hoke hte hag h3
        rw [e1] at hv
        exact e2 vs hv
      ·simp; omega
      ·intro x hx'
       simp only [List.mem_map, List.mem_range] at hx'
       obtain ⟨i, hi, rfl⟩ := hx'
       obtain ⟨cs, _, _, h3⟩ := hA i (by omega)
       exact ⟨_, rfl, h3⟩
   ·rename_i m e
    subst hdd
    rw [Bool.and_eq_true] at hok
    obtain ⟨xs, k, _, _, hl, hxl, hf⟩ := DataW.trod_array hu h
    cases hte : Tab.get? T e with
    | none => rw [hte] at hok; cases hok.2
    | some te =>
    rw [hte] at hok
    have hz := TIOK.cellsOf (hT _ _ hte)
    rw [hz] at hf
    rw [TIOK.cellsOf (hT _ _ hti), ← Nat.eq_of_beq_eq_true hok.2] at hl
    exact told_N hT (fun h => ih hok.1 h) hl hxl hf
   ·obtain ⟨fields, rfl, hfs⟩ := hdd
    obtain ⟨xs, k, _, _, hl, hxl, hf⟩ := DataW.trod_struct hu h
    refine told_Fs hT (fuel := k) (fun h1 h2 => ih h1 h2) hok (by rw [hl, TIOK.cellsOf (hT _ _ hti)]; omega) (fun f hfm => ?_)
    rw [← hfs] at hfm
    obtain ⟨g, hg, rfl⟩ := List.mem_map.1 hfm
    obtain ⟨i, hi, he⟩ := List.mem_iff_getElem.1 hg
    have hi' : i < fields.size := by simpa using hi
    have := hf i g (by rw [← Array.getElem?_toList]; rw [List.getElem?_eq_getElem hi, he])
    rw [List.getElem?_eq_getElem (by omega)] at this
    exact ⟨_, this⟩
   all_goals simp at hok
end
end Go.AL
/-
  AL: a law's statement from its contract: for arguments of whatever types the table has.
-/
set_option linter.unusedSectionVars false
set_option linter.unusedVariables false
set_option linter.unusedSimpArgs false
namespace Go.AL
open Go Go.ChangeShapes Go.WideShapes Go.RowKit
def tyV (T : Tab) (n t : Nat) (v : AVal) : Prop := match Tab.get? T t with
 | some ti => match ti.d.isAgg with
   | true => ∃ c, v = .agg c ∧ tyP T n t c
   | false => tyP T n t [v]
 | none => False
def tyVs (T : Tab) (n : Nat) : List Nat → List AVal → Prop
 | [], vs => vs = []
 | t :: ts, vs => ∃ v r, vs = v :: r ∧ tyV T n t v ∧ tyVs T n ts r
section
variable {H : Type} {enc : TypeId × Value → H} {P : Program} {T : Tab} (hT : TabOK P T)
include hT
theorem read_arg {W : World} {n t base : Nat} {c : Value} {d : DataW H} {ps : List MemPlace} (hok : okT T n t = true) (hv : Value.okWide P W .any base t c) (h : DataW.Trod enc P W 0 (fun _ => true) true t c d ps) :
 ∃ v, tyV T n t v ∧ PVR W (cellsSize W) v c := by
 obtain ⟨fuel, h⟩ := h
 obtain ⟨as, ht, hp⟩ := read_cells hT hok h
 cases n with
 | zero => exact hp.elim
 | succ n =>
 cases hti : Tab.get? T t with
 | none => simp only [okT, hti] at hok; cases hok
 | some ti =>
 have hlen := tyP_len hok hti hp
 obtain ⟨d, hu, hdd⟩ := (hT _ _ hti).under
 simp only [tyV, hti]
 have one : (∀ a, c ≠ .agg a) → (∃ x : List Value, c.cells.toList = x ∧ x.length = 1) → ti.d.isAgg = false → ∃ v, (match ti.d.isAgg with | true => ∃ c, v = .agg c ∧ tyP T (n + 1) t c | false => tyP T (n + 1) t [v]) ∧ PVR W (cellsSize W) v c := fun hne hx hag => by
  obtain ⟨x, hx, hx1⟩ := hx
  have hcc : c.cells.toList = [c] := by
   cases c <;> first | rfl | (exact absurd rfl (hne _))
  obtain ⟨v, s, rfl, hva, _⟩ := tyP_one hok hti hag hp
  rw [hcc] at ht
  rw [hag]
  exact ⟨v, hp, (ht.2 0 (by simp)).1⟩
 have agg : ∀ cs : Array Value, c = .agg cs → ti.d.isAgg = true → ∃ v, (match ti.d.isAgg with | true => ∃ c, v = .agg c ∧ tyP T (n + 1) t c | false => tyP T (n + 1) t [v]) ∧ PVR W (cellsSize W) v c := fun cs hc hag => by
  subst hc
  rw [hag]
  have ht1 : as.length = cs.size := by simpa [Value.cells] using ht.1
  refine ⟨.agg as, ⟨as, rfl, hp⟩, .agg as cs ht1 fun i hi => ?_⟩
  have := (ht.2 i hi).1
  simpa [Value.cells] using this
 cases hd : ti.d <;> rw [hd] at hdd <;> simp only [DOK] at hdd
 ·subst hdd
  obtain ⟨i, rfl⟩ := okWide_int hu hv
  rw [← hd]
  exact one (fun a h => by cases h) ⟨_, rfl, rfl⟩ (by rw [hd]; rfl)
 ·subst hdd
  obtain ⟨i, rfl⟩ := okWide_bool hu hv
  rw [← hd]
  exact one (fun a h => by cases h) ⟨_, rfl, rfl⟩ (by rw [hd]; rfl)
 ·subst hdd
  obtain ⟨i, rfl⟩ := okWide_string hu hv
  rw [← hd]
  exact one (fun a h => by cases h) ⟨_, rfl, rfl⟩ (by rw [hd]; rfl)
 ·subst hdd
  obtain ⟨a, l, m, rfl⟩ := okWide_slice hu hv
  rw [← hd]
  exact one (fun a h => by cases h) ⟨_, rfl, rfl⟩ (by rw [hd]; rfl)
 ·subst hdd
  rw [← hd]
  have hv' := hv
  simp only [Value.okWide, hu] at hv'
  obtain ⟨cs, h1, _⟩ := hv'
  exact agg cs h1 (by rw [hd]; rfl)
 ·obtain ⟨fields, rfl, _⟩ := hdd
  rw [← hd]
  have hv' := hv
  simp only [Value.okWide, hu] at hv'
  obtain ⟨cs, h1, _⟩ := hv'
  exact agg cs h1 (by rw [hd]; rfl)
 all_goals (simp only [okT, hti, hd] at hok; cases hok)
theorem read_args {W : World} {n base : Nat} : ∀ {ts : List TypeId} {cs : List Value} {ds : List (DataW H)} {ps : List MemPlace}, ts.all (okT T n) = true → (∀ (j : Nat) t v, ts[j]? = some t → cs[j]? = some v → Value.okWide P W .any base t v) →
 DataW.TrodAll enc P W 0 (fun _ => true) true ts cs ds ps → ∃ vs, tyVs T n ts vs ∧ vs.length = cs.length ∧ ∀ i, i < vs.length → PVR W (cellsSize W) (vs.getD i .junk) (cs.getD i undef)
 | [], cs, ds, ps, hok, hv, h => by
   obtain ⟨rfl, _, _⟩ := trodAll_nil h
   exact ⟨[], rfl, rfl, fun i hi => by simp at hi⟩
 | t :: ts, cs, ds, ps, hok, hv, h => by
   obtain ⟨c, cs', d, ds', p, q, rfl, rfl, rfl, hd, hrest⟩ := trodAll_cons h
   simp only [List.all_cons, Bool.and_eq_true] at hok
   obtain ⟨v, h1, h2⟩ := read_arg hT hok.1 (hv 0 t c rfl rfl) hd
   obtain ⟨vs, h3, h4, h5⟩ := read_args hok.2 (fun j t v ht hc => hv (j + 1) t v (by simpa using ht) (by simpa using hc)) hrest
   refine ⟨v :: vs, ⟨v, vs, rfl, h1, h3⟩, by simp [h4], fun i hi => ?_⟩
   cases i with
   | zero => exact h2
   | succ i => simpa using h5 i (by simpa using hi)
omit hT in
theorem args_again (hl : laidOutB P = true) {W W' : World} (hb : Below W.heap.size W W') : ∀ {ts : List TypeId} {cs : List Value} {ds : List (DataW H)} {ps : List MemPlace}, ts.all (fun t => P.readableRec t && decide (t < P.types.size)) = true →
 DataW.TrodAll enc P W 0 (fun _ => true) true ts cs ds ps → (∀ x ∈ ps, x.block < W.heap.size) → ∃ qs, DataW.TrodAll enc P W' 0 (fun b => decide (b < W.heap.size)) true ts cs ds qs
 | [], cs, ds, ps, hok, h, hlt => by
   obtain ⟨rfl, rfl, rfl⟩ := trodAll_nil h
   exact ⟨[], trodAll_mk0⟩
 | t :: ts, cs, ds, ps, hok, h, hlt => by
   obtain ⟨c, cs', d, ds', p, q, rfl, rfl, rfl, hd, hrest⟩ := trodAll_cons h
   simp only [List.all_cons, Bool.and_eq_true, decide_eq_true_eq] at hok
   obtain ⟨qs, hq⟩ := args_again hl hb hok.2 hrest (fun x hx => hlt x (by simp [hx]))
   exact ⟨_, trodAll_cons_mk (Below.trod hl hok.1.1 hok.1.2 hd hb (fun x hx => hlt x (by simp [hx]))) hq⟩
end
theorem trodAll_len {H : Type} {enc : TypeId × Value → H} {P : Program} {w : World} {base : Nat} {sp : Nat → Bool} {held : Bool} : ∀ {ts : List TypeId} {vs : List Value} {ds : List (DataW H)} {ps : List MemPlace},
 DataW.TrodAll enc P w base sp held ts vs ds ps → ds.length = ts.length
 | [], vs, ds, ps, h => by obtain ⟨_, rfl, _⟩ := trodAll_nil h; rfl
 | t :: ts, vs, ds, ps, h => by
   obtain ⟨c, cs', d, ds', p, q, rfl, rfl, rfl, hd, hrest⟩ := trodAll_cons h
   simp [trodAll_len hrest]
theorem law_lifted {C : Checked} {T : Tab} (hT : TabOK C.prog T) {f : FuncId} {fn : Func} {s : ChangeSpec} {conds : List PathCond} (n tb : Nat) {os : Os} (started : os.Started) {H : Type} (enc : TypeId × Value → H)
 (own : ownKnob C.prog.godebug = none) (laid : laidOutB C.prog = true) (noInit : C.prog.inits.idxOf? f = none) (hfn : C.prog.funcs[f]? = some fn)
 (witness : ∃ (w : World) (tape : Tape) (i : Input), w.os = os ∧ (w.forCall tape i).Shaped C.prog ∧ i.vars = [] ∧ Input.okWide C.prog (w.forCall tape i) .any w.heap.size f i ∧
   s.pre6 enc C.prog fn conds false (w.forCall tape i).memory i.args ∧ ({} : Assume).holds C.prog (lone (Frame.enter C.prog f i.args .normal) [] (w.forCall tape i)))
 (hvars : s.vars = []) (hs : ∀ ds : List (DataW H), ds.length = fn.params.toList.length → s.fn H ds = { results := [.lit (.bool true)], args := ds })
 (hr : fn.resultTypes = #[tb]) (htb : C.prog.underlying tb = some .bool) (hok : fn.params.toList.all (okT T n) = true) (hok2 : fn.params.toList.all (fun t => C.prog.readableRec t && decide (t < C.prog.types.size)) = true)
 (law : ∀ vs, tyVs T n fn.params.toList vs → Does C.prog f vs [] (Is (.bool true) [])) :
 ReturnsInHanded {} C os f .any (s.pre6 enc C.prog fn conds false) (s.post enc C.prog fn false true false false) := by
 refine returnsInHanded_of_change (C := C) own started noInit hfn witness ?_
 intro W base args ds gs before hval hW hcnd _
 have hW' := hW
 obtain ⟨p, q, hA, hV, rfl, hfz, hnd⟩ := hW
 rw [hvars] at hV
 obtain ⟨rfl, rfl⟩ := trodVars_none hV
 have hlt : ∀ x ∈ p, x.block < W.heap.size := fun x hx => hW'.lt x (by simp [hx])
 obtain ⟨vs, hty, hvl, hpv⟩ := read_args hT (base := base) hok (fun j t v ht hc => hval j t v (by simpa using ht) (by simpa using hc)) hA
 have walk : Calls C.prog f args W fun e W' => e = .returned (.bool true) ∧ Below W.heap.size W W' := bridge_law (law vs hty) (by simpa using hvl) (fun i hi => by simpa using hpv i hi)
 refine Calls.mono walk fun e W' ⟨he, hb⟩ => ?_
 subst he
 refine ⟨_, rfl, ?_⟩
 obtain ⟨qs, hq⟩ := args_again laid hb hok2 hA hlt
 have hdl := trodAll_len hA
 have hfn' := hs (ds ++ []) (by simpa using hdl)
 refine ⟨ds, [], _, [], qs, [], hW', ?_, ?_, ?_, hb.frame _, fun h => by cases h⟩
 ·rw [hfn', hr]
  exact trodAll_mk1 (shut_bool htb true)
 ·rw [hfn', List.append_nil]
  exact hq
 ·rw [hvars]
  have : (s.fn H (ds ++ [])).vars = [] := by rw [hfn']
  rw [this]
  rfl
end Go.AL
/-
  AL: a row that nobody writes any more is told as a list.
-/
set_option linter.unusedSectionVars false
set_option linter.unusedVariables false
set_option linter.unusedSimpArgs false
namespace Go.AL
open Go
def subR : LX → Int → Int → LX
 | .nl, _, _ => .nl
 | .il k l, a, b => .il k (rSub l a b)
 | .gl s xs, a, b => .gl s (rSub xs a b)
mutual
/-- A slice of row i told as the list that it is. -/
def rz (i g : Nat) (q : LX) : AVal → AVal
 | .sl j g' lo hi => match Nat.beq j i with
   | true => match Nat.beq g' g with
     | true => .ls (subR q lo hi) .any
     | false => .junk
   | false => .sl j g' lo hi
 | .pe j g' x o => match Nat.beq j i with
   | true => .junk
   | false => .pe j g' x o
 | .agg us => .agg (rzs i g q us)
 | .tup us => .tup (rzs i g q us)
 | .clo f a b => .clo f (rzs i g q a) (rzs i g q b)
 | .iface t v => .iface t (rz i g q v)
 | v => v
def rzs (i g : Nat) (q : LX) : List AVal → List AVal
 | [] => []
 | v :: r => rz i g q v :: rzs i g q r
end
theorem rzs_len (i g : Nat) (q : LX) : ∀ l, (rzs i g q l).length = l.length
 | [] => rfl
 | v :: r => by simp [rzs, rzs_len i g q r]
theorem rzs_get (i g : Nat) (q : LX) : ∀ l j, j < l.length → (rzs i g q l).getD j .junk = rz i g q (l.getD j .junk)
 | [], j, h => by simp at h
 | v :: r, 0, h => by simp [rzs]
 | v :: r, j + 1, h => by simpa [rzs] using rzs_get i g q r j (by simpa using h)
def LX.pureB : LX → Bool
 | .gl s _ => shPure s
 | _ => true
def Env.rz (e : Env) (i g : Nat) (b? : Option Nat) (n : Nat) : Env := ⟨e.w, e.sg, e.h.set i (.dead g), fun b' => if some b' = b? then n else e.ps b'⟩
section
variable {e : Env} (hg : Good e) {i g : Nat} {q : LX} (hi : e.h[i]? = some (.rw g q))
include hg hi
theorem rz_env : ∃ b?, e.sg i = b? ∧ (b? = none → q.n = 0) ∧ (∀ b, b? = some b → Owned e b) ∧ (q.n = 0 ∧ b? = none ∨ ∃ b cs el, b? = some b ∧ e.w.heap[b]? = some (.cells cs el (0, 0)) ∧ q.n * q.k ≤ cs.size ∧ q.fit ∧ (∀ i, i < q.n → (q.at_ i).cells.length = q.k) ∧
 ∀ i j, i < q.n → j < q.k → VR e ((q.at_ i).cells.getD j .junk) (cs.getD (i * q.k + j) undef) ∧ (cs.getD (i * q.k + j) undef).oneCell' = true) ∧
 Good (e.rz i g b? (q.n * q.k)) ∧ ∀ n, Ext n e (e.rz i g b? (q.n * q.k)) := by
 have hil : i < e.h.length := (List.getElem?_eq_some_iff.1 hi).1
 have hob := hg.obj i _ hi
 have hps : ∀ b, e.sg i = some b → e.ps b = 0 ∧ ∃ cs el, e.w.heap[b]? = some (.cells cs el (0, 0)) ∧ q.n * q.k ≤ cs.size := fun b hb => by
  rcases hob with ⟨_, h2⟩ | ⟨b', cs, el, h1, h2, h3, h4, _⟩
  ·rw [hb] at h2; cases h2
  ·obtain rfl : b = b' := by rw [hb] at h1; exact Option.some.inj h1
   exact ⟨h4, cs, el, h2, h3⟩
 have other : ∀ j o b', j ≠ i → e.h[j]? = some o → o.live = true → e.sg j = some b' → some b' ≠ e.sg i := fun j o b' hne ho hl hs hb => by
  exact hne (hg.inj j i o _ b' ho hl hi rfl hs hb.symm)
 have hext : ∀ n, Ext n e (e.rz i g (e.sg i) (q.n * q.k)) := fun n => by
  refine ⟨fun j o hj ho => ?_, fun b' => ?_, fun b' o ho => rfl, fun b' => Nat.le_refl _⟩
  ·by_cases hji : j = i
   ·subst hji
    rw [hi] at ho
    cases ho
    exact ⟨.dead g, by simp [Env.rz, hil], Nat.le_refl _⟩
   ·refine ⟨o, by simp [Env.rz, List.getElem?_set_ne (Ne.symm hji), ho], ?_⟩
    cases o with
    | box us => exact ⟨rfl, rfl⟩
    | rw g q => exact ⟨Nat.le_refl _, fun _ => ⟨rfl, rfl, rfl⟩⟩
    | tok n => exact ⟨Nat.le_refl _, fun _ => ⟨rfl, fun b' hb' => if_neg (other j _ b' hji ho rfl hb')⟩⟩
    | loop r => exact rfl
    | obj r => exact rfl
    | dead g => exact Nat.le_refl _
  ·show e.ps b' ≤ if some b' = e.sg i then q.n * q.k else e.ps b'
   split
   ·rename_i h; rw [(hps b' h.symm).1]; exact Nat.zero_le _
   ·exact Nat.le_refl _
 have vr : ∀ v c, VR e v c → VR (e.rz i g (e.sg i) (q.n * q.k)) v c := fun v c h => h.mono (Nat.le_refl _) (hext _)
 refine ⟨e.sg i, rfl, fun h => ?_, fun b hb => ⟨i, _, hi, rfl, hb⟩, ?_, ⟨fun j o ho => ?_, ?_, fun b' => ?_⟩, hext⟩
 ·rcases hob with ⟨h1, _⟩ | ⟨b', _, _, h1, _⟩
  ·exact h1
  ·rw [h] at h1; cases h1
 ·rcases hob with ⟨h1, h2⟩ | ⟨b', cs, el, h1, h2, h3, h4, h5, h6, h7⟩
  ·exact .inl ⟨h1, h2⟩
  ·exact .inr ⟨b', cs, el, h1, h2, h3, h5, h6, h7⟩
 ·by_cases hji : j = i
  ·subst hji
   simp [Env.rz, hil] at ho
   subst ho
   trivial
  ·have ho' : e.h[j]? = some o := by simpa [Env.rz, List.getElem?_set_ne (Ne.symm hji)] using ho
   have hob := hg.obj j o ho'
   cases o with
   | box us =>
     obtain ⟨b', cs', el', k1, k2, k3, k4, k5⟩ := hob
     exact ⟨b', cs', el', k1, k2, k3, (if_neg (other j _ b' hji ho' rfl k1)).trans k4, fun m hm => vr _ _ (k5 m hm)⟩
   | rw g q =>
     rcases hob with k | ⟨b', cs', el', k1, k2, k3, k4, k5, k6, k7⟩
     ·exact .inl k
     ·exact .inr ⟨b', cs', el', k1, k2, k3, (if_neg (other j _ b' hji ho' rfl k1)).trans k4, k5, k6, fun m n hm hn => ⟨vr _ _ (k7 m n hm hn).1, (k7 m n hm hn).2⟩⟩
   | tok n => exact hob
   | loop r => obtain ⟨b2, r2, k1, k2, k3, k4⟩ := hob; exact ⟨b2, r2, k1, k2, k3, fun t => vr _ _ (k4 t)⟩
   | obj r => obtain ⟨b2, r2, k1, k2, k3⟩ := hob; exact ⟨b2, r2, k1, k2, k3⟩
   | dead g => trivial
 ·intro j k oj ok b' hj hjl hk hkl sj sk
  have hji : j ≠ i := fun h => by subst h; simp [Env.rz, hil] at hj; subst hj; cases hjl
  have hki : k ≠ i := fun h => by subst h; simp [Env.rz, hil] at hk; subst hk; cases hkl
  exact hg.inj j k oj ok b' (by simpa [Env.rz, List.getElem?_set_ne (Ne.symm hji)] using hj) hjl (by simpa [Env.rz, List.getElem?_set_ne (Ne.symm hki)] using hk) hkl sj sk
 ·show (if some b' = e.sg i then q.n * q.k else e.ps b') ≤ cellsSize e.w b'
  split
  ·rename_i h
   obtain ⟨_, cs, el, h2, h3⟩ := hps b' h.symm
   unfold cellsSize
   rw [h2]
   exact h3
  ·exact hg.ps b'
theorem subR_n (lo hh : Int) (h0 : 0 ≤ lo) (h1 : lo ≤ hh) (h2 : hh ≤ q.n) : (subR q lo hh).n = (hh - lo).toNat := by
 cases q with
 | nl => simp only [subR, LX.n, LX.toL, List.length_nil] at h2 ⊢; have : (0 : Int) = hh - lo := by simp at h2; omega
         omega
 | il k l =>
   simp only [subR, LX.n, LX.toL, List.length_map] at h2 ⊢
   exact rSub_length l lo hh h0 h1 h2
 | gl s xs =>
   simp only [subR, LX.n, LX.toL] at h2 ⊢
   exact rSub_length xs lo hh h0 h1 h2
theorem subR_toL (lo hh : Int) : (subR q lo hh).toL = rSub q.toL lo hh := by
 cases q <;> simp [subR, LX.toL, rSub, List.map_take, List.map_drop]
theorem subR_k (lo hh : Int) : (subR q lo hh).k = q.k := by cases q <;> rfl
theorem subR_fit (lo hh : Int) (h : q.fit) : (subR q lo hh).fit := by
 cases q with
 | gl s xs => intro x hx; exact h x (List.mem_of_mem_drop (List.mem_of_mem_take hx))
 | _ => trivial
theorem rz_val (hp : q.pureB = true) (hfit : q.fit) {b? : Option Nat} (hb : e.sg i = b?)
 (hcs : q.n = 0 ∧ b? = none ∨ ∃ b cs el, b? = some b ∧ e.w.heap[b]? = some (.cells cs el (0, 0)) ∧ q.n * q.k ≤ cs.size ∧ q.fit ∧ (∀ i, i < q.n → (q.at_ i).cells.length = q.k) ∧
   ∀ i j, i < q.n → j < q.k → VR e ((q.at_ i).cells.getD j .junk) (cs.getD (i * q.k + j) undef) ∧ (cs.getD (i * q.k + j) undef).oneCell' = true)
 (hext : Ext e.h.length e (e.rz i g b? (q.n * q.k))) {v : AVal} {c : Value} (hv : VR e v c) : VR (e.rz i g b? (q.n * q.k)) (Go.AL.rz i g q v) c := by
 have keep : ∀ v c, VR e v c → Go.AL.rz i g q v = v → VR (e.rz i g b? (q.n * q.k)) (Go.AL.rz i g q v) c := fun v c h heq => by rw [heq]; exact h.mono (Nat.le_refl _) hext
 have hlow : ∀ x, x < q.n → ∀ j, j < q.k → (q.at_ x).cells.length = q.k → Go.AL.low 0 ((q.at_ x).cells.getD j .junk) = true := fun x hx j hj hl => by
  have h1 : Go.AL.low 0 (q.at_ x) = true := by
   cases q with
   | nl => simp [LX.n, LX.toL] at hx
   | il k l => simp only [LX.n, LX.toL, List.length_map] at hx; simp [LX.at_, LX.toL, List.getD, hx, Go.AL.low]
   | gl s xs =>
     simp only [LX.n, LX.toL] at hx
     have h2 := hfit xs[x] (List.getElem_mem hx)
     have h3 : (LX.gl s xs).at_ x = xs[x] := by simp [LX.at_, LX.toL, List.getD, hx]
     rw [h3, ← h2]
     exact eta_low 0 s _ hp
  exact lows_get (low_cells h1) j (by rw [hl]; exact hj)
 induction hv with
 | pure v c h =>
   have key : ∀ v c, PVR e.w e.ps v c → PVR (e.rz i g b? (q.n * q.k)).w (e.rz i g b? (q.n * q.k)).ps (Go.AL.rz i g q v) c := fun v c h => by
    have hm : ∀ v c, PVR e.w e.ps v c → PVR (e.rz i g b? (q.n * q.k)).w (e.rz i g b? (q.n * q.k)).ps v c := fun v c h => h.mono hext.ps hext.cell
    induction h with
    | agg us ds hl _ ih => exact .agg _ ds (by rw [rzs_len]; exact hl) fun j hj => by rw [rzs_len] at hj; rw [rzs_get i g q us j hj]; exact ih j hj
    | tup us ds hl _ ih => exact .tup _ ds (by rw [rzs_len]; exact hl) fun j hj => by rw [rzs_len] at hj; rw [rzs_get i g q us j hj]; exact ih j hj
    | clo f fs gs ms ns k1 k2 _ _ ih1 ih2 =>
      exact .clo f _ _ ms ns (by rw [rzs_len]; exact k1) (by rw [rzs_len]; exact k2) (fun j hj => by rw [rzs_len] at hj; rw [rzs_get i g q fs j hj]; exact ih1 j hj) (fun j hj => by rw [rzs_len] at hj; rw [rzs_get i g q gs j hj]; exact ih2 j hj)
    | iface t v c _ ih => exact .iface t _ c ih
    | bool x => exact .bool x
    | int k n => exact .int k n
    | str s => exact .str s
    | lsnil q' c hq hf hc => exact hm _ _ (.lsnil q' c hq hf hc)
    | lse q' a hq hf => exact hm _ _ (.lse q' a hq hf)
    | ls q' b off cap cv k1 k2 k3 k4 k5 k6 k7 _ => exact hm _ _ (.ls q' b off cap cv k1 k2 k3 k4 k5 k6 k7)
    | pp xs b off cv k1 k2 k3 _ => exact hm _ _ (.pp xs b off cv k1 k2 k3)
    | nilp => exact .nilp
    | nilf => exact .nilf
    | nili => exact .nili
    | und => exact .und
    | junk c => exact .junk c
   exact .pure _ _ (key v c h)
 | tok q' j n c h ht => exact keep _ _ (.tok q' j n c h ht) rfl
 | ptr j o c k1 k2 => exact keep _ _ (.ptr j o c k1 k2) rfl
 | yld j c k1 k2 => exact keep _ _ (.yld j c k1 k2) rfl
 | hnd k j c k1 k2 => exact keep _ _ (.hnd k j c k1 k2) rfl
 | pe j g' x o c k1 k2 =>
   by_cases hji : j = i
   ·subst hji
    have : Go.AL.rz j g q (.pe j g' x o) = .junk := by simp [Go.AL.rz]
    rw [this]
    exact .pure _ _ (.junk _)
   ·have : Go.AL.rz i g q (.pe j g' x o) = .pe j g' x o := by
     unfold Go.AL.rz
     split
     ·rename_i hb; exact absurd (Nat.eq_of_beq_eq_true hb) hji
     ·rfl
    exact keep _ _ (.pe j g' x o c k1 k2) this
 | sl j g' lo hh c k1 k2 =>
   by_cases hji : j = i
   ·subst hji
    by_cases hgg : g' = g
    ·subst hgg
     rw [hi] at k2
     obtain ⟨a1, a2, a3, a4⟩ := k2.2 rfl
     have e1 : Go.AL.rz j g' q (.sl j g' lo hh) = .ls (subR q lo hh) .any := by simp [Go.AL.rz]
     rw [e1]
     have hn := subR_n hg hi lo hh a1 a2 a3
     have hf := subR_fit hg hi lo hh hfit
     rcases a4 with ⟨⟨ad0, rfl⟩, rfl, rfl, hq0⟩ | ⟨b, cap, off, rfl, hsg, hcap, hoff⟩
     ·cases ad0 with
      | none => exact .pure _ _ (.lsnil _ _ (by rw [hn]; rfl) hf (.inl rfl))
      | some a0 => exact .pure _ _ (.lse _ a0 (by rw [hn]; rfl) hf)
     ·rw [← hn]
      rcases Nat.eq_zero_or_pos (subR q lo hh).n with h0 | h0
      ·refine .pure _ _ (.ls _ b off cap (fun _ _ => undef) (by omega) hf (fun x hx => by omega) (fun h => absurd h0 h) (fun x y hx => by omega) (fun x y hx => by omega) (fun x y hx => by omega))
      ·rcases hcs with ⟨hq0, _⟩ | ⟨b', cs, el, k1, k2, k3, k4, k5, k6⟩
       ·omega
       ·obtain rfl : b = b' := by rw [hb] at hsg; rw [k1] at hsg; exact (Option.some.inj hsg).symm
        rcases hoff with hc0 | ⟨o1, o2⟩
        ·omega
        ·have hat : ∀ x, x < (subR q lo hh).n → (subR q lo hh).at_ x = q.at_ (lo.toNat + x) := fun x hx => by
          rw [LX.at_, subR_toL hg hi, rSub_get _ _ _ _ _ (by omega)]
         have hkk := subR_k hg hi lo hh
         have hlen : (lo.toNat + (subR q lo hh).n) * q.k ≤ q.n * q.k := Nat.mul_le_mul_right _ (by omega)
         rw [Nat.add_mul] at hlen
         have lin : ∀ x y, x < (subR q lo hh).n → y < q.k → off + x * q.k + y = (lo.toNat + x) * q.k + y := fun x y _ _ => by rw [o1, Nat.add_mul]
         have bd : ∀ x y, x < (subR q lo hh).n → y < q.k → (lo.toNat + x) * q.k + y < cs.size := fun x y hx hy => by
          have h1 : (lo.toNat + x + 1) * q.k ≤ q.n * q.k := Nat.mul_le_mul_right _ (by omega)
          rw [Nat.add_mul] at h1
          omega
         refine .pure _ _ (.ls _ b off cap (fun x y => cs.getD ((lo.toNat + x) * q.k + y) undef) (by omega) hf (fun x hx => ?_) (fun h => ?_) (fun x y hx hy => ?_) (fun x y hx hy => ?_) (fun x y hx hy => ?_))
         ·rw [hat x hx, hkk]; exact k5 _ (by omega)
         ·show off + (subR q lo hh).n * (subR q lo hh).k ≤ if some b = b? then q.n * q.k else e.ps b
          rw [k1, if_pos rfl, hkk, o1]
          exact hlen
         ·rw [hkk] at hy ⊢
          rw [lin x y hx hy]
          show e.w.cell? _ = _
          simp [World.cell?, k2, bd x y hx hy]
         ·rw [hkk] at hy
          exact (k6 (lo.toNat + x) y (by omega) hy).2
         ·rw [hkk] at hy
          rw [hat x hx]
          have hx2 : lo.toNat + x < q.n := by omega
          have h6 := VR.pureOf (e := { e with h := e.h.take 0 }) ((k6 (lo.toNat + x) y hx2 hy).1.low (hlow _ hx2 y hy (k5 _ hx2))) (by simp)
          exact h6.mono hext.ps hext.cell
    ·have : Go.AL.rz j g q (.sl j g' lo hh) = .junk := by
      unfold Go.AL.rz
      split
      ·split
       ·rename_i hb; exact absurd (Nat.eq_of_beq_eq_true hb) hgg
       ·rfl
      ·rename_i hb; simp at hb
     rw [this]
     exact .pure _ _ (.junk _)
   ·have : Go.AL.rz i g q (.sl j g' lo hh) = .sl j g' lo hh := by
     unfold Go.AL.rz
     split
     ·rename_i hb; exact absurd (Nat.eq_of_beq_eq_true hb) hji
     ·rfl
    exact keep _ _ (.sl j g' lo hh c k1 k2) this
 | agg us ds hl _ ih => exact .agg _ ds (by rw [rzs_len]; exact hl) fun j hj => by rw [rzs_len] at hj; rw [rzs_get i g q us j hj]; exact ih j hj
 | tup us ds hl _ ih => exact .tup _ ds (by rw [rzs_len]; exact hl) fun j hj => by rw [rzs_len] at hj; rw [rzs_get i g q us j hj]; exact ih j hj
 | clo f fs gs ms ns k1 k2 _ _ ih1 ih2 =>
   exact .clo f _ _ ms ns (by rw [rzs_len]; exact k1) (by rw [rzs_len]; exact k2) (fun j hj => by rw [rzs_len] at hj; rw [rzs_get i g q fs j hj]; exact ih1 j hj) (fun j hj => by rw [rzs_len] at hj; rw [rzs_get i g q gs j hj]; exact ih2 j hj)
 | iface t v c _ ih => exact .iface t _ c ih
end
theorem rz_fit {e : Env} (hg : Good e) {i g : Nat} {q : LX} (hi : e.h[i]? = some (.rw g q)) : q.fit := by
 rcases hg.obj i _ hi with ⟨h0, _⟩ | ⟨_, _, _, _, _, _, _, h5, _⟩
 ·cases q with
  | gl s xs =>
    intro x hx'
    simp [LX.n, LX.toL] at h0
    rw [h0] at hx'; simp at hx'
  | _ => trivial
 ·exact h5
theorem rz_upd {e0 e : Env} (hg : Good e) {i g : Nat} {q : LX} (hi : e.h[i]? = some (.rw g q)) (hu : Upd e0 e) (b? : Option Nat) (n : Nat) (hb : e.sg i = b?) : Upd e0 (e.rz i g b? n) := by
 refine ⟨hu.os, hu.tape, hu.output, hu.size, fun b' hb' hno => ?_, fun b' ⟨j, o, k1, k2, k3⟩ => ?_⟩
 ·have hb2 : some b' ≠ b? := fun h => by
   have hown : Owned e b' := ⟨i, _, hi, rfl, hb.trans h.symm⟩
   rcases hu.own b' hown with h | h
   ·exact hno h
   ·omega
  exact ⟨(hu.frame b' hb' hno).1, (if_neg hb2).trans (hu.frame b' hb' hno).2⟩
 ·refine hu.own b' ⟨j, o, ?_, k2, k3⟩
  have hil : i < e.h.length := (List.getElem?_eq_some_iff.1 hi).1
  have hji : j ≠ i := fun h => by subst h; simp [Env.rz, hil] at k1; subst k1; cases k2
  simpa [Env.rz, List.getElem?_set_ne (Ne.symm hji)] using k1
theorem fin_rz {n0 : Nat} {R : AVal → Heap → Prop} {r : AVal} {h : Heap} (i g : Nat) (q : LX) (hi : h[i]? = some (.rw g q)) (hp : q.pureB = true) (hh : rFin n0 R (rz i g q r) (h.set i (.dead g))) : rFin n0 R r h :=
 fun e0 e c hn hg he hv hu hx => by
  subst he
  obtain ⟨b?, h1, _, _, h2, h3, h4⟩ := rz_env hg hi
  exact hh e0 (e.rz i g b? (q.n * q.k)) c hn h3 rfl (rz_val hg hi hp (rz_fit hg hi) h1 h2 (h4 _) hv) (rz_upd hg hi hu b? _ h1) (hx.trans (h4 _))
theorem Gh.rz {n0 nt : Nat} {tm tm' : Nat → AVal} {h : Heap} (i g : Nat) (q : LX) (hm : n0 ≤ i) (hi : h[i]? = some (.rw g q)) (hp : q.pureB = true) (ht : ∀ t, tm' t = Go.AL.rz i g q (tm t) ∨ tm' t = .junk) : Gh n0 nt ⟨tm, h⟩ ⟨tm', h.set i (.dead g)⟩ := fun e0 e a hn hs => by
 have hh := hs.heap
 simp only at hh
 have hi' : e.h[i]? = some (.rw g q) := by rw [hh]; exact hi
 obtain ⟨b?, h1, _, _, h2, h3, h4⟩ := rz_env hs.good hi'
 have hu : Upd e (e.rz i g b? (q.n * q.k)) := by
  refine ⟨rfl, rfl, rfl, Nat.le_refl _, fun b' hb' hno => ?_, fun b' ⟨j, o, k1, k2, k3⟩ => ?_⟩
  ·exact ⟨rfl, if_neg fun h => hno ⟨i, _, hi', rfl, h1.trans h.symm⟩⟩
  ·have hil : i < e.h.length := (List.getElem?_eq_some_iff.1 hi').1
   have hji : j ≠ i := fun h => by subst h; simp [Env.rz, hil] at k1; subst k1; cases k2
   exact .inl ⟨j, o, by simpa [Env.rz, List.getElem?_set_ne (Ne.symm hji)] using k1, k2, k3⟩
 refine ⟨e.rz i g b? (q.n * q.k), rfl, h3, by show e.h.set i _ = _; rw [hh], fun t => ?_, hs.size, hs.marks.step rfl hu, hs.upd.trans hu, hs.ext.trans (h4 _)⟩
 rcases ht t with h | h
 ·show VR _ (tm' t) _
  rw [h]
  exact rz_val hs.good hi' hp (rz_fit hs.good hi') h1 h2 (h4 _) (hs.tm t)
 ·show VR _ (tm' t) _
  rw [h]
  exact .pure _ _ (.junk _)
theorem Does.fin {P : Program} {f : FuncId} {args : List AVal} {h : Heap} {R R' : AVal → Heap → Prop} (hd : Does P f args h R) (hf : ∀ r h', R r h' → rFin h.length R' r h') : Does P f args h R' := by
 refine ⟨hd.1, fun e cs hg he ha => ?_⟩
 refine (hd.2 e cs hg he ha).mono fun x w hp => ?_
 cases x with
 | returned c =>
   obtain ⟨r, e1, hR, hw, g1, v1, u1, x1⟩ := hp
   subst he
   obtain ⟨r', e', k1, k2, k3, k4, k5, k6⟩ := hf r _ hR e e1 c rfl g1 rfl v1 u1 x1
   exact ⟨r', e', k1, k2.trans hw, k3, k4, k5, k6⟩
 | _ => exact hp.elim
theorem DoesV.fin {P : Program} {v : AVal} {args : List AVal} {h : Heap} {R R' : AVal → Heap → Prop} (hd : DoesV P v args h R) (hf : ∀ r h', R r h' → rFin h.length R' r h') : DoesV P v args h R' := by
 intro e c cs hg he hv ha
 refine (hd e c cs hg he hv ha).mono fun x w hp => ?_
 cases x with
 | returned c =>
   obtain ⟨r, e1, hR, hw, g1, v1, u1, x1⟩ := hp
   subst he
   obtain ⟨r', e', k1, k2, k3, k4, k5, k6⟩ := hf r _ hR e e1 c rfl g1 rfl v1 u1 x1
   exact ⟨r', e', k1, k2.trans hw, k3, k4, k5, k6⟩
 | _ => exact hp.elim
end Go.AL
/-
  Empty.
-/
namespace Go.AL
end Go.AL
