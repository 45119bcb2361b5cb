/-
  AL: a token's count told anew, at a loop's back edge.
-/
import Derived.Test.YtnnpookoencpnaaAlDrop
set_option linter.unusedSectionVars false
set_option linter.unusedVariables false
set_option linter.unusedSimpArgs false
namespace Go.AL
open Go
/-- Each value is less than it was, and leads below i; but for the list that owns token i's end. -/
def HoldsT (h : Heap) (i n : Nat) (tm : Nat → AVal) : List (Nat × AVal) → Prop
  | [] => True
  | (d, v) :: r => ((Wk h (tm d) v ∧ low i v = true) ∨ ∃ q, tm d = .ls q (.tok i n) ∧ v = .ls q (.tok i 0)) ∧ HoldsT h i n tm r
theorem HoldsT.nil (h : Heap) (i n : Nat) (tm : Nat → AVal) : HoldsT h i n tm [] := trivial
theorem HoldsT.cons {h : Heap} {i n : Nat} {tm : Nat → AVal} {d : Nat} {v : AVal} {r : List (Nat × AVal)} (h1 : Wk h (tm d) v) (h2 : low i v = true) (h3 : HoldsT h i n tm r) : HoldsT h i n tm ((d, v) :: r) := ⟨.inl ⟨h1, h2⟩, h3⟩
theorem HoldsT.tok {h : Heap} {i n : Nat} {tm : Nat → AVal} {d : Nat} {q : LX} {r : List (Nat × AVal)} (h1 : tm d = .ls q (.tok i n)) (h3 : HoldsT h i n tm r) : HoldsT h i n tm ((d, .ls q (.tok i 0)) :: r) := ⟨.inr ⟨q, h1, rfl⟩, h3⟩
theorem HoldsT.get {h : Heap} {i n : Nat} {tm : Nat → AVal} : ∀ {l : List (Nat × AVal)}, HoldsT h i n tm l → ∀ t, (Wk h (tm t) (tmL l t) ∧ low i (tmL l t) = true) ∨ ∃ q, tm t = .ls q (.tok i n) ∧ tmL l t = .ls q (.tok i 0)
  | [], _, t => .inl ⟨.junk _ _, rfl⟩
  | (d, v) :: r, hh, t => by
    unfold tmL
    split
    · rename_i hb
      rw [Nat.eq_of_beq_eq_true hb]
      exact hh.1
    · exact hh.2.get t
theorem Gh.retok {n0 nt : Nat} {tm : Nat → AVal} {h h' : Heap} {l : List (Nat × AVal)} (i n : Nat) (hi : h[i]? = some (.tok n)) (hm : n0 ≤ i) (hh : HoldsT h i n tm l) (ho : lowOs i (h.take i) = true) (e1 : h.take i ++ [.tok 0] = h') :
    Gh n0 nt ⟨tm, h⟩ ⟨tmL l, h'⟩ := fun e0 e a hn hs => by
  subst e1
  have hhp := hs.heap
  simp only at hhp
  subst hhp
  have hil : i < e.h.length := (List.getElem?_eq_some_iff.1 hi).1
  have lt : (e.h.take i).length = i := by simp; omega
  have low_ : ∀ j, j < i → (e.h.take i ++ [AObj.tok 0])[j]? = e.h[j]? := fun j hj => by
    rw [List.getElem?_append_left (by omega), take_get (o := none) hj]
  have at_ : (e.h.take i ++ [AObj.tok 0])[i]? = some (.tok 0) := by
    rw [List.getElem?_append_right (by omega), lt]; simp
  have look : ∀ j o, (e.h.take i ++ [AObj.tok 0])[j]? = some o → (j = i ∧ o = .tok 0) ∨ (j < i ∧ e.h[j]? = some o) := fun j o hj => by
    rcases Nat.lt_trichotomy j i with h | h | h
    · exact .inr ⟨h, by rw [← low_ j h]; exact hj⟩
    · subst h; rw [at_] at hj; exact .inl ⟨rfl, (Option.some.inj hj).symm⟩
    · rw [List.getElem?_eq_none (by simp; omega)] at hj; cases hj
  let e' : Env := { e with h := e.h.take i ++ [.tok 0] }
  have hx1 : Ext i { e with h := e.h.take i } e' := ⟨fun j o hj h1 => ⟨o, by
      have h1 : (e.h.take i)[j]? = some o := h1
      show (e.h.take i ++ [AObj.tok 0])[j]? = some o
      rw [List.getElem?_append_left (by omega)]; exact h1, OMono.kept rfl rfl j o⟩, fun _ => Nat.le_refl _, fun _ _ _ => rfl, fun _ => Nat.le_refl _⟩
  have vr : ∀ v c, VR { e with h := e.h.take i } v c → VR e' v c := fun v c h => h.mono (by show (e.h.take i).length ≤ i; omega) hx1
  have own : ∀ b, Owned e' b → Owned e b := fun b ⟨j, o, h1, h2, h3⟩ => by
    rcases look j o h1 with ⟨rfl, rfl⟩ | ⟨_, h4⟩
    · exact ⟨j, _, hi, rfl, h3⟩
    · exact ⟨j, o, h4, h2, h3⟩
  have hu : Upd e e' := ⟨rfl, rfl, rfl, Nat.le_refl _, fun _ _ _ => ⟨rfl, rfl⟩, fun b hb => .inl (own b hb)⟩
  have live : ∀ (j : Nat) (o : AObj), (e.h.take i ++ [AObj.tok 0])[j]? = some o → o.live = true → ∃ o', e.h[j]? = some o' ∧ o'.live = true := fun j o h1 h2 => by
    rcases look j o h1 with ⟨rfl, rfl⟩ | ⟨_, h4⟩
    · exact ⟨_, hi, rfl⟩
    · exact ⟨o, h4, h2⟩
  refine ⟨e', rfl, ⟨fun j o h1 => ?_, fun j k oj ok b h1 h2 h3 h4 h5 h6 => ?_, hs.good.ps⟩, rfl, fun t => ?_, hs.size, hs.marks.step rfl hu, hs.upd.trans hu, ?_⟩
  · rcases look j o h1 with ⟨rfl, rfl⟩ | ⟨h2, h3⟩
    · exact hs.good.obj j _ hi
    · have h4 : (e.h.take i)[j]? = some o := by rw [take_get (o := none) h2]; exact h3
      exact ObjOK.kept (e := { e with h := e.h.take i }) rfl rfl rfl vr (ObjOK.low (hs.good.obj j o h3) (lowOs_get ho j o h4))
  · obtain ⟨o1, g1, g2⟩ := live j oj h1 h2
    obtain ⟨o2, g3, g4⟩ := live k ok h3 h4
    exact hs.good.inj j k o1 o2 b g1 g2 g3 g4 h5 h6
  · rcases hh.get t with ⟨w1, w2⟩ | ⟨q, w1, w2⟩
    · exact vr _ _ ((w1 e _ hs.good rfl (hs.tm t)).low w2)
    · have hv := hs.tm t
      simp only [w1] at hv
      show VR e' (tmL l t) _
      rw [w2]
      revert hv
      generalize a.tmps.getD t undef = c
      intro hv
      cases hv with
      | pure _ _ hp => cases hp with
        | lsnil _ _ _ _ hc => rcases hc with hc | hc <;> cases hc
      | tok _ _ _ _ hp ht =>
        refine .tok q i 0 c hp ?_
        rw [hi] at ht
        show tokAt (e.h.take i ++ [AObj.tok 0])[i]? 0 _
        rw [at_]
        exact ⟨Nat.le_refl _, fun _ => ht.2 rfl⟩
  · refine ⟨fun j o hj h1 => ?_, hs.ext.ps, hs.ext.cell, hs.ext.size⟩
    obtain ⟨o', h2, h3⟩ := hs.ext.obj j o hj h1
    refine ⟨o', ?_, h3⟩
    show (e.h.take i ++ [AObj.tok 0])[j]? = some o'
    rw [low_ j (by omega)]; exact h2
end Go.AL
