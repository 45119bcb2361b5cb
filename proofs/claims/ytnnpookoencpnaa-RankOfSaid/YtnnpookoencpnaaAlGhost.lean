/-
  AL: what is known of a heap, said otherwise ahead of a call.
-/
import Derived.Test.YtnnpookoencpnaaAlTok
set_option linter.unusedSectionVars false
set_option linter.unusedVariables false
set_option linter.unusedSimpArgs false
namespace Go.AL
open Go
/-- A heap told as another one: no step of the program. -/
def GE (h h' : Heap) : Prop := ∀ e, Good e → e.h = h → ∃ e', e'.w = e.w ∧ Good e' ∧ e'.h = h' ∧ Upd e e' ∧ Ext e.h.length e e'
theorem GE.refl (h : Heap) : GE h h := fun e hg he => ⟨e, rfl, hg, he, .refl e, .refl _ e⟩
theorem GE.trans {h h' h'' : Heap} (a : GE h h') (b : GE h' h'') (hl : h.length ≤ h'.length) : GE h h'' := fun e hg he => by
  obtain ⟨e1, w1, g1, h1, u1, x1⟩ := a e hg he
  obtain ⟨e2, w2, g2, h2, u2, x2⟩ := b e1 g1 h1
  exact ⟨e2, w2.trans w1, g2, h2, u1.trans u2, x1.trans (x2.le (by rw [he, h1]; exact hl))⟩
theorem Does.ghost {P : Program} {f : FuncId} {args : List AVal} {h h' : Heap} {R : AVal → Heap → Prop} (hg : GE h h') (hd : Does P f args h' R) (hl : h.length ≤ h'.length) : Does P f args h R := by
  refine ⟨hd.1, fun e cs hgood he ha => ?_⟩
  obtain ⟨e1, w1, g1, h1, u1, x1⟩ := hg e hgood he
  have := hd.2 e1 cs g1 h1 ⟨ha.len, fun i hi => (ha.rel i hi).mono (Nat.le_refl _) x1⟩
  rw [w1] at this
  refine Calls.mono this fun en w hp => ?_
  cases en with
  | returned c =>
    obtain ⟨r, e2, hr, hw, hg2, hv, hu, hx⟩ := hp
    exact ⟨r, e2, hr, hw, hg2, hv, u1.trans hu, x1.trans (hx.le (by rw [he, h1]; exact hl))⟩
  | _ => exact hp.elim
theorem Gh.ghost {n0 nt : Nat} {tm : Nat → AVal} {h h' : Heap} (hg : GE h h') (hn : n0 ≤ h.length) : Gh n0 nt ⟨tm, h⟩ ⟨tm, h'⟩ := fun e0 e a hn0 hs => by
  have hhp := hs.heap
  simp only at hhp
  obtain ⟨e1, w1, g1, h1, u1, x1⟩ := hg e hs.good hhp
  refine ⟨e1, w1, g1, h1, fun t => (hs.tm t).mono (Nat.le_refl _) x1, hs.size, hs.marks.step rfl u1, hs.upd.trans u1, hs.ext.trans (x1.le (by rw [hhp]; omega))⟩
theorem putCells_get_self : ∀ (vs : List AVal) (j : Nat) (v : AVal), j < vs.length → (vs.set j v).getD j .junk = v
  | vs, j, v, h => by simp [List.getD, h]
/-- A nil slice in a box, thawed. -/
theorem GE.thaw {h : Heap} (i j : Nat) (vs : List AVal) (q : LX) (hi : h[i]? = some (.box vs)) (hj : vs[j]? = some (.ls .nl .nil)) (hq : q.n = 0) (hf : q.fit) :
    GE h ((h.set i (.box (vs.set j (.ls q (.tok h.length 0))))) ++ [.tok 0]) := fun e hg he => by
  subst he
  obtain ⟨gt, ut, xt⟩ := thaw_env hg
  have hil : i < e.h.length := (List.getElem?_eq_some_iff.1 hi).1
  have hjl : j < vs.length := (List.getElem?_eq_some_iff.1 hj).1
  have hit : e.thaw.h[i]? = some (.box vs) := by
    show (e.h ++ [AObj.tok 0])[i]? = _
    rw [List.getElem?_append_left hil]; exact hi
  let e2 : Env := { e.thaw with h := e.thaw.h.set i (.box (vs.set j (.ls q (.tok e.h.length 0)))) }
  have hset : e.thaw.h.set i (.box (vs.set j (.ls q (.tok e.h.length 0)))) = (e.h.set i (.box (vs.set j (.ls q (.tok e.h.length 0))))) ++ [.tok 0] := by
    show (e.h ++ [AObj.tok 0]).set i _ = _
    rw [List.set_append_left _ _ hil]
  have hitl : i < e.thaw.h.length := (List.getElem?_eq_some_iff.1 hit).1
  have look : ∀ k o, e2.h[k]? = some o → (k = i ∧ o = .box (vs.set j (.ls q (.tok e.h.length 0)))) ∨ (k ≠ i ∧ e.thaw.h[k]? = some o) := fun k o hk => by
    have hk : (e.thaw.h.set i (.box (vs.set j (.ls q (.tok e.h.length 0)))))[k]? = some o := hk
    by_cases hki : k = i
    · subst hki
      rw [List.getElem?_set, if_pos rfl, if_pos hitl] at hk
      exact .inl ⟨rfl, (Option.some.inj hk).symm⟩
    · rw [List.getElem?_set_ne (Ne.symm hki)] at hk
      exact .inr ⟨hki, hk⟩
  have x2 : Ext e.thaw.h.length e.thaw e2 := by
    refine ⟨fun k o hk ho => ?_, fun _ => Nat.le_refl _, fun _ _ _ => rfl, fun _ => Nat.le_refl _⟩
    by_cases hki : k = i
    · subst hki
      rw [hit] at ho
      cases ho
      exact ⟨.box (vs.set j (.ls q (.tok e.h.length 0))), (by show (e.thaw.h.set k _)[k]? = _; rw [List.getElem?_set, if_pos rfl, if_pos hitl]), (by exact ⟨rfl, by simp⟩)⟩
    · exact ⟨o, by show (e.thaw.h.set i _)[k]? = _; rw [List.getElem?_set_ne (Ne.symm hki)]; exact ho, OMono.kept rfl rfl k o⟩
  have vr : ∀ v c, VR e.thaw v c → VR e2 v c := fun v c h => h.mono (Nat.le_refl _) x2
  have live : ∀ (k : Nat) (o : AObj), e2.h[k]? = some o → o.live = true → ∃ o', e.thaw.h[k]? = some o' ∧ o'.live = true := fun k o hk hl => by
    rcases look k o hk with ⟨rfl, rfl⟩ | ⟨_, h2⟩
    · exact ⟨_, hit, rfl⟩
    · exact ⟨o, h2, hl⟩
  have u2 : Upd e.thaw e2 := ⟨rfl, rfl, rfl, Nat.le_refl _, fun _ _ _ => ⟨rfl, rfl⟩, fun b ⟨k, o, h1, h2, h3⟩ => by
    obtain ⟨o', h4, h5⟩ := live k o h1 h2
    exact .inl ⟨k, o', h4, h5, h3⟩⟩
  refine ⟨e2, rfl, ⟨fun k o hk => ?_, fun k m ok om b h1 h2 h3 h4 h5 h6 => ?_, gt.ps⟩, hset, ut.trans u2, xt.trans (x2.le (by simp [Env.thaw]))⟩
  · rcases look k o hk with ⟨rfl, rfl⟩ | ⟨hne, ho⟩
    · obtain ⟨b, cs, el, h1, h2, h3, h4, h5⟩ := gt.obj _ _ hit
      refine ⟨b, cs, el, h1, h2, by simpa using h3, h4, fun m hm => ?_⟩
      rw [List.length_set] at hm
      by_cases hmj : m = j
      · subst hmj
        have h6 := h5 m hm
        have e1 : vs.getD m .junk = .ls .nl .nil := by simp [List.getD, hj]
        rw [e1] at h6
        have hc : cs.getD m undef = .slice none 0 0 := by
          revert h6
          generalize cs.getD m undef = c
          intro h6
          cases h6 with
          | pure _ _ hp => cases hp; rfl
        rw [hc, putCells_get_self _ _ _ hm]
        refine .tok q e.h.length 0 _ (.lsnil q .any hq hf (.inl rfl)) ?_
        have : e2.h[e.h.length]? = some (.tok 0) := by
          show (e.thaw.h.set k _)[e.h.length]? = _
          rw [List.getElem?_set_ne (by omega)]
          show (e.h ++ [AObj.tok 0])[e.h.length]? = _
          simp
        rw [this]
        exact ⟨Nat.le_refl _, fun _ => trivial⟩
      · have e1 : (vs.set j (.ls q (.tok e.h.length 0))).getD m .junk = vs.getD m .junk := by simp [List.getD, List.getElem?_set_ne (Ne.symm hmj)]
        rw [e1]
        exact vr _ _ (h5 m hm)
    · exact ObjOK.kept (e := e.thaw) rfl rfl rfl vr (gt.obj k o ho)
  · obtain ⟨o1, a1, a2⟩ := live k ok h1 h2
    obtain ⟨o2, a3, a4⟩ := live m om h3 h4
    exact gt.inj k m o1 o2 b a1 a2 a3 a4 h5 h6
end Go.AL
