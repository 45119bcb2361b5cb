/-
  AL: a nil slice that will be appended to is told as a list that owns its end.
-/
import Derived.Test.YtnkaagbepppodaaAlFreeze
set_option linter.unusedSectionVars false
set_option linter.unusedVariables false
set_option linter.unusedSimpArgs false
namespace Go.AL
open Go
theorem ObjOK.kept {e e' : Env} {i : Nat} {o : AObj} (hs : e'.sg i = e.sg i) (hw : e'.w = e.w) (hp : e'.ps = e.ps) (hv : ∀ v c, VR e v c → VR e' v c) (h : ObjOK e i o) : ObjOK e' i o := by
  cases o with
  | box vs =>
    obtain ⟨b, cs, el, h1, h2, h3, h4, h5⟩ := h
    exact ⟨b, cs, el, by rw [hs]; exact h1, by rw [hw]; exact h2, h3, by rw [hp]; exact h4, fun j hj => hv _ _ (h5 j hj)⟩
  | rw g q =>
    rcases h with ⟨h1, h2⟩ | ⟨b, cs, el, h1, h2, h3, h4, h5, h6, h7⟩
    · exact .inl ⟨h1, by rw [hs]; exact h2⟩
    · exact .inr ⟨b, cs, el, by rw [hs]; exact h1, by rw [hw]; exact h2, h3, by rw [hp]; exact h4, h5, h6, fun i j hi hj => ⟨hv _ _ (h7 i j hi hj).1, (h7 i j hi hj).2⟩⟩
  | tok n =>
    intro b hb
    rw [hs] at hb
    obtain ⟨cs, el, h1⟩ := h b hb
    exact ⟨cs, el, by rw [hw]; exact h1⟩
  | loop r =>
    obtain ⟨b, h1, h2⟩ := h
    exact ⟨b, by rw [hs]; exact h1, by rw [hw]; exact h2⟩
  | dead g => trivial
def Env.thaw (e : Env) : Env := ⟨e.w, fun i => if i = e.h.length then none else e.sg i, e.h ++ [.tok 0], e.ps⟩
theorem thaw_env {e : Env} (hg : Good e) : Good e.thaw ∧ Upd e e.thaw ∧ Ext e.h.length e e.thaw := by
  have old : ∀ i o, i < e.h.length → e.h[i]? = some o → e.thaw.h[i]? = some o := fun i o hi ho => by
    show (e.h ++ [AObj.tok 0])[i]? = some o
    rw [List.getElem?_append_left hi]; exact ho
  have sgo : ∀ i, i ≠ e.h.length → e.thaw.sg i = e.sg i := fun i hi => if_neg hi
  have look : ∀ i o, e.thaw.h[i]? = some o → (i = e.h.length ∧ o = .tok 0) ∨ (i < e.h.length ∧ e.h[i]? = some o) := fun i o ho => by
    have ho : (e.h ++ [AObj.tok 0])[i]? = some o := ho
    rcases Nat.lt_trichotomy i e.h.length with h | h | h
    · rw [List.getElem?_append_left h] at ho; exact .inr ⟨h, ho⟩
    · subst h; simp at ho; exact .inl ⟨rfl, ho.symm⟩
    · rw [List.getElem?_eq_none (by simp; omega)] at ho; cases ho
  have hext : Ext e.h.length e e.thaw := by
    refine ⟨fun i o hi ho => ⟨o, old i o hi ho, ?_⟩, fun _ => Nat.le_refl _, fun _ _ _ => rfl, fun _ => Nat.le_refl _⟩
    have hs := sgo i (by omega)
    cases o with
    | box vs => exact ⟨hs, rfl⟩
    | rw g q => exact ⟨Nat.le_refl _, fun _ => ⟨hs, rfl, rfl⟩⟩
    | tok n => exact ⟨Nat.le_refl _, fun _ => ⟨hs, fun _ _ => rfl⟩⟩
    | loop r => exact hs
    | dead g => exact Nat.le_refl _
  refine ⟨⟨fun i o ho => ?_, fun i j oi oj b hi hil hj hjl si sj => ?_, hg.ps⟩, ⟨rfl, rfl, rfl, Nat.le_refl _, fun _ _ _ => ⟨rfl, rfl⟩, fun b ⟨i, o, h1, h2, h3⟩ => .inl ?_⟩, hext⟩
  · rcases look i o ho with ⟨rfl, rfl⟩ | ⟨hi, ho'⟩
    · intro b hb
      simp [Env.thaw] at hb
    · exact ObjOK.kept (sgo i (by omega)) rfl rfl (fun v c h => h.mono (Nat.le_refl _) hext) (hg.obj i o ho')
  · rcases look i oi hi with ⟨rfl, rfl⟩ | ⟨hi1, hi2⟩
    · simp [Env.thaw] at si
    · rcases look j oj hj with ⟨rfl, rfl⟩ | ⟨hj1, hj2⟩
      · simp [Env.thaw] at sj
      · exact hg.inj i j oi oj b hi2 hil hj2 hjl ((sgo i (by omega)).symm.trans si) ((sgo j (by omega)).symm.trans sj)
  · rcases look i o h1 with ⟨rfl, rfl⟩ | ⟨hi1, hi2⟩
    · simp [Env.thaw] at h3
    · exact ⟨i, o, hi2, h2, (sgo i (by omega)).symm.trans h3⟩
/-- A NIL SLICE THAWED: temporary t owns its end from here on. -/
theorem Gh.thaw {n0 nt : Nat} {tm : Nat → AVal} {h : Heap} (t : Nat) (q : LX) (hq : q.n = 0) (hf : q.fit) (ht : tm t = .ls .nl .nil) :
    Gh n0 nt ⟨tm, h⟩ ⟨upd tm t (.ls q (.tok h.length 0)), h ++ [.tok 0]⟩ := fun e0 e a hn hs => by
  obtain ⟨hg, hu, hx⟩ := thaw_env hs.good
  have hh := hs.heap
  simp only at hh
  refine ⟨e.thaw, rfl, hg, by show e.h ++ [AObj.tok 0] = _; rw [hh], fun u => ?_, hs.size, hs.marks.step rfl hu, hs.upd.trans hu, Ext0 hs.ext hx⟩
  show VR e.thaw (upd tm t _ u) _
  rw [upd_get]
  split
  · rename_i he
    subst he
    have hv := hs.tm u
    simp only [ht] at hv
    have hc : a.tmps.getD u undef = .slice none 0 0 := by
      revert hv
      generalize a.tmps.getD u undef = c
      intro hv
      cases hv with
      | pure _ _ hp => cases hp; rfl
    rw [hc]
    refine .tok q h.length 0 _ (.lsnil q .any hq hf (.inl rfl)) ?_
    have : e.thaw.h[h.length]? = some (.tok 0) := by
      show (e.h ++ [AObj.tok 0])[h.length]? = _
      rw [hh]; simp
    rw [this]
    exact ⟨Nat.le_refl _, fun _ => trivial⟩
  · exact (hs.tm u).mono (Nat.le_refl _) hx
end Go.AL
