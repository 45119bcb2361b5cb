/-
  AL: a nil slice that will be appended to is told as a list that owns its end.
-/
import Derived.Test.YtnnpookoencpnaaAlFreeze
set_option linter.unusedSectionVars false
set_option linter.unusedVariables false
set_option linter.unusedSimpArgs false
namespace Go.AL
open Go
/-- A NIL SLICE THAWED: temporary t owns its end from here on. -/
theorem Gh.thaw {n0 nt : Nat} {tm : Nat → AVal} {h : Heap} (t : Nat) (q : LX) (hq : q.n = 0) (hf : q.fit) (ht : tm t = .ls .nl .nil) :
    Gh n0 nt ⟨tm, h⟩ ⟨upd tm t (.ls q (.tok h.length 0)), h ++ [.tok 0]⟩ := fun e0 e a hn hs => by
  obtain ⟨hg, hu, hx⟩ := thaw_env hs.good
  have hh := hs.heap
  simp only at hh
  refine ⟨e.thaw, rfl, hg, by show e.h ++ [AObj.tok 0] = _; rw [hh], fun u => ?_, hs.size, hs.marks.step rfl hu, hs.upd.trans hu, Ext0 hs.ext hx⟩
  show VR e.thaw (upd tm t _ u) _
  rw [upd_get]
  split
  · rename_i he
    subst he
    have hv := hs.tm u
    simp only [ht] at hv
    have hc : a.tmps.getD u undef = .slice none 0 0 := by
      revert hv
      generalize a.tmps.getD u undef = c
      intro hv
      cases hv with
      | pure _ _ hp => cases hp; rfl
    rw [hc]
    refine .tok q h.length 0 _ (.lsnil q .any hq hf (.inl rfl)) ?_
    have : e.thaw.h[h.length]? = some (.tok 0) := by
      show (e.h ++ [AObj.tok 0])[h.length]? = _
      rw [hh]; simp
    rw [this]
    exact ⟨Nat.le_refl _, fun _ => trivial⟩
  · exact (hs.tm u).mono (Nat.le_refl _) hx
end Go.AL
