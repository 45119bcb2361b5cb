/-
  AL: objects that nothing leads to any more are forgotten.
-/
import Derived.Test.YtnnpookoencpnaaAlThaw
set_option linter.unusedSectionVars false
set_option linter.unusedVariables false
set_option linter.unusedSimpArgs false
namespace Go.AL
open Go
/-- What was made on the way is forgotten, where nothing that stays leads to it. -/
theorem Gh.low {n0 nt : Nat} {tm : Nat → AVal} {h h' : Heap} {l : List (Nat × AVal)} (m : Nat) (hm : n0 ≤ m) (hh : Holds h tm l) (hl : lowL m l = true) (ho : lowOs m (h.take m) = true) (e1 : h.take m = h') :
    Gh n0 nt ⟨tm, h⟩ ⟨tmL l, h'⟩ := fun e0 e a hn hs => by
  subst e1
  have hhp := hs.heap
  simp only at hhp
  have look : ∀ {i : Nat} {o : AObj}, (e.h.take m)[i]? = some o → i < m ∧ e.h[i]? = some o := fun {i o} ho => by
    rw [List.getElem?_take] at ho
    split at ho
    · exact ⟨by assumption, ho⟩
    · cases ho
  have own : ∀ b, Owned { e with h := e.h.take m } b → Owned e b := fun b ⟨i, o, h1, h2, h3⟩ => ⟨i, o, (look h1).2, h2, h3⟩
  have hu : Upd e { e with h := e.h.take m } := ⟨rfl, rfl, rfl, Nat.le_refl _, fun _ _ _ => ⟨rfl, rfl⟩, fun b hb => .inl (own b hb)⟩
  refine ⟨{ e with h := e.h.take m }, rfl, ⟨fun i o h1 => ?_, fun i j oi oj b h1 h2 h3 h4 h5 h6 => hs.good.inj i j oi oj b (look h1).2 h2 (look h3).2 h4 h5 h6, hs.good.ps⟩, by show e.h.take m = _; rw [hhp],
    fun t => (hh.get t e _ hs.good hhp (hs.tm t)).low (lowL_get hl t), hs.size, hs.marks.step rfl hu, hs.upd.trans hu, ?_⟩
  · exact ObjOK.low (hs.good.obj i o (look h1).2) (lowOs_get (by rw [hhp] at h1; exact ho) i o (by rw [hhp] at h1; exact h1))
  · refine ⟨fun i o hi h1 => ?_, hs.ext.ps, hs.ext.cell, hs.ext.size⟩
    obtain ⟨o', h2, h3⟩ := hs.ext.obj i o hi h1
    refine ⟨o', ?_, h3⟩
    show (e.h.take m)[i]? = some o'
    rw [take_get (o := none) (by omega)]; exact h2
end Go.AL
