/-
  AL: a contract's arguments told otherwise.
-/
import Derived.Test.YtnnpookoencpnaaAlK
namespace Go.AL
open Go
/-- Arguments of which less is said. -/
inductive WkL (h : Heap) : List AVal → List AVal → Prop
  | nil : WkL h [] []
  | cons {v v' : AVal} {r r' : List AVal} (h1 : Wk h v v') (h2 : WkL h r r') : WkL h (v :: r) (v' :: r')
theorem WkL.len {h : Heap} {l l' : List AVal} (hw : WkL h l l') : l.length = l'.length := by
  induction hw with
  | nil => rfl
  | cons _ _ ih => simp [ih]
theorem WkL.get {h : Heap} {l l' : List AVal} (hw : WkL h l l') : ∀ i, Wk h (l.getD i .junk) (l'.getD i .junk) := by
  induction hw with
  | nil => intro i; exact .refl _ _
  | cons h1 _ ih =>
    intro i
    cases i with
    | zero => exact h1
    | succ i => simpa using ih i
theorem Does.wk {P : Program} {f : FuncId} {args args' : List AVal} {h : Heap} {R : AVal → Heap → Prop} (hd : Does P f args' h R) (hw : WkL h args args') : Does P f args h R :=
  ⟨hd.1, fun e cs hg he ha => hd.2 e cs hg he ⟨hw.len.symm.trans ha.len, fun i hi => hw.get i e _ hg he (ha.rel i (by rw [hw.len]; exact hi))⟩⟩
end Go.AL
