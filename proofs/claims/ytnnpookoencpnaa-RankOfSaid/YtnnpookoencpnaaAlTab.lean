/-
  AL: the table of types of a program, looked over at once; printed off the program.
-/
import Derived.Test.YtnnpookoencpnaaAlHook
import Derived.KernelRfl
set_option linter.unusedSectionVars false
set_option linter.unusedVariables false
set_option linter.unusedSimpArgs false
namespace Go.AL
open Go

mutual
def zok : AVal → Value → Bool
  | .bool a, .bool b => a == b
  | .int k n, .int k' m => IntKind.same k k' && n == m
  | .str s, .string t => s == t.data.toList
  | .ls .nl .nil, .slice none 0 0 => true
  | .nilp, .pointer none => true
  | .nilf, .nilFunc => true
  | .nili, .nilIface => true
  | .agg vs, .agg cs => zoks vs cs.toList
  | .junk, _ => true
  | _, _ => false
def zoks : List AVal → List Value → Bool
  | [], [] => true
  | a :: x, c :: y => zok a c && zoks x y
  | _, _ => false
end
theorem same_eq {k k' : IntKind} (h : IntKind.same k k' = true) : k = k' := by
  cases k <;> cases k' <;> first | rfl | (simp [IntKind.same] at h)
mutual
theorem zok_spec (w : World) (ps : Nat → Nat) : ∀ (a : AVal) (c : Value), zok a c = true → PVR w ps a c
  | .bool a, c, h => by
    cases c <;> simp [zok] at h
    subst h; exact .bool _
  | .int k n, c, h => by
    cases c <;> simp [zok] at h
    obtain ⟨h1, rfl⟩ := h
    rw [same_eq h1]; exact .int _ _
  | .str s, c, h => by
    cases c <;> simp [zok] at h
    subst h
    rename_i t
    have := PVR.str (w := w) (ps := ps) t
    simpa using this
  | .ls q cp, c, h => by
    unfold zok at h
    split at h <;> first | (simp at h; done) | skip
    all_goals first | (rename_i e1 _; cases e1; done) | skip
    all_goals (rename_i e1; first | (cases e1; exact .lsnil .nl .nil rfl trivial (.inr rfl)) | (cases e1; done))
  | .nilp, c, h => by
    unfold zok at h
    split at h <;> first | (simp at h; done) | exact .nilp | (rename_i e1 _; cases e1; done) | (rename_i e1; cases e1; done)
  | .nilf, c, h => by
    unfold zok at h
    split at h <;> first | (simp at h; done) | exact .nilf | (rename_i e1 _; cases e1; done) | (rename_i e1; cases e1; done)
  | .nili, c, h => by
    unfold zok at h
    split at h <;> first | (simp at h; done) | exact .nili | (rename_i e1 _; cases e1; done) | (rename_i e1; cases e1; done)
  | .agg vs, c, h => by
    cases c <;> simp [zok] at h
    rename_i cs
    have := zoks_spec w ps vs cs.toList h
    exact .agg vs cs (by simpa using this.1) (fun i hi => by simpa using this.2 i hi)
  | .junk, c, h => .junk c
  | .sl .., c, h => by simp [zok] at h
  | .ptr .., c, h => by simp [zok] at h
  | .pe .., c, h => by simp [zok] at h
  | .pp .., c, h => by simp [zok] at h
  | .tup .., c, h => by simp [zok] at h
  | .clo .., c, h => by simp [zok] at h
  | .yld .., c, h => by simp [zok] at h
  | .iface .., c, h => by simp [zok] at h
  | .und, c, h => by simp [zok] at h
theorem zoks_spec (w : World) (ps : Nat → Nat) : ∀ (vs : List AVal) (cs : List Value), zoks vs cs = true → vs.length = cs.length ∧ ∀ i, i < vs.length → PVR w ps (vs.getD i .junk) (cs.getD i undef)
  | [], [], _ => ⟨rfl, fun i hi => by simp at hi⟩
  | [], _ :: _, h => by simp [zoks] at h
  | _ :: _, [], h => by simp [zoks] at h
  | a :: x, c :: y, h => by
    simp only [zoks, Bool.and_eq_true] at h
    have := zoks_spec w ps x y h.2
    refine ⟨by simp [this.1], fun i hi => ?_⟩
    cases i with
    | zero => exact zok_spec w ps a c h.1
    | succ i => simpa using this.2 i (by simpa using hi)
end
def pairsEq : List (Nat × Nat) → List (Nat × Nat) → Bool
  | [], [] => true
  | (a, b) :: x, (c, d) :: y => a == c && (b == d && pairsEq x y)
  | _, _ => false
theorem pairsEq_eq : ∀ {x y : List (Nat × Nat)}, pairsEq x y = true → x = y
  | [], [], _ => rfl
  | [], _ :: _, h => by simp [pairsEq] at h
  | _ :: _, [], h => by simp [pairsEq] at h
  | (a, b) :: x, (c, d) :: y, h => by
    simp only [pairsEq, Bool.and_eq_true, beq_iff_eq] at h
    rw [h.1, h.2.1, pairsEq_eq h.2.2]
def dok : TD → TypeDesc → Bool
  | .int k, .int k' => IntKind.same k k'
  | .bool, .bool => true
  | .str, .string => true
  | .slice e, .slice e' => e == e'
  | .array n e, .array n' e' => n == n' && e == e'
  | .struct fs, .struct fields => pairsEq (fields.toList.map fun f => (f.offset, f.type)) fs
  | .ptr e, .pointer e' => e == e'
  | .iface, .interface _ => true
  | .func, .func _ _ _ => true
  | .other, .struct _ => false
  | .other, .array _ _ => false
  | .other, .interface _ => false
  | .other, _ => true
  | _, _ => false
theorem dok_spec {a : TD} {d : TypeDesc} (h : dok a d = true) : DOK a d := by
  cases a <;> cases d <;> simp [dok] at h <;> simp only [DOK]
  · rw [same_eq h]
  · rw [h]
  · rw [h.1, h.2]
  · exact ⟨_, rfl, pairsEq_eq h⟩
  · rw [h]
  · exact ⟨_, rfl⟩
  · exact ⟨_, _, _, rfl⟩
def tiOKB (P : Program) (t : Nat) (ti : TI) : Bool :=
  match P.info? t, P.underlying t with
  | some info, some d => match info.zero with
    | some z => info.size == ti.sz && (info.bytes == ti.by_ && (z.cells.size == ti.sz && (z.cells.toList.all (·.oneCell') && (zok ti.zero z && (dok ti.d d && (ti.zero.cells.length == ti.sz && ((ti.d.isAgg || ti.sz == 1) &&
        ((!ti.eqf || !ti.d.isAgg || !P.eqGuardType P.depth t) && (!ti.eqf || match d with
          | .struct fields => !P.stoodInHeld t && fields.toList.all fun f => f.name != "_"
          | _ => true)))))))))
    | none => false
  | _, _ => false
theorem tiOKB_spec {P : Program} {t : Nat} {ti : TI} (h : tiOKB P t ti = true) : TIOK P t ti := by
  unfold tiOKB at h
  split at h
  · rename_i info d hi hu
    split at h
    · rename_i z hz
      simp only [Bool.and_eq_true, beq_iff_eq] at h
      obtain ⟨h1, h2, h3, h4, h5, h6, h7, h8, h9, h10⟩ := h
      refine ⟨⟨info, z, d, hi, h1, h2, hz, h3, fun c hc => ?_, fun w ps => zok_spec w ps _ _ h5, hu, dok_spec h6⟩, h7, fun ha => ?_, fun h1 h2 => ?_, fun h1 fields hf => ?_⟩
      · exact List.all_eq_true.1 h4 c (by simpa using hc)
      · rw [ha] at h8; simpa using h8
      · rw [h1, h2] at h9; simpa using h9
      · rw [h1] at h10
        rw [hu] at hf
        cases Option.some.inj hf
        simp only [Bool.not_true, Bool.false_or, Bool.and_eq_true, Bool.not_eq_true'] at h10
        exact ⟨h10.1, fun f hm => by have := List.all_eq_true.1 h10.2 f hm; simpa using this⟩
    · cases h
  · cases h
def tabB (P : Program) : TabL → Bool
  | [] => true
  | (t, ti) :: r => match tiOKB P t ti with
    | true => tabB P r
    | false => false
theorem tabB_spec' {P : Program} : ∀ {L : TabL}, tabB P L = true → ∀ t ti, TabL.get? L t = some ti → TIOK P t ti
  | [], _, t, ti, h => by simp [TabL.get?] at h
  | (u, i) :: r, hB, t, ti, h => by
    unfold tabB at hB
    split at hB
    · rename_i h1
      unfold TabL.get? at h
      split at h
      · rename_i hb
        cases h
        rw [← Nat.eq_of_beq_eq_true hb]
        exact tiOKB_spec h1
      · exact tabB_spec' hB t ti h
    · cases hB
theorem tabB_spec {P : Program} {T : Tab} (L : TabL) (hT : T = fun t => TabL.get? L t) (h : tabB P L = true) : TabOK P T := by
  subst hT
  exact tabB_spec' h
/-! ### The table, off the program -/
mutual
def zeroA : Value → AVal
  | .bool b => .bool b
  | .int k n => .int k n
  | .string s => match Nat.beq s.size 0 with
    | true => .str []
    | false => .junk
  | .slice none 0 0 => .ls .nl .nil
  | .pointer none => .nilp
  | .nilFunc => .nilf
  | .nilIface => .nili
  | .agg cs => .agg (zeroAs cs.toList)
  | _ => .junk
def zeroAs : List Value → List AVal
  | [] => []
  | c :: r => zeroA c :: zeroAs r
end
def descA : TypeDesc → TD
  | .int k => .int k
  | .bool => .bool
  | .string => .str
  | .slice e => .slice e
  | .array n e => .array n e
  | .struct fields => .struct (fields.toList.map fun f => (f.offset, f.type))
  | .pointer e => .ptr e
  | .interface _ => .iface
  | .func .. => .func
  | _ => .other
def tabRow (P : Program) (t : Nat) : TabL := match P.info? t, P.underlying t with
  | some info, some d => match info.zero with
    | some z => match Nat.blt info.size 400 with
      | true => [(t, ⟨descA d, info.size, info.bytes, zeroA z, match d with
        | .struct fields => !P.eqGuardType P.depth t && (!P.stoodInHeld t && fields.toList.all fun f => f.name != "_")
        | .array _ _ => !P.eqGuardType P.depth t
        | _ => true⟩)]
      | false => []
    | none => []
  | _, _ => []
def mkTab (P : Program) (n : Nat) : TabL := ((List.range n).map (tabRow P)).flatten
end Go.AL
