/-
  AL: one operation that is no call of a function, whatever it is.
-/
import Derived.Test.YtoeekjddeknmbaaGreatAl2
import Derived.RangeFuncLeaves
import Derived.RangeFuncRecord
import Derived.KernelRfl
set_option linter.unusedSectionVars false
set_option linter.unusedVariables false
set_option linter.unusedSimpArgs false
namespace Go.AL
open Go
def ARokN (e : Env) (r : AR) (run : Result Next) : Prop := match r with
 | .ok v h => ∃ c w', (run = .ok (.value c) w' ∨ (run = .ok .skip w' ∧ c = undef)) ∧ Step e v h c w'
 | .need q v h => rNd q → ∃ c w', (run = .ok (.value c) w' ∨ (run = .ok .skip w' ∧ c = undef)) ∧ Step e v h c w'
 | .stuck => True
theorem ARok.value {e : Env} {r : AR} {s : Result Value} {n : Result Next} (h : ARok e r s) (hn : n = s.andThen fun c w => .ok (.value c) w) : ARokN e r n := by
 subst hn
 cases r with
 | ok v h' => obtain ⟨c, w', rfl, hs⟩ := h; exact ⟨c, w', .inl rfl, hs⟩
 | need q v h' => exact fun hq => by obtain ⟨c, w', rfl, hs⟩ := h hq; exact ⟨c, w', .inl rfl, hs⟩
 | stuck => trivial
theorem ARok.skip {e : Env} {r : AR} {s : Result Unit} {n : Result Next} (h : ARok e r (s.andThen fun _ w => .ok undef w)) (hn : n = s.andThen fun _ w => .ok .skip w) : ARokN e r n := by
 subst hn
 cases s with
 | ok u w =>
   cases r with
   | ok v h' =>
     obtain ⟨c, w', h1, hs⟩ := h
     obtain ⟨rfl, rfl⟩ := Result.ok.inj h1
     exact ⟨_, _, .inr ⟨rfl, rfl⟩, hs⟩
   | need q v h' =>
     exact fun hq => by
      obtain ⟨c, w', h1, hs⟩ := h hq
      obtain ⟨rfl, rfl⟩ := Result.ok.inj h1
      exact ⟨_, _, .inr ⟨rfl, rfl⟩, hs⟩
   | stuck => trivial
 | halt x w =>
   cases r with
   | ok v h' => obtain ⟨c, w', h1, hs⟩ := h; cases h1
   | need q v h' => exact fun hq => by obtain ⟨c, w', h1, hs⟩ := h hq; cases h1
   | stuck => trivial
theorem VR.const {e : Env} (v : Value) : VR e (evc v) v := by
 unfold evc
 split
 ·exact .bool
 ·exact .int
 ·exact .str' rfl
 ·exact .pure _ _ (.lsnil .nl .nil rfl trivial (.inr rfl))
 ·exact .pure _ _ .nilf
 ·exact .pure _ _ .nili
 ·exact .pure _ _ .nilp
 ·exact .pure _ _ (.junk _)
section
variable {e : Env} {P : Program} {T : Tab} (hT : TabOK P T) (hg : Good e) {p : Pr} (hp : DataOK p) {tm : Nat → AVal} {a : Act} (hr : ∀ t, VR e (tm t) (a.tmps.getD t undef))
include hr
theorem VR.ev (x : Operand) : VR e (ev tm x) (a.eval x) := by
 cases x with
 | tmp t => exact hr t
 | const v => exact .const v
 | global g => exact .pure _ _ (.junk _)
 | func f => exact .pure _ _ (.clo f [] [] #[] #[] rfl rfl (fun i hi => by simp at hi) (fun i hi => by simp at hi))
theorem PR.ev : ∀ (l : List (Nat × Operand)), PR e (l.map fun x => (x.1, Go.AL.ev tm x.2)) (l.map fun x => (x.1, a.eval x.2))
 | [] => .nil
 | (i, x) :: r => .cons i _ _ _ _ (VR.ev hr x) (PR.ev r)
theorem OptR.ev (x : Option Operand) : OptR e (x.map (Go.AL.ev tm)) (x.map a.eval) := by
 cases x with
 | none => exact .inl ⟨rfl, rfl⟩
 | some x => exact .inr ⟨_, _, rfl, rfl, VR.ev hr x⟩
omit hr in
theorem cnat_spec {x : Operand} {n : Nat} (h : cnat x = some n) : ∃ k, a.eval x = .int k n := by
 unfold cnat at h
 split at h
 ·rename_i k m; cases h; exact ⟨k, rfl⟩
 ·cases h
theorem cells_map (l : List Operand) : ∀ i, i < (l.map (Go.AL.ev tm)).length → VR e ((l.map (Go.AL.ev tm)).getD i .junk) ((l.map a.eval).toArray.getD i undef) := fun i hi => by
 simp at hi
 have := VR.ev hr l[i]
 simpa [List.getD, hi] using this
include hT hg hp
theorem aop_ok (o : Oper) : ARokN e (aop p T tm e.h o.op) ((execOp a.eval o).run P e.w) := by
 unfold aop
 cases hop : o.op with
 | move x => exact ⟨a.eval x, e.w, .inl (by simp [execOp, hop]), .same hg (VR.ev hr x)⟩
 | assign x => exact ⟨a.eval x, e.w, .inl (by simp [execOp, hop]), .same hg (VR.ev hr x)⟩
 | pick c x y =>
   simp only
   split
   ·rename_i b hb
    have := VR.ev hr c
    rw [hb] at this
    have := this.bool_inv
    split
    ·exact ⟨a.eval x, e.w, .inl (by simp [execOp, hop, this, asBool]), .same hg (VR.ev hr x)⟩
    ·exact ⟨a.eval y, e.w, .inl (by simp [execOp, hop, this, asBool]), .same hg (VR.ev hr y)⟩
   ·trivial
 | alloc t => exact (aAlloc_ok hT hg).value (by simp [execOp, hop])
 | box t v => exact (aBox_ok hT hg (VR.ev hr v) t).value (by simp [execOp, hop])
 | build t ps => exact (aBuild_ok hT hg (qs := ps.map fun (i, x) => (i, a.eval x)) (by simpa using PR.ev hr ps.toList)).value (by simp [execOp, hop])
 | buildSlice t n ps => exact (aBuildSlice_ok hT hg (qs := ps.map fun (i, x) => (i, a.eval x)) (by simpa using PR.ev hr ps.toList)).value (by simp [execOp, hop])
 | load t x => exact (aLoad_ok hT hg hp (VR.ev hr x)).value (by simp [execOp, hop])
 | store t x v => exact (aStore_ok hT hg hp (VR.ev hr x) (VR.ev hr v)).skip (by simp [execOp, hop])
 | nilCheck x =>
   have := aNil_ok hg (VR.ev hr x) (o := o) (ρ := a.eval) (y := x) hop rfl (P := P)
   simp only
   revert this
   cases haN : aNil (Go.AL.ev tm x) e.h with
   | ok v h =>
     rintro ⟨rfl, rfl, hrun⟩
     exact ⟨a.eval x, e.w, .inl hrun, .same hg (VR.ev hr x)⟩
   | need => exact fun h => h.elim
   | stuck => exact fun _ => trivial
 | binOp op t x y ty => exact (aBin_ok hT hg hp (VR.ev hr x) (VR.ev hr y) x y).value (by
    simp only [execOp, hop, Sem.run_bind, Sem.run_pure]
    first | done | (generalize (eqGuard op t x y (a.eval x) (a.eval y)).run P e.w = r; cases r <;> rfl))
 | unOp op t x => exact (aUn_ok hT hg hp (VR.ev hr x)).value (by simp [execOp, hop])
 | convert s d x => exact (aConv_ok hT hg hp (VR.ev hr x)).value (by simp [execOp, hop])
 | makeInterface t x => exact (aMkI_ok hT hg hp (VR.ev hr x)).value (by simp [execOp, hop])
 | makeFunc fn first caps =>
   simp only
   split
   ·rename_i f
    refine ⟨.func (.func f) (first.map a.eval) (caps.map a.eval), e.w, .inl (by simp [execOp, hop, Instr.makeFunc]), .same hg ?_⟩
    refine .clo f _ _ _ _ (by simp) (by simp) (fun i hi => ?_) (fun i hi => ?_)
    ·have := cells_map hr first.toList i hi
     simpa using this
    ·have := cells_map hr caps.toList i hi
     simpa using this
   ·trivial
 | makeSlice t l c =>
   refine (aMkS_ok hT hg hp (VR.ev hr l) (VR.ev hr c) ?_).value (by simp [execOp, hop])
   intro h
   split at h
   ·rw [Nat.eq_of_beq_eq_true h]
   ·cases h
 | slice t x lo hi mx =>
   cases mx with
   | none => exact (aSlice_ok hT hg hp (VR.ev hr x) (OptR.ev hr lo) (OptR.ev hr hi) (.inl ⟨rfl, rfl⟩)).value (by simp [execOp, hop])
   | some m =>
     cases hi with
     | none => trivial
     | some b =>
       refine (aSlice3_ok hT hg hp (VR.ev hr x) (OptR.ev hr lo) (VR.ev hr b) (VR.ev hr m) (fun h => ?_)).value (by simp [execOp, hop])
       unfold sameOp at h
       split at h
       ·rw [Nat.eq_of_beq_eq_true h]; exact .inl rfl
       ·split at h
        ·rename_i n hn
         split at h
         ·rename_i m' hm
          rw [Nat.eq_of_beq_eq_true h] at hn
          obtain ⟨k1, e1⟩ := cnat_spec (a := a) hn
          obtain ⟨k2, e2⟩ := cnat_spec (a := a) hm
          exact .inr ⟨k1, k2, m', e1, e2⟩
         ·cases h
        ·cases h
 | fieldAddr s x f => exact (aFieldAddr_ok hT hg hp (VR.ev hr x)).value (by simp [execOp, hop])
 | field s x f => exact (aField_ok hT hg hp (VR.ev hr x)).value (by simp [execOp, hop])
 | indexAddr t x i => exact (aIndexAddr_ok hT hg hp (VR.ev hr x) (VR.ev hr i) (fun n h => cnat_spec h)).value (by simp [execOp, hop])
 | index t x i => exact (aIndex_ok hT hg hp (VR.ev hr x) (VR.ev hr i) (fun n h => cnat_spec h)).value (by simp [execOp, hop])
 | extract x i => exact (aExtract_ok hT hg hp (VR.ev hr x)).value (by simp [execOp, hop])
 | makeMap t r => exact (aMakeMap_ok hT hg (OptR.ev hr r)).value (by simp [execOp, hop])
 | mapUpdate t m k v => exact (aMapUpd_ok hT hg (VR.ev hr m) (VR.ev hr k) (VR.ev hr v)).skip (by simp [execOp, hop])
 | insert t m k v => exact (aMapUpd_ok hT hg (VR.ev hr m) (VR.ev hr k) (VR.ev hr v)).skip (by simp [execOp, hop])
 | lookup t m k ok => exact (aLookup_ok hT hg (VR.ev hr m) (VR.ev hr k)).value (by simp [execOp, hop])
 | typeAssert x xt t ok => exact (aAssert_ok hT hg hp (t := xt) (VR.ev hr x)).value (by simp [execOp, hop])
 | call c =>
   obtain ⟨callee, args, ats⟩ := c
   simp only
   split
   ·rename_i b
    have two : ∀ {x y : AVal}, args.toList.map (Go.AL.ev tm) = [x, y] → ∃ u v, args = #[u, v] ∧ Go.AL.ev tm u = x ∧ Go.AL.ev tm v = y := fun {x y} h => by
     match hl : args.toList, h with
     | [u, v], h =>
       simp only [List.map_cons, List.map_nil, List.cons.injEq, and_true] at h
       exact ⟨u, v, by rw [← Array.toArray_toList (xs := args), hl], h.1, h.2⟩
    have one : ∀ {x : AVal}, args.toList.map (Go.AL.ev tm) = [x] → ∃ u, args = #[u] ∧ Go.AL.ev tm u = x := fun {x} h => by
     match hl : args.toList, h with
     | [u], h =>
       simp only [List.map_cons, List.map_nil, List.cons.injEq, and_true] at h
       exact ⟨u, by rw [← Array.toArray_toList (xs := args), hl], h⟩
    unfold aBuiltin
    split
    ·split
     ·rename_i t x h1 h2
      have h1 : ats = #[t] := by rw [← Array.toArray_toList (xs := ats), h1]
      obtain ⟨u, h2', rfl⟩ := one h2
      clear h2
      have h2 := h2'
      subst h1; subst h2
      exact (aLen_ok hT hg hp (VR.ev hr u) o.type).value (by simp [execOp, hop, resolve, invoke, builtin])
     ·trivial
    ·split
     ·rename_i x y h2
      obtain ⟨u, v, h2', rfl, rfl⟩ := two h2
      clear h2
      have h2 := h2'
      subst h2
      exact (aMax_ok hT hg hp (VR.ev hr u) (VR.ev hr v) ats o.type).value (by simp [execOp, hop, resolve, invoke, builtin])
     ·trivial
    ·split
     ·rename_i x y h2
      obtain ⟨u, v, h2', rfl, rfl⟩ := two h2
      clear h2
      have h2 := h2'
      subst h2
      exact (aMin_ok hT hg hp (VR.ev hr u) (VR.ev hr v) ats o.type).value (by simp [execOp, hop, resolve, invoke, builtin])
     ·trivial
    ·split
     ·rename_i t t2 x y h1 h2
      have h1 : ats = #[t, t2] := by rw [← Array.toArray_toList (xs := ats), h1]
      obtain ⟨u, v, h2', rfl, rfl⟩ := two h2
      clear h2
      have h2 := h2'
      subst h1; subst h2
      exact (aCopy_ok hT hg hp (t2 := t2) o.type (VR.ev hr u) (VR.ev hr v)).value (by simp [execOp, hop, resolve, invoke, builtin])
     ·trivial
    ·split
     ·rename_i t x h1 h2
      have h1 : ats = #[t] := by rw [← Array.toArray_toList (xs := ats), h1]
      obtain ⟨u, h2', rfl⟩ := one h2
      clear h2
      have h2 := h2'
      subst h1; subst h2
      exact (aClear_ok hT hg hp o.type (VR.ev hr u)).value (by simp [execOp, hop, resolve, invoke, builtin])
     ·trivial
    ·split
     ·rename_i t t2 x y h1 h2
      have h1 : ats = #[t, t2] := by rw [← Array.toArray_toList (xs := ats), h1]
      obtain ⟨u, v, h2', rfl, rfl⟩ := two h2
      clear h2
      have h2 := h2'
      subst h1; subst h2
      exact (aAppend_tok_ok hT hg hp o.type (VR.ev hr u) (VR.ev hr v)).value (by simp [execOp, hop, resolve, invoke, builtin])
     ·trivial
    ·trivial
   ·trivial
 | _ => trivial
end
end Go.AL
/-
  AL: contracts; one operation with its guard; regions in the order of the text; code.
-/
set_option linter.unusedSectionVars false
set_option linter.unusedVariables false
set_option linter.unusedSimpArgs false
namespace Go.AL
open Go
structure ArgsR (e : Env) (l : List AVal) (cs : Array Value) : Prop where
 len : l.length = cs.size
 rel : ∀ i, i < l.length → VR e (l.getD i .junk) (cs.getD i undef)
theorem ArgsR.append {e : Env} {l l' : List AVal} {cs cs' : Array Value} (h : ArgsR e l cs) (h' : ArgsR e l' cs') : ArgsR e (l ++ l') (cs ++ cs') := by
 refine ⟨by simp [h.len, h'.len], fun i hi => ?_⟩
 rw [List.length_append] at hi
 have e1 := h.len
 simp only [List.getD, Array.getD_eq_getD_getElem?, List.getElem?_append, Array.getElem?_append]
 by_cases i1 : i < l.length
 ·rw [if_pos i1, if_pos (by omega)]
  have := h.rel i i1
  simpa [List.getD, Array.getD_eq_getD_getElem?] using this
 ·rw [if_neg i1, if_neg (by omega), ← e1]
  have := h'.rel (i - l.length) (by omega)
  simpa [List.getD, Array.getD_eq_getD_getElem?] using this
theorem VR.clo_inv {e : Env} {g : FuncId} {fs cs : List AVal} {c : Value} (h : VR e (.clo (.func g) fs cs) c) : ∃ gs ds, c = .func (.func g) gs ds ∧ ArgsR e fs gs ∧ ArgsR e cs ds := by
 cases h with
 | pure _ _ hf => cases hf with
   | clo _ _ _ gs ds h1 h2 h3 h4 => exact ⟨gs, ds, rfl, ⟨h1, fun i hi => .pure _ _ (h3 i hi)⟩, ⟨h2, fun i hi => .pure _ _ (h4 i hi)⟩⟩
 | clo _ _ _ gs ds h1 h2 h3 h4 => exact ⟨gs, ds, rfl, ⟨h1, h3⟩, ⟨h2, h4⟩⟩
def Post (e : Env) (R : AVal → Heap → Prop) : Ending → World → Prop
 | .returned c, w' => ∃ r e', R r e'.h ∧ e'.w = w' ∧ Good e' ∧ VR e' r c ∧ Upd e e' ∧ Ext e.h.length e e'
 | _, _ => False
def Enters (P : Program) (f : FuncId) : Prop := ∃ fn, P.funcs[f]? = some fn ∧ (fn.name == "runtime.NumGoroutine") = false ∧ fn.body.isNone = false
def Does (P : Program) (f : FuncId) (args : List AVal) (h : Heap) (R : AVal → Heap → Prop) : Prop :=
 Enters P f ∧ ∀ (e : Env) (cs : Array Value), Good e → e.h = h → ArgsR e args cs → Calls P f cs e.w (Post e R)
theorem Post.mono {e : Env} {R R' : AVal → Heap → Prop} (h : ∀ r h', R r h' → R' r h') : ∀ en w, Post e R en w → Post e R' en w
 | .returned c, w, ⟨r, e', h1, h2⟩ => ⟨r, e', h _ _ h1, h2⟩
theorem Does.mono {P : Program} {f : FuncId} {args : List AVal} {h : Heap} {R R' : AVal → Heap → Prop} (hs : Does P f args h R) (hr : ∀ r h', R r h' → R' r h') : Does P f args h R' :=
 ⟨hs.1, fun e cs hg he ha => (hs.2 e cs hg he ha).mono (Post.mono hr)⟩
def InvV (P : Program) (c : Value) (cs : Array Value) (w : World) (R : Ending → World → Prop) : Prop :=
 ∃ nx w', (do let d ← Deferred.ofValue c cs; invoke d.target d.args : Sem Next).run P w = .ok nx w' ∧ (match nx with
  | .enter f as_ => Calls P f as_ w' R
  | .round l f tmps assign body => RoundIn Fence.wide 0 P l f tmps assign body w' R
  | _ => False)
def DoesV (P : Program) (v : AVal) (args : List AVal) (h : Heap) (R : AVal → Heap → Prop) : Prop :=
 ∀ (e : Env) (c : Value) (cs : Array Value), Good e → e.h = h → VR e v c → ArgsR e args cs → InvV P c cs e.w (Post e R)
theorem InvV.mono {P : Program} {c : Value} {cs : Array Value} {w : World} {R R' : Ending → World → Prop} (h : InvV P c cs w R) (hr : ∀ en w, R en w → R' en w) : InvV P c cs w R' := by
 obtain ⟨nx, w', h1, h2⟩ := h
 refine ⟨nx, w', h1, ?_⟩
 cases nx <;> simp only at h2 ⊢
 ·exact Calls.mono h2 hr
 ·exact RoundIn.mono h2 hr
theorem DoesV.mono {P : Program} {v : AVal} {args : List AVal} {h : Heap} {R R' : AVal → Heap → Prop} (hs : DoesV P v args h R) (hr : ∀ r h', R r h' → R' r h') : DoesV P v args h R' :=
 fun e c cs hg he hv ha => (hs e c cs hg he hv ha).mono (Post.mono hr)
theorem run_callFunc {P : Program} {f : FuncId} (h : Enters P f) (as_ : Array Value) (w : World) : (callFunc f as_).run P w = .ok (.enter f as_) w := by
 obtain ⟨fn, h1, h2, h3⟩ := h
 simp only [callFunc, Sem.run_bind, run_program, Result.andThen_ok, h1, h2, h3, Bool.false_eq_true, if_false, Sem.run_pure]
def mark_ (D : Nat) : Deferred := { target := .collected D, args := #[] }
structure Marks (e0 e : Env) (a : Act) : Prop where
 ex : ∃ dl : List Nat, a.defers = dl.map mark_ ∧ dl.Nodup ∧ ∀ D ∈ dl, e0.w.heap.size ≤ D ∧ e.w.heap[D]? = some (.deferred (some [])) ∧ ¬ Owned e D
structure SR (e0 : Env) (nt : Nat) (s : St) (e : Env) (a : Act) : Prop where
 good : Good e
 heap : e.h = s.h
 tm : ∀ t, VR e (s.tm t) (a.tmps.getD t undef)
 size : a.tmps.size = nt
 marks : Marks e0 e a
 upd : Upd e0 e
 ext : Ext e0.h.length e0 e
theorem Marks.step {e0 e e' : Env} {a a' : Act} (h : Marks e0 e a) (hd : a'.defers = a.defers) (hu : Upd e e') : Marks e0 e' a' := by
 obtain ⟨dl, h1, h2, h3⟩ := h.ex
 refine ⟨dl, hd.trans h1, h2, fun D hD => ?_⟩
 obtain ⟨k1, k2, k3⟩ := h3 D hD
 have hlt : D < e.w.heap.size := (Array.getElem?_eq_some_iff.1 k2).1
 refine ⟨k1, ((hu.frame D hlt k3).1).trans k2, fun ho => ?_⟩
 rcases hu.own D ho with h | h
 ·exact k3 h
 ·omega
theorem Ext0 {e0 e e' : Env} (h : Ext e0.h.length e0 e) (k : Ext e.h.length e e') : Ext e0.h.length e0 e' where
 obj := fun i o hi ho => by
  obtain ⟨o1, h1, m1⟩ := h.obj i o hi ho
  have : i < e.h.length := (List.getElem?_eq_some_iff.1 h1).1
  obtain ⟨o2, h2, m2⟩ := k.obj i o1 this h1
  exact ⟨o2, h2, m1.trans m2⟩
 ps := fun b => Nat.le_trans (h.ps b) (k.ps b)
 cell := fun b o ho => (k.cell b o (Nat.lt_of_lt_of_le ho (h.ps b))).trans (h.cell b o ho)
 size := fun b => Nat.le_trans (h.size b) (k.size b)
theorem put_get {a : Act} {d : Nat} {c : Value} (hd : d < a.tmps.size) (t : Nat) : (a.put (some d) c).tmps.getD t undef = if t = d then c else a.tmps.getD t undef := by
 simp only [Act.put, Array.getD_eq_getD_getElem?, Array.getElem?_setIfInBounds]
 by_cases h : d = t
 ·subst h; simp [hd]
 ·rw [if_neg h, if_neg (fun e => h e.symm)]
theorem upd_get (tm : Nat → AVal) (d : Nat) (v : AVal) (t : Nat) : upd tm d v t = if t = d then v else tm t := by
 unfold upd
 cases h : Nat.beq t d
 ·rw [if_neg (fun e => by subst e; simp at h)]
 ·rw [if_pos (Nat.eq_of_beq_eq_true h)]
theorem SR.put {e0 : Env} {nt : Nat} {s : St} {e : Env} {a : Act} (h : SR e0 nt s e a) {v : AVal} {h' : Heap} {c : Value} {w' : World} (hs : Step e v h' c w') {d : Option Nat} {K : St → Prop} (hk : putK nt s d v h' K) :
 ∃ s' e', K s' ∧ e'.w = w' ∧ SR e0 nt s' e' (a.put d c) := by
 obtain ⟨e', hg, hh, hw, hv, hu, hx⟩ := hs
 have htm : ∀ t, VR e' (s.tm t) (a.tmps.getD t undef) := fun t => (h.tm t).mono (Nat.le_refl _) hx
 cases d with
 | none => exact ⟨⟨s.tm, h'⟩, e', hk, hw, hg, hh, htm, h.size, h.marks.step rfl hu, h.upd.trans hu, Ext0 h.ext hx⟩
 | some d =>
   unfold putK at hk
   simp only at hk
   split at hk
   ·rename_i hlt
    have hlt : d < nt := by simpa using hlt
    refine ⟨_, e', hk, hw, hg, hh, fun t => ?_, ?_, h.marks.step rfl hu, h.upd.trans hu, Ext0 h.ext hx⟩
    ·show VR e' (Go.AL.upd s.tm d v t) _
     rw [upd_get, put_get (by rw [h.size]; exact hlt)]
     split
     ·exact hv
     ·exact htm t
    ·simp [Act.put, h.size]
   ·exact hk.elim
abbrev Fw (ro : Option Nat) : Fence := { Fence.wide with round := ro }
def Lift (e0 : Env) (nt : Nat) (K : St → Prop) : Act → World → Prop := fun a w => ∃ s e, K s ∧ e.w = w ∧ SR e0 nt s e a
def LiftX (e0 : Env) (nt : Nat) (Q : Exit → St → Prop) : Exit → Act → World → Prop := fun x a w => ∃ s e, Q x s ∧ e.w = w ∧ SR e0 nt s e a
section
variable (P : Program)
def realCalld (f : FuncId) (args : List AVal) (h : Heap) (K : AVal → Prop) : Prop := ∃ r, (∀ x : Heap, Does P f args (h ++ x) (fun r' h' => r' = r ∧ h' = h ++ x)) ∧ K r
def realCallvd (v : AVal) (args : List AVal) (h : Heap) (K : AVal → Prop) : Prop := ∃ r, (∀ x : Heap, DoesV P v args (h ++ x) (fun r' h' => r' = r ∧ h' = h ++ x)) ∧ K r
end
structure CallOK (P : Program) (p : Pr) : Prop where
 call : p.call = Does P
 calld : p.calld = realCalld P
 callv : p.callv = DoesV P
 callvd : p.callvd = realCallvd P
def MTabOK (P : Program) (T : Tab) (M : MTab) : Prop := ∀ t m f d, M.get? t m = some (f, d) → ∀ (v : Value) (w : World), match d with
 | none => (method (P.types.size + Made.depth) t v m).run P w = .ok (f, v) w
 | some u => ∀ r, (Instr.loadAt u v).run P w = .ok r w → (method (P.types.size + Made.depth) t v m).run P w = .ok (f, r) w
section
variable {P : Program} {T : Tab} {M : MTab} (hT : TabOK P T) (hM : MTabOK P T M) {p : Pr} (hp : DataOK p) (hc : CallOK P p) {e0 : Env} {nt : Nat} {ro : Option Nat} {n : Nat}
include hT hM hp hc
theorem call_post {s : St} {e : Env} {a : Act} (h : SR e0 nt s e a) {d : Option Nat} {K : St → Prop} {R : AVal → Heap → Prop} (hR : ∀ r h', R r h' → putK nt s d r h' K) {Q : Exit → Act → World → Prop} :
 ∀ en w, Post e R en w → (match en, w with
  | .returned v, w'' => Lift e0 nt K (a.put d v) w''
  | .panicked chain, w'' => Q (.panic chain) a w''
  | .outgrown, _ => LetsOut Q)
 | .returned c, w, ⟨r, e', h1, h2, h3, h4, h5, h6⟩ => by
   obtain ⟨s', e2, k1, k2, k3⟩ := h.put (d := d) (K := K) (c := c) (w' := w) (v := r) (h' := e'.h) ⟨e', h3, rfl, h2, h4, h5, h6⟩ (hR _ _ h1)
   exact ⟨s', e2, k1, k2, k3⟩
theorem args_ok {s : St} {e : Env} {a : Act} (h : SR e0 nt s e a) (l : Array Operand) : ArgsR e (l.toList.map (ev s.tm)) (l.map a.eval) :=
 ⟨by simp, fun i hi => by have := cells_map h.tm l.toList i hi; simpa using this⟩
theorem spec_calls {f : FuncId} {args : List AVal} {hh : Heap} {R : AVal → Heap → Prop} (hs : Does P f args hh R) {e : Env} {cs : Array Value} (hg : Good e) (he : e.h = hh) (ha : ArgsR e args cs) : CallsIn (Fw ro) (n - 1) P f cs e.w (Post e R) :=
 callsIn_wide.2 (hs.2 e cs hg he ha)
theorem enter_ok {s : St} {e : Env} {a : Act} (h : SR e0 nt s e a) {o : Oper} {f : FuncId} {cs : Array Value} (hrun : (o.semAt ro a.eval).run P e.w = .ok (.enter f cs) e.w) {args : List AVal} (ha : ArgsR e args cs) {R : AVal → Heap → Prop} (hs : Does P f args s.h R)
 {K : St → Prop} (hR : ∀ r h', R r h' → putK nt s o.dst r h' K) {Q : Exit → Act → World → Prop} : o.wpIn (Fw ro) n P a e.w (Lift e0 nt K) Q := by
 refine ⟨fun _ _ => trivial, ?_⟩
 show o.uponIn _ _ _ _ _ _ ((o.semAt ro a.eval).run P e.w)
 rw [hrun]
 refine ⟨fun hd => by simp [Fence.wide] at hd, ?_⟩
 refine (spec_calls hT hM hp hc hs h.good h.heap ha).mono ?_
 exact call_post hT hM hp hc h hR
theorem invV_ok {s : St} {e : Env} {a : Act} (h : SR e0 nt s e a) {o : Oper} {c : Value} {cs : Array Value} (hrun : (o.semAt ro a.eval).run P e.w = (do let d ← Deferred.ofValue c cs; invoke d.target d.args : Sem Next).run P e.w)
 {R : AVal → Heap → Prop} (hs : InvV P c cs e.w (Post e R)) {K : St → Prop} (hR : ∀ r h', R r h' → putK nt s o.dst r h' K) {Q : Exit → Act → World → Prop} : o.wpIn (Fw ro) n P a e.w (Lift e0 nt K) Q := by
 refine ⟨fun _ _ => trivial, ?_⟩
 show o.uponIn _ _ _ _ _ _ ((o.semAt ro a.eval).run P e.w)
 rw [hrun]
 obtain ⟨nx, w', h1, h2⟩ := hs
 rw [h1]
 cases nx <;> simp only at h2 <;> try exact h2.elim
 ·refine ⟨fun hd => by simp [Fence.wide] at hd, ?_⟩
  have h3 : CallsIn (Fw ro) (n - 1) P _ _ w' (Post e R) := callsIn_wide.2 h2
  exact h3.mono (call_post hT hM hp hc h hR)
 ·refine ⟨fun hd => by simp [Fence.wide] at hd, ?_⟩
  have h3 : RoundIn (Fw ro) (n - 1) P _ _ _ _ _ w' (Post e R) := ⟨trivial, fun c cs _ => h2.2 c cs (room_wide _)⟩
  exact h3.mono (call_post hT hM hp hc h hR)
theorem semAt_call {a : Act} {o : Oper} {c : Call} (ho : o.op = .call c) : o.semAt ro a.eval = (do let d ← resolve a.eval c o.type; invoke d.target d.args : Sem Next) := by
 rw [Oper.semAt_eq _ _ _ (fun c' h => by rw [ho] at h; cases h)]
 simp only [execOp, ho]
theorem wpo_ok {dr : Bool} {s : St} {e : Env} {a : Act} (h : SR e0 nt s e a) {o : Oper} {K : St → Prop} (hw : wpo p T M nt dr s o K) {Q : Exit → Act → World → Prop} : o.wpIn (Fw ro) n P a e.w (Lift e0 nt K) Q := by
 have plain : (match aop p T s.tm s.h o.op with
  | .ok v h => putK nt s o.dst v h K
  | .need q v h => p.nd q ∧ putK nt s o.dst v h K
  | .stuck => False) → (∀ c, o.op ≠ .defer c) → o.wpIn (Fw ro) n P a e.w (Lift e0 nt K) Q := fun hw hnd => by
  have hop := aop_ok hT h.good hp h.tm o
  rw [h.heap] at hop
  refine ⟨fun _ _ => trivial, ?_⟩
  show o.uponIn _ _ _ _ _ _ ((o.semAt ro a.eval).run P e.w)
  rw [Oper.semAt_eq _ _ _ hnd]
  have fin : ∀ v h', putK nt s o.dst v h' K → (∃ c w', ((execOp a.eval o).run P e.w = .ok (.value c) w' ∨ ((execOp a.eval o).run P e.w = .ok .skip w' ∧ c = undef)) ∧ Step e v h' c w') →
   o.uponIn (Fw ro) n P a (Lift e0 nt K) Q ((execOp a.eval o).run P e.w) := fun v h' hk ⟨c, w', hr, hs⟩ => by
   obtain ⟨s', e', k1, k2, k3⟩ := h.put hs hk
   rcases hr with hr | ⟨hr, rfl⟩ <;> rw [hr] <;> exact ⟨s', e', k1, k2, k3⟩
  revert hw hop
  cases aop p T s.tm s.h o.op with
  | ok v h' => exact fun hw hop => fin v h' hw hop
  | need q v h' => exact fun hw hop => fin v h' hw.2 (hop (by have := hw.1; rwa [hp.nd] at this))
  | stuck => exact fun hw => hw.elim
 unfold wpo at hw
 split at hw
 ·rename_i c ho
  split at hw
  ·rename_i f hcal
   have hrun := semAt_call hT hM hp hc (ro := ro) (a := a) ho
   have hf := VR.ev h.tm f
   split at hw
   ·-- a function that is known
    rename_i g first caps hev
    rw [hev] at hf
    obtain ⟨gs, ds, hval, r1, r2⟩ := hf.clo_inv
    have hargs := args_ok hT hM hp hc h c.args
    have hall : ArgsR e (first ++ c.args.toList.map (ev s.tm) ++ caps) (gs ++ c.args.map a.eval ++ ds) := (r1.append hargs).append r2
    have hent : Enters P g → (o.semAt ro a.eval).run P e.w = .ok (.enter g (gs ++ c.args.map a.eval ++ ds)) e.w := fun hE => by
     rw [hrun]
     obtain ⟨callee, as_, ats⟩ := c
     simp only at hcal
     subst hcal
     simp only [resolve, hval, Deferred.ofValue, Sem.run_bind, Sem.run_pure, Result.andThen_ok, invoke, run_callFunc hE]
    split at hw
    ·rw [hc.call] at hw
     exact enter_ok hT hM hp hc h (hent hw.1) hall hw (fun r h' hr => hr)
    ·split at hw
     ·rw [hc.calld] at hw
      obtain ⟨r, hs, hk⟩ := hw
      have hs := hs []
      rw [List.append_nil] at hs
      exact enter_ok hT hM hp hc h (hent hs.1) hall hs (fun r' h' hr => by obtain ⟨rfl, rfl⟩ := hr; exact hk)
     ·obtain ⟨r, h1, hs, hk⟩ := hw
      rw [hc.call] at hs
      exact enter_ok hT hM hp hc h (hent hs.1) hall hs (fun r' h' hr => by obtain ⟨rfl, rfl⟩ := hr; exact hk)
   ·-- a function value
    rename_i v hne
    have hinv : (o.semAt ro a.eval).run P e.w = (do let d ← Deferred.ofValue (a.eval f) (c.args.map a.eval); invoke d.target d.args : Sem Next).run P e.w := by
     rw [hrun]
     obtain ⟨callee, as_, ats⟩ := c
     simp only at hcal
     subst hcal
     rfl
    have hargs := args_ok hT hM hp hc h c.args
    split at hw
    ·rw [hc.callv] at hw
     exact invV_ok hT hM hp hc h hinv (hw e _ _ h.good h.heap hf hargs) (fun r h' hr => hr)
    ·split at hw
     ·rw [hc.callvd] at hw
      obtain ⟨r, hs, hk⟩ := hw
      have hs := hs []
      rw [List.append_nil] at hs
      exact invV_ok hT hM hp hc h hinv (hs e _ _ h.good h.heap hf hargs) (fun r' h' hr => by obtain ⟨rfl, rfl⟩ := hr; exact hk)
     ·obtain ⟨r, h1, hs, hk⟩ := hw
      rw [hc.callv] at hs
      exact invV_ok hT hM hp hc h hinv (hs e _ _ h.good h.heap hf hargs) (fun r' h' hr => by obtain ⟨rfl, rfl⟩ := hr; exact hk)
  ·-- a method, through an interface
   rename_i r name hcal
   have hrun := semAt_call hT hM hp hc (ro := ro) (a := a) ho
   have hf := VR.ev h.tm r
   split at hw
   ·rename_i f x hrec
    have hshape : ∃ t v c' y, ev s.tm r = .iface t v ∧ a.eval r = .iface t c' ∧ VR e x y ∧ (method (P.types.size + Made.depth) t c' name).run P e.w = .ok (f, y) e.w := by
     cases hev : ev s.tm r <;> rw [hev] at hrec <;> simp only [recvA] at hrec <;> try cases hrec
     rename_i t v
     rw [hev] at hf
     obtain ⟨c', hc', hv⟩ := hf.iface_inv
     cases hm : MTab.get? M t name with
     | none => rw [hm] at hrec; cases hrec
     | some fd =>
       obtain ⟨f', d⟩ := fd
       rw [hm] at hrec
       have hm2 := hM _ _ _ _ hm c' e.w
       cases d with
       | none =>
         cases hrec
         exact ⟨t, _, c', c', rfl, hc', hv, hm2⟩
       | some u =>
         simp only at hrec hm2
         have hl := aLoad_keep hT h.good hp (t := u) hv
         rw [h.heap] at hl
         split at hrec
         ·rename_i x' hx hld
          cases hrec
          rw [hld] at hl
          obtain ⟨_, y, hr, hy⟩ := hl
          exact ⟨t, _, c', y, rfl, hc', hy, hm2 y hr⟩
         ·cases hrec
    obtain ⟨t, v, c', y, hev, hval, hxy, hmeth⟩ := hshape
    have hargs := args_ok hT hM hp hc h c.args
    have hone : ArgsR e [x] #[y] := ⟨rfl, fun i hi => by
     have : i = 0 := by simp at hi; omega
     subst this; exact hxy⟩
    have hall : ArgsR e (x :: c.args.toList.map (ev s.tm)) (#[y] ++ c.args.map a.eval) := hone.append hargs
    have hent : Enters P f → (o.semAt ro a.eval).run P e.w = .ok (.enter f (#[y] ++ c.args.map a.eval)) e.w := fun hE => by
     rw [hrun]
     obtain ⟨callee, as_, ats⟩ := c
     simp only at hcal
     subst hcal
     simp only [resolve, hval, Sem.run_bind, Sem.run_pure, Result.andThen_ok, invoke]
     generalize has : as_.map a.eval = ar
     have e1 : #[Value.iface t c'] ++ ar = ((Value.iface t c') :: ar.toList).toArray := by simp
     rw [e1]
     simp [callMethod, hmeth, run_callFunc hE]
     exact List.take_of_length_le (by simp)
    split at hw
    ·rw [hc.call] at hw
     exact enter_ok hT hM hp hc h (hent hw.1) hall hw (fun r h' hr => hr)
    ·rw [hc.calld] at hw
     obtain ⟨r, hs, hk⟩ := hw
     have hs := hs []
     rw [List.append_nil] at hs
     exact enter_ok hT hM hp hc h (hent hs.1) hall hs (fun r' h' hr => by obtain ⟨rfl, rfl⟩ := hr; exact hk)
   ·exact hw.elim
  ·exact plain hw (fun c' h => by rw [ho] at h; cases h)
 ·rename_i op hnc
  refine plain hw (fun c' h => ?_)
  rw [h] at hw
  simp [aop] at hw
omit hT hM hp hc in
theorem VR.und_inv {e : Env} {c : Value} (h : VR e .und c) : c = undef := by
 cases h with | pure _ _ h => cases h; rfl
omit hT hM hp hc in
theorem upd_self (tm : Nat → AVal) (d : Nat) (v : AVal) (h : tm d = v) : upd tm d v = tm := by
 funext t
 rw [upd_get]
 split
 ·rename_i e; rw [e, h]
 ·rfl
def GuardIn (F : Fence) (n : Nat) (P : Program) (ops : Array Oper) (o : Oper) (K : Act → World → Prop) (Q : Exit → Act → World → Prop) (a : Act) (w : World) : Prop :=
 if Region.wanted o (yielded ops a.tmps) then o.wpIn F n P a w K Q else (∀ f, o.about P w a.eval = some f → F.fn f) ∧ K (a.put o.dst undef) w
theorem wpg_ok {dr : Bool} {ops : Array Oper} {s : St} {e : Env} {a : Act} (h : SR e0 nt s e a) {o : Oper} {K : St → Prop} (hw : wpg p T M nt dr ops.toList o s K) {Q : Exit → Act → World → Prop} :
 GuardIn (Fw ro) n P ops o (Lift e0 nt K) Q a e.w := by
 unfold GuardIn
 have skip : ∀ tm, tm = s.tm → putK nt ⟨tm, s.h⟩ o.dst .und s.h K → (∀ f, o.about P e.w a.eval = some f → (Fw ro).fn f) ∧ Lift e0 nt K (a.put o.dst undef) e.w := fun tm htm hk => by
  subst htm
  refine ⟨fun _ _ => trivial, ?_⟩
  obtain ⟨s', e', k1, k2, k3⟩ := h.put (c := undef) (w' := e.w) (v := .und) (h' := s.h) (by rw [← h.heap]; exact Step.same h.good (.pure _ _ .und)) hk
  exact ⟨s', e', k1, k2, k3⟩
 unfold wpg at hw
 split at hw
 ·rename_i hg
  have : Region.wanted o (yielded ops a.tmps) = true := by simp [Region.wanted, hg]
  rw [if_pos this]
  exact wpo_ok hT hM hp hc h hw
 ·rename_i j b hg
  split at hw
  ·exact hw.elim
  ·rename_i d hd
   have hd : (ops[j]?).bind (·.dst) = some d := by simpa using hd
   have hv := h.tm d
   have yb : ∀ t, s.tm d = .bool t → yielded ops a.tmps j = some t := fun t ht => by
    rw [ht] at hv
    have := hv.bool_inv
    unfold yielded
    rw [hd]
    show (match a.tmps[d]? with | some (.bool b) => some b | _ => none) = _
    have h2 : a.tmps[d]? = some (.bool t) := by
     rw [Array.getD_eq_getD_getElem?] at this
     cases hx : a.tmps[d]? with
     | none => rw [hx] at this; cases this
     | some y => rw [hx] at this; simp at this; rw [this]
    rw [h2]
   split at hw
   ·rename_i t ht
    have y := yb t ht
    have hwant : Region.wanted o (yielded ops a.tmps) = (t == b) := by simp [Region.wanted, hg, y]
    rw [hwant]
    cases t <;> cases b <;> simp only at hw
    ·rw [if_pos (by rfl)]
     rw [upd_self _ _ _ ht] at hw
     exact wpo_ok hT hM hp hc h hw
    ·rw [if_neg (by decide)]
     exact skip _ (upd_self _ _ _ ht) hw
    ·rw [if_neg (by decide)]
     exact skip _ (upd_self _ _ _ ht) hw
    ·rw [if_pos (by rfl)]
     rw [upd_self _ _ _ ht] at hw
     exact wpo_ok hT hM hp hc h hw
   ·rename_i hu
    have y : yielded ops a.tmps j = none := by
     rw [hu] at hv
     have := hv.und_inv
     unfold yielded
     rw [hd]
     show (match a.tmps[d]? with | some (.bool b) => some b | _ => none) = _
     rw [Array.getD_eq_getD_getElem?] at this
     cases hx : a.tmps[d]? with
     | none => rfl
     | some y => rw [hx] at this; simp at this; rw [this]; rfl
    have hwant : Region.wanted o (yielded ops a.tmps) = false := by simp [Region.wanted, hg, y]
    rw [hwant, if_neg (by decide)]
    exact skip _ rfl hw
   ·exact hw.elim
theorem wpr_ok {ops : Array Oper} {Q : Exit → Act → World → Prop} {K : St → Prop} (hK : ∀ s e a, SR e0 nt s e a → K s → Q .normal a e.w) :
 ∀ (l : List Oper) (k : Nat), (∀ j, l[j]? = ops[k + j]?) → ∀ {s : St} {e : Env} {a : Act}, SR e0 nt s e a → wpr p T M nt false ops.toList l s K →
  wpOpsIn (Fw ro) n P ops Q ((List.range l.length).map (k + ·)) a e.w
 | [], k, _, s, e, a, h, hw => by
   simp only [List.length_nil, List.range_zero, List.map_nil, wpOpsIn]
   exact hK _ _ _ h hw
 | o :: l, k, hl, s, e, a, h, hw => by
   have h0 : ops[k]? = some o := by simpa using (hl 0).symm
   have hl' : ∀ j, l[j]? = ops[k + 1 + j]? := fun j => by have := hl (j + 1); simpa [Nat.add_assoc, Nat.add_comm 1 j] using this
   rw [List.length_cons, List.range_succ_eq_map, List.map_cons, List.map_map]
   have e1 : (List.map ((fun x => k + x) ∘ Nat.succ) (List.range l.length)) = (List.range l.length).map (k + 1 + ·) := by
    apply List.map_congr_left; intro x _; simp; omega
   rw [e1, Nat.add_zero, wpOpsIn, h0]
   simp only
   have := wpg_ok hT hM hp hc (ro := ro) (n := n) h (hw : wpg p T M nt false ops.toList o s fun s' => wpr p T M nt false ops.toList l s' K) (Q := Q)
   unfold GuardIn at this
   have up : ∀ a w, Lift e0 nt (fun s' => wpr p T M nt false ops.toList l s' K) a w → wpOpsIn (Fw ro) n P ops Q ((List.range l.length).map (k + 1 + ·)) a w := fun a w ⟨s', e', k1, k2, k3⟩ => by
    subst k2
    exact wpr_ok hK l (k + 1) hl' k3 k1
   split at this
   ·rename_i hwant
    rw [if_pos hwant]
    exact Oper.wpIn_mono up this
   ·rename_i hwant
    rw [if_neg hwant]
    exact ⟨this.1, up _ _ this.2⟩
end
end Go.AL
/-
  AL: a region that draws its order comes to what the order of the text comes to, if no two of its operations that may change places meet in what they read and write.
-/
set_option linter.unusedSectionVars false
set_option linter.unusedVariables false
set_option linter.unusedSimpArgs false
namespace Go.AL
open Go
inductive OC where
 | pure | read | alloc | eff
def opClass (st : Nat → Bool) : Op → OC
 | .move _ | .assign _ | .pick .. | .build .. | .unOp .. | .convert .. | .makeInterface .. | .makeFunc .. | .field .. | .index .. | .extract .. | .typeAssert .. => .pure
 | .load .. | .nilCheck _ | .slice _ _ _ _ none | .fieldAddr .. | .indexAddr .. => .read
 | .binOp op .. => match op with
   | .eql | .neq => .read
   | _ => .pure
 | .call c => match c.callee with
   | .builtin .len => .read
   | .builtin .max | .builtin .min => .pure
   | .builtin _ => .eff
   | .invoke .. => .read
   | cl => match effC st cl with
     | true => .eff
     | false => .read
 | .alloc _ | .buildSlice .. => .alloc
 | _ => .eff
def OC.comm : OC → OC → Bool
 | .pure, _ | _, .pure | .read, .read | .read, .alloc => true
 | _, _ => false
section
variable {p : Pr} {T : Tab} {M : MTab}
theorem aop_congr {tm tm' : Nat → AVal} {hh : Heap} (op : Op) (h : ∀ x ∈ op.operands.toList, ev tm x = ev tm' x) : aop p T tm hh op = aop p T tm' hh op := by
 have parts : ∀ (ps : List (Nat × Operand)), (∀ x ∈ ps.map (·.2), ev tm x = ev tm' x) → ps.map (fun x => (x.1, ev tm x.2)) = ps.map (fun x => (x.1, ev tm' x.2)) := fun ps hps =>
  List.map_congr_left fun x hx => by rw [hps x.2 (List.mem_map_of_mem hx)]
 cases op with
 | call c =>
   obtain ⟨callee, args, ats⟩ := c
   have h' : args.toList.map (ev tm) = args.toList.map (ev tm') := List.map_congr_left fun x hx => h x (by
    have : x ∈ args := by simpa using hx
    cases callee <;> simp [Op.operands, Call.operands, this])
   simp only [aop]
   rw [h']
 | build t ps => simp only [aop]; rw [parts ps.toList (fun x hx => h x (by simpa [Op.operands] using hx))]
 | buildSlice t n ps => simp only [aop]; rw [parts ps.toList (fun x hx => h x (by simpa [Op.operands] using hx))]
 | makeFunc fn first caps =>
   simp only [aop]
   split
   ·congr 2 <;> refine List.map_congr_left fun x hx => h x ?_ <;> simp [Op.operands] at hx ⊢
    ·exact .inl hx
    ·exact .inr hx
   ·rfl
 | slice t x lo hi mx =>
   have hx := h x (by simp [Op.operands])
   have hlo : lo.map (ev tm) = lo.map (ev tm') := by
    cases lo with
    | none => rfl
    | some y => simp only [Option.map_some]; rw [h y (by simp [Op.operands])]
   have hhi : hi.map (ev tm) = hi.map (ev tm') := by
    cases hi with
    | none => rfl
    | some y => simp only [Option.map_some]; rw [h y (by simp [Op.operands])]
   simp only [aop]
   rw [hx, hlo, hhi]
   cases mx with
   | none => rfl
   | some m =>
     cases hi with
     | none => rfl
     | some b => simp only []; rw [h m (by simp [Op.operands]), h b (by simp [Op.operands])]
 | pick c x y =>
   simp only [aop]
   rw [h c (by simp [Op.operands]), h x (by simp [Op.operands]), h y (by simp [Op.operands])]
 | makeMap t r =>
   simp only [aop]
   cases r with
   | none => rfl
   | some y => simp only [Option.map_some]; rw [h y (by simp [Op.operands])]
 | _ =>
   simp only [Op.operands] at h
   simp only [aop]
   try (first
    | rw [h _ (by simp), h _ (by simp), h _ (by simp)]
    | rw [h _ (by simp), h _ (by simp)]
    | rw [h _ (by simp)])
   done
def AR.at_ (h : Heap) : AR → AR
 | .ok v _ => .ok v h
 | .need q v _ => .need q v h
 | .stuck => .stuck
def AR.keeps (h : Heap) : AR → Prop
 | .ok _ h' => h' = h
 | .need _ _ h' => h' = h
 | .stuck => True
theorem aBin_at (op : BinOp) (h1 : op ≠ .eql) (h2 : op ≠ .neq) (t : Nat) (x y : AVal) (h h' : Heap) : aBin p T op t x y h = (aBin p T op t x y h').at_ h := by
 have row : ∀ (h : Heap) (i g : Nat), (match h[i]? with
  | some (.rw g' q) => match Nat.beq g g' with
    | true => match op with
      | .eql => AR.need (.ne (q.len p)) (.bool false) h
      | .neq => .need (.ne (q.len p)) (.bool true) h
      | _ => .stuck
    | false => .stuck
  | _ => .stuck) = AR.stuck := fun h i g => by
  split
  ·split
   ·cases op <;> first | rfl | exact absurd rfl h1 | exact absurd rfl h2
   ·rfl
  ·rfl
 have pn : ∀ b (h : Heap), aPtrNil T op t b h = AR.stuck := fun b h => by
  unfold aPtrNil
  repeat' split
  all_goals first | rfl | exact absurd rfl h1 | exact absurd rfl h2
 unfold aBin aEqAgg
 split
 case h_5 => simp only [row]; repeat' split
             all_goals rfl
 all_goals try simp only [pn]
 all_goals repeat' split
 all_goals first | rfl | exact absurd rfl h1 | exact absurd rfl h2 | simp_all [AR.at_]
theorem aBin_keeps (op : BinOp) (t : Nat) (x y : AVal) (h : Heap) : (aBin p T op t x y h).keeps h := by
 unfold aBin aEqAgg aPtrNil
 repeat' split
 all_goals first | trivial | rfl
theorem aBuild_at (t : Nat) (l : List (Nat × AVal)) (h h' : Heap) : aBuild T t l h = (aBuild T t l h').at_ h := by
 unfold aBuild
 repeat' split
 all_goals first | rfl | simp_all [AR.at_]
theorem aUn_at (op : UnOp) (x : AVal) (h h' : Heap) : aUn p op x h = (aUn p op x h').at_ h := by
 unfold aUn
 repeat' split
 all_goals first | rfl | simp_all [AR.at_]
theorem aConv_at (s d : Nat) (x : AVal) (h h' : Heap) : aConv p T s d x h = (aConv p T s d x h').at_ h := by
 unfold aConv
 repeat' split
 all_goals first | rfl | simp_all [AR.at_]
theorem aMkI_at (s : Nat) (x : AVal) (h h' : Heap) : aMkI T s x h = (aMkI T s x h').at_ h := by
 unfold aMkI
 repeat' split
 all_goals first | rfl | simp_all [AR.at_]
theorem aField_at (s : Nat) (x : AVal) (f : Nat) (h h' : Heap) : aField T s x f h = (aField T s x f h').at_ h := by
 unfold aField
 repeat' split
 all_goals first | rfl | simp_all [AR.at_]
theorem aIndex_at (s : Nat) (x y : AVal) (f : Option Nat) (h h' : Heap) : aIndex p T s x y f h = (aIndex p T s x y f h').at_ h := by
 unfold aIndex
 repeat' split
 all_goals first | rfl | simp_all [AR.at_]
theorem aExtract_at (x : AVal) (f : Nat) (h h' : Heap) : aExtract x f h = (aExtract x f h').at_ h := by
 unfold aExtract
 repeat' split
 all_goals first | rfl | simp_all [AR.at_]
theorem aAssert_at (x : AVal) (f : Nat) (b : Bool) (h h' : Heap) : aAssert T x f b h = (aAssert T x f b h').at_ h := by
 unfold aAssert
 repeat' split
 all_goals first | rfl | simp_all [AR.at_]
theorem aMax_at (x y : AVal) (h h' : Heap) : aMax p x y h = (aMax p x y h').at_ h := by
 unfold aMax
 repeat' split
 all_goals first | rfl | simp_all [AR.at_]
theorem aMin_at (x y : AVal) (h h' : Heap) : aMin p x y h = (aMin p x y h').at_ h := by
 unfold aMin
 repeat' split
 all_goals first | rfl | simp_all [AR.at_]
theorem aLoad_keeps (t : Nat) (x : AVal) (h : Heap) : (aLoad p T t x h).keeps h := by
 unfold aLoad
 repeat' split
 all_goals first | trivial | rfl
theorem aNil_keeps (x : AVal) (h : Heap) : (aNil x h).keeps h := by
 unfold aNil
 repeat' split
 all_goals first | trivial | rfl
theorem aSlice_keeps (t : Nat) (x : AVal) (a b c : Option AVal) (h : Heap) : (aSlice p T t x a b c h).keeps h := by
 unfold aSlice
 repeat' split
 all_goals first | trivial | rfl
theorem aFieldAddr_keeps (t : Nat) (x : AVal) (f : Nat) (h : Heap) : (aFieldAddr T t x f h).keeps h := by
 unfold aFieldAddr
 repeat' split
 all_goals first | trivial | rfl
theorem aIndexAddr_keeps (t : Nat) (x y : AVal) (f : Option Nat) (h : Heap) : (aIndexAddr p T t x y f h).keeps h := by
 unfold aIndexAddr
 repeat' split
 all_goals first | trivial | rfl
theorem aLen_keeps (t : Nat) (x : AVal) (h : Heap) : (aLen p T t x h).keeps h := by
 unfold aLen
 repeat' split
 all_goals first | trivial | rfl
theorem aop_pure {op : Op} (hc : opClass p.strict op = .pure) (tm : Nat → AVal) (h h' : Heap) : aop p T tm h op = (aop p T tm h' op).at_ h := by
 cases op with
 | pick c a b =>
   simp only [aop]
   split
   ·split <;> rfl
   ·rfl
 | call c =>
   obtain ⟨callee, args, ats⟩ := c
   simp only [opClass] at hc
   split at hc
   ·cases hc
   ·simp only [aop, aBuiltin]
    split
    ·exact aMax_at ..
    ·rfl
   ·simp only [aop, aBuiltin]
    split
    ·exact aMin_at ..
    ·rfl
   ·cases hc
   ·cases hc
   ·split at hc <;> cases hc
 | slice t x lo hi mx => cases mx <;> cases hc
 | makeFunc fn a b =>
   simp only [aop]
   split <;> rfl
 | binOp op t x y u => exact aBin_at op (fun e => by subst e; cases hc) (fun e => by subst e; cases hc) ..
 | _ => first
   | (cases hc; done)
   | rfl
   | exact aBuild_at ..
   | exact aUn_at ..
   | exact aConv_at ..
   | exact aMkI_at ..
   | exact aField_at ..
   | exact aIndex_at ..
   | exact aExtract_at ..
   | exact aAssert_at ..
theorem aop_keeps {op : Op} (hc : opClass p.strict op = .read) (tm : Nat → AVal) (h : Heap) : (aop p T tm h op).keeps h := by
 cases op with
 | call c =>
   obtain ⟨callee, args, ats⟩ := c
   simp only [opClass] at hc
   split at hc
   ·simp only [aop, aBuiltin]
    split
    ·exact aLen_keeps ..
    ·trivial
   ·cases hc
   ·cases hc
   ·cases hc
   ·trivial
   ·rename_i h1 _
    cases callee with
    | builtin b => exact (h1 b rfl).elim
    | _ => trivial
 | slice t x lo hi mx =>
   cases mx with
   | none =>
     simp only [aop, Option.map_none]
     exact aSlice_keeps ..
   | some m => cases hc
 | _ => first
   | (cases hc; done)
   | exact aLoad_keeps ..
   | exact aNil_keeps ..
   | exact aBin_keeps ..
   | exact aSlice_keeps ..
   | exact aFieldAddr_keeps ..
   | exact aIndexAddr_keeps ..
def arK (p : Pr) (K : AVal → Heap → Prop) : AR → Prop
 | .ok v h => K v h
 | .need q v h => p.nd q ∧ K v h
 | .stuck => False
def roV (p : Pr) (st : Bool) (v : AVal) (as_ : List AVal) (h : Heap) (K : AVal → Heap → Prop) : Prop := match v with
 | .clo (.func f) first caps => match st with
   | false => p.calld f (first ++ as_ ++ caps) h fun v => K v h
   | true => ∃ r h1, p.call f (first ++ as_ ++ caps) h (fun v h => v = r ∧ h = h1) ∧ K r h1
 | v => match st with
   | false => p.callvd v as_ h fun v => K v h
   | true => ∃ r h1, p.callv v as_ h (fun v h => v = r ∧ h = h1) ∧ K r h1
def roI (p : Pr) (r : Option (FuncId × AVal)) (as_ : List AVal) (h : Heap) (K : AVal → Heap → Prop) : Prop := match r with
 | some (f, x) => p.calld f (x :: as_) h fun v => K v h
 | none => False
def ro (p : Pr) (T : Tab) (M : MTab) (tm : Nat → AVal) (h : Heap) (op : Op) (K : AVal → Heap → Prop) : Prop :=
 match op with
 | .call c => match c.callee with
   | .value f => roV p (effC p.strict (.value f)) (ev tm f) (c.args.toList.map (ev tm)) h K
   | .invoke r name => roI p (recvA p T M h (ev tm r) name) (c.args.toList.map (ev tm)) h K
   | .builtin _ => arK p K (aop p T tm h op)
 | op => arK p K (aop p T tm h op)
theorem wpo_ro {nt : Nat} {s : St} {o : Oper} {K : St → Prop} : wpo p T M nt true s o K = ro p T M s.tm s.h o.op fun v h => putK nt s o.dst v h K := by
 unfold wpo ro
 cases hop : o.op with
 | call c =>
   simp only
   cases c.callee with
   | value f =>
     simp only [roV]
     cases ev s.tm f with
     | clo fn a b => cases fn <;> rfl
     | _ => rfl
   | invoke r n =>
     simp only [roI]
     cases recvA p T M s.h (ev s.tm r) n <;> rfl
   | builtin b =>
     simp only []
     generalize aop p T s.tm s.h _ = r
     cases r <;> rfl
 | _ =>
   simp only []
   generalize aop p T s.tm s.h _ = r
   cases r <;> rfl
def updo (tm : Nat → AVal) : Option Nat → AVal → Nat → AVal
 | none, _ => tm
 | some d, v => upd tm d v
def dOK (nt : Nat) : Option Nat → Prop
 | none => True
 | some d => d < nt
theorem putK_iff {nt : Nat} {s : St} {d : Option Nat} {v : AVal} {h : Heap} {K : St → Prop} : putK nt s d v h K ↔ dOK nt d ∧ K ⟨updo s.tm d v, h⟩ := by
 cases d with
 | none => simp [putK, dOK, updo]
 | some d =>
   simp only [putK, dOK, updo]
   cases hb : Nat.blt d nt
   ·have : ¬ d < nt := fun h => by
     have : Nat.blt d nt = true := by simpa using h
     rw [hb] at this; cases this
    simp [this]
   ·have : d < nt := by simpa using hb
    simp [this]
def only (v : AVal) (h : Heap) : AVal → Heap → Prop := fun v' h' => v' = v ∧ h' = h
section
variable {P : Program} (hc : CallOK P p)
include hc
theorem calld_det {f : FuncId} {args : List AVal} {h : Heap} {K : AVal → Prop} (hh : p.calld f args h K) : ∃ v, p.calld f args h (· = v) ∧ K v := by
 rw [hc.calld] at *
 obtain ⟨r, h1, h2⟩ := hh
 exact ⟨r, ⟨r, h1, rfl⟩, h2⟩
theorem callvd_det {f : AVal} {args : List AVal} {h : Heap} {K : AVal → Prop} (hh : p.callvd f args h K) : ∃ v, p.callvd f args h (· = v) ∧ K v := by
 rw [hc.callvd] at *
 obtain ⟨r, h1, h2⟩ := hh
 exact ⟨r, ⟨r, h1, rfl⟩, h2⟩
theorem calld_mono {f : FuncId} {args : List AVal} {h : Heap} {K K' : AVal → Prop} (hh : p.calld f args h K) (hk : ∀ v, K v → K' v) : p.calld f args h K' := by
 rw [hc.calld] at *
 obtain ⟨r, h1, h2⟩ := hh
 exact ⟨r, h1, hk _ h2⟩
theorem callvd_mono {f : AVal} {args : List AVal} {h : Heap} {K K' : AVal → Prop} (hh : p.callvd f args h K) (hk : ∀ v, K v → K' v) : p.callvd f args h K' := by
 rw [hc.callvd] at *
 obtain ⟨r, h1, h2⟩ := hh
 exact ⟨r, h1, hk _ h2⟩
omit hc in
theorem arK_mono {r : AR} {K K' : AVal → Heap → Prop} (hr : arK p K r) (hk : ∀ v h, K v h → K' v h) : arK p K' r := by
 cases r with
 | ok => exact hk _ _ hr
 | need => exact ⟨hr.1, hk _ _ hr.2⟩
 | stuck => exact hr
omit hc in
theorem arK_det {r : AR} {K : AVal → Heap → Prop} (hr : arK p K r) : ∃ v h', arK p (only v h') r ∧ K v h' := by
 cases r with
 | ok v h => exact ⟨v, h, ⟨rfl, rfl⟩, hr⟩
 | need q v h => exact ⟨v, h, ⟨hr.1, rfl, rfl⟩, hr.2⟩
 | stuck => exact hr.elim
theorem roV_mono {st : Bool} {v : AVal} {as_ : List AVal} {h : Heap} {K K' : AVal → Heap → Prop} (hh : roV p st v as_ h K) (hk : ∀ v h, K v h → K' v h) : roV p st v as_ h K' := by
 unfold roV at *
 cases st
 ·split at hh
  ·exact calld_mono hc hh (fun v => hk v h)
  ·exact callvd_mono hc hh (fun v => hk v h)
 ·split at hh
  ·obtain ⟨r, h1, a, b⟩ := hh
   exact ⟨r, h1, a, hk _ _ b⟩
  ·obtain ⟨r, h1, a, b⟩ := hh
   exact ⟨r, h1, a, hk _ _ b⟩
theorem roV_det {st : Bool} {v : AVal} {as_ : List AVal} {h : Heap} {K : AVal → Heap → Prop} (hh : roV p st v as_ h K) : ∃ u h1, roV p st v as_ h (only u h1) ∧ K u h1 := by
 unfold roV at *
 cases st
 ·split at hh
  ·obtain ⟨v, h1, h2⟩ := calld_det hc hh
   exact ⟨v, h, calld_mono hc h1 fun u hu => ⟨hu, rfl⟩, h2⟩
  ·obtain ⟨v, h1, h2⟩ := callvd_det hc hh
   exact ⟨v, h, callvd_mono hc h1 fun u hu => ⟨hu, rfl⟩, h2⟩
 ·split at hh
  ·obtain ⟨r, h1, a, b⟩ := hh
   exact ⟨r, h1, ⟨r, h1, a, rfl, rfl⟩, b⟩
  ·obtain ⟨r, h1, a, b⟩ := hh
   exact ⟨r, h1, ⟨r, h1, a, rfl, rfl⟩, b⟩
theorem roI_mono {v : Option (FuncId × AVal)} {as_ : List AVal} {h : Heap} {K K' : AVal → Heap → Prop} (hh : roI p v as_ h K) (hk : ∀ v h, K v h → K' v h) : roI p v as_ h K' := by
 unfold roI at *
 split at hh
 ·exact calld_mono hc hh (fun v => hk v h)
 ·exact hh
theorem roI_det {v : Option (FuncId × AVal)} {as_ : List AVal} {h : Heap} {K : AVal → Heap → Prop} (hh : roI p v as_ h K) : ∃ u h1, roI p v as_ h (only u h1) ∧ K u h1 := by
 unfold roI at *
 split at hh
 ·obtain ⟨v, h1, h2⟩ := calld_det hc hh
  exact ⟨v, h, calld_mono hc h1 fun u hu => ⟨hu, rfl⟩, h2⟩
 ·exact hh.elim
theorem ro_mono {tm : Nat → AVal} {h : Heap} {op : Op} {K K' : AVal → Heap → Prop} (hh : ro p T M tm h op K) (hk : ∀ v h, K v h → K' v h) : ro p T M tm h op K' := by
 cases op with
 | call c =>
   obtain ⟨callee, args, ats⟩ := c
   cases callee with
   | builtin b => exact arK_mono hh hk
   | value f => exact roV_mono hc hh hk
   | invoke r n => exact roI_mono hc hh hk
 | _ => simp only [ro] at hh ⊢; exact arK_mono hh hk
theorem ro_det {tm : Nat → AVal} {h : Heap} {op : Op} {K : AVal → Heap → Prop} (hh : ro p T M tm h op K) : ∃ v h', ro p T M tm h op (only v h') ∧ K v h' := by
 cases op with
 | call c =>
   obtain ⟨callee, args, ats⟩ := c
   cases callee with
   | builtin b => exact arK_det hh
   | value f => exact roV_det hc hh
   | invoke r n => exact roI_det hc hh
 | _ => simp only [ro] at hh ⊢; exact arK_det hh
omit hc in
theorem ro_pure {op : Op} (ho : opClass p.strict op = .pure) {tm : Nat → AVal} {h h1 : Heap} {v : AVal} (hh : ro p T M tm h op (only v h1)) : h1 = h ∧ ∀ h', ro p T M tm h' op (only v h') := by
 have key : arK p (only v h1) (aop p T tm h op) → h1 = h ∧ ∀ h', arK p (only v h') (aop p T tm h' op) := fun hk => by
  have e1 := aop_pure (p := p) (T := T) ho tm h h
  refine ⟨?_, fun h' => ?_⟩
  ·revert hk e1
   cases aop p T tm h op with
   | ok v2 h2 => intro hk e1; simp only [AR.at_] at e1; exact hk.2.symm.trans (AR.ok.inj e1).2
   | need q v2 h2 => intro hk e1; simp only [AR.at_] at e1; exact hk.2.2.symm.trans (AR.need.inj e1).2.2
   | stuck => exact fun hk _ => hk.elim
  ·rw [aop_pure (p := p) (T := T) ho tm h' h]
   revert hk
   cases aop p T tm h op with
   | ok v2 h2 => intro hk; exact ⟨hk.1, rfl⟩
   | need q v2 h2 => intro hk; exact ⟨hk.1, hk.2.1, rfl⟩
   | stuck => exact fun hk => hk.elim
 cases op with
 | call c =>
   obtain ⟨callee, args, ats⟩ := c
   cases callee with
   | builtin b => exact key hh
   | value f => cases hst : effC p.strict (.value f) <;> simp [opClass, hst] at ho
   | invoke r n => simp [opClass] at ho
 | _ => exact key hh
theorem ro_read {op : Op} (ho : opClass p.strict op = .read) {tm : Nat → AVal} {h h1 : Heap} {v : AVal} (hh : ro p T M tm h op (only v h1)) : h1 = h := by
 have key : arK p (only v h1) (aop p T tm h op) → h1 = h := fun hk => by
  have e1 := aop_keeps (p := p) (T := T) ho tm h
  revert hk e1
  cases aop p T tm h op with
  | ok v2 h2 => intro hk e1; exact hk.2.symm.trans e1
  | need q v2 h2 => intro hk e1; exact hk.2.2.symm.trans e1
  | stuck => exact fun hk _ => hk.elim
 cases op with
 | call c =>
   obtain ⟨callee, args, ats⟩ := c
   cases callee with
   | builtin b => exact key hh
   | value f =>
     cases hst : effC p.strict (.value f)
     ·simp only [ro, roV, hst] at hh
      split at hh
      ·obtain ⟨u, h1, h2⟩ := calld_det hc hh; exact h2.2.symm
      ·obtain ⟨u, h1, h2⟩ := callvd_det hc hh; exact h2.2.symm
     ·simp [opClass, hst] at ho
   | invoke r n =>
     simp only [ro, roI] at hh
     split at hh
     ·obtain ⟨u, h1, h2⟩ := calld_det hc hh; exact h2.2.symm
     ·exact hh.elim
 | _ => exact key hh
omit hc in
theorem ro_congr {tm tm' : Nat → AVal} {h : Heap} {op : Op} {K : AVal → Heap → Prop} (he : ∀ x ∈ op.operands.toList, ev tm x = ev tm' x) : ro p T M tm h op K = ro p T M tm' h op K := by
 have ha := aop_congr (p := p) (T := T) (hh := h) op he
 cases op with
 | call c =>
   obtain ⟨callee, args, ats⟩ := c
   have h' : args.toList.map (ev tm) = args.toList.map (ev tm') := List.map_congr_left fun x hx => he x (by
    have : x ∈ args := by simpa using hx
    cases callee <;> simp [Op.operands, Call.operands, this])
   cases callee with
   | builtin b => simp only [ro]; rw [ha]
   | value f =>
     simp only [ro]
     rw [h', he f (by simp [Op.operands, Call.operands])]
   | invoke r n =>
     simp only [ro]
     rw [h', he r (by simp [Op.operands, Call.operands])]
 | _ => simp only [ro]; rw [ha]
end
def rg (p : Pr) (T : Tab) (M : MTab) (all : List Oper) (tm : Nat → AVal) (h : Heap) (o : Oper) (K : AVal → Heap → Prop) : Prop :=
 match o.guard with
 | none => ro p T M tm h o.op K
 | some (j, b) => match (all[j]?).bind (·.dst) with
   | none => False
   | some d => match tm d with
     | .bool c => if c = b then ro p T M tm h o.op K else K .und h
     | .und => K .und h
     | _ => False
theorem wpg_rg {nt : Nat} {all : List Oper} {s : St} {o : Oper} {K : St → Prop} : wpg p T M nt true all o s K = rg p T M all s.tm s.h o fun v h => putK nt s o.dst v h K := by
 unfold wpg rg
 cases o.guard with
 | none => exact wpo_ro
 | some jb =>
   obtain ⟨j, b⟩ := jb
   simp only
   cases (all[j]?).bind (·.dst) with
   | none => rfl
   | some d =>
     simp only
     cases hd : s.tm d with
     | bool c =>
       have e1 := upd_self s.tm d _ hd
       cases c <;> cases b <;> simp only [e1]
       ·simp; exact Iff.of_eq wpo_ro
       ·simp
       ·simp
       ·simp; exact Iff.of_eq wpo_ro
     | _ => rfl
theorem updo_ev {tm : Nat → AVal} {d : Option Nat} {v : AVal} {x : Operand} (h : ∀ t, d = some t → x ≠ .tmp t) : ev (updo tm d v) x = ev tm x := by
 cases d with
 | none => rfl
 | some t =>
   cases x with
   | tmp u =>
     simp only [ev, updo, upd_get]
     rw [if_neg (fun e => h t rfl (by rw [e]))]
   | _ => rfl
theorem rg_put {ops : Array Oper} {tm : Nat → AVal} {h : Heap} {o : Oper} {K : AVal → Heap → Prop} {d : Option Nat} {v : AVal} (hd : ∀ t, d = some t → t ∉ o.looksAt ops) :
 rg p T M ops.toList (updo tm d v) h o K = rg p T M ops.toList tm h o K := by
 have h1 : ∀ K, ro p T M (updo tm d v) h o.op K = ro p T M tm h o.op K := fun K => ro_congr fun x hx => updo_ev fun t ht hxt => hd t ht (by
  subst hxt
  exact List.mem_append_left _ (List.mem_filterMap.2 ⟨.tmp t, by simpa using hx, rfl⟩))
 unfold rg
 cases hg : o.guard with
 | none => simp only [h1]
 | some jb =>
   obtain ⟨j, b⟩ := jb
   simp only [h1]
   cases hj : (ops.toList[j]?).bind (·.dst) with
   | none => rfl
   | some u =>
     have hu : updo tm d v u = tm u := by
      cases d with
      | none => rfl
      | some t =>
        simp only [updo, upd_get]
        refine if_neg fun e => hd t rfl (List.mem_append_right _ ?_)
        rw [hg]
        have : (ops[j]?).bind (·.dst) = some u := by simpa using hj
        simp [this, e]
     simp only [hu]
section
variable {P : Program} (hc : CallOK P p)
include hc
theorem rg_mono {all : List Oper} {tm : Nat → AVal} {h : Heap} {o : Oper} {K K' : AVal → Heap → Prop} (hh : rg p T M all tm h o K) (hk : ∀ v h, K v h → K' v h) : rg p T M all tm h o K' := by
 unfold rg at *
 split at hh
 ·exact ro_mono hc hh hk
 ·split at hh
  ·exact hh
  ·split at hh
   ·split at hh
    ·rename_i e; rw [if_pos e]; exact ro_mono hc hh hk
    ·rename_i e; rw [if_neg e]; exact hk _ _ hh
   ·exact hk _ _ hh
   ·exact hh
theorem rg_det {all : List Oper} {tm : Nat → AVal} {h : Heap} {o : Oper} {K : AVal → Heap → Prop} (hh : rg p T M all tm h o K) : ∃ v h', rg p T M all tm h o (only v h') ∧ K v h' := by
 unfold rg at *
 split at hh
 ·exact ro_det hc hh
 ·split at hh
  ·exact hh.elim
  ·split at hh
   ·split at hh
    ·rename_i e; simp only [if_pos e]; exact ro_det hc hh
    ·rename_i e; simp only [if_neg e]; exact ⟨_, _, ⟨rfl, rfl⟩, hh⟩
   ·exact ⟨_, _, ⟨rfl, rfl⟩, hh⟩
   ·exact hh.elim
omit hc in
theorem rg_pure {all : List Oper} {o : Oper} (ho : opClass p.strict o.op = .pure) {tm : Nat → AVal} {h h1 : Heap} {v : AVal} (hh : rg p T M all tm h o (only v h1)) : h1 = h ∧ ∀ h', rg p T M all tm h' o (only v h') := by
 unfold rg at *
 split at hh
 ·exact ro_pure ho hh
 ·split at hh
  ·exact hh.elim
  ·split at hh
   ·split at hh
    ·rename_i e; simp only [if_pos e]; exact ro_pure ho hh
    ·rename_i e; simp only [if_neg e]; exact ⟨hh.2.symm, fun h' => ⟨hh.1, rfl⟩⟩
   ·exact ⟨hh.2.symm, fun h' => ⟨hh.1, rfl⟩⟩
   ·exact hh.elim
theorem rg_read {all : List Oper} {o : Oper} (ho : opClass p.strict o.op = .read) {tm : Nat → AVal} {h h1 : Heap} {v : AVal} (hh : rg p T M all tm h o (only v h1)) : h1 = h := by
 unfold rg at hh
 split at hh
 ·exact ro_read hc ho hh
 ·split at hh
  ·exact hh.elim
  ·split at hh
   ·split at hh
    ·exact ro_read hc ho hh
    ·exact hh.2.symm
   ·exact hh.2.symm
   ·exact hh.elim
theorem calld_grow {f : FuncId} {args : List AVal} {h : Heap} {K : AVal → Prop} (x : Heap) (hh : p.calld f args h K) : p.calld f args (h ++ x) K := by
 rw [hc.calld] at *
 obtain ⟨r, h1, h2⟩ := hh
 exact ⟨r, fun y => by rw [List.append_assoc]; exact h1 (x ++ y), h2⟩
theorem callvd_grow {f : AVal} {args : List AVal} {h : Heap} {K : AVal → Prop} (x : Heap) (hh : p.callvd f args h K) : p.callvd f args (h ++ x) K := by
 rw [hc.callvd] at *
 obtain ⟨r, h1, h2⟩ := hh
 exact ⟨r, fun y => by rw [List.append_assoc]; exact h1 (x ++ y), h2⟩
omit hc in
theorem look_grow (h x : Heap) (i : Nat) : h[i]? = none ∨ (h ++ x)[i]? = h[i]? := by
 cases e : h[i]? with
 | none => exact .inl rfl
 | some o => exact .inr (by rw [List.getElem?_append_left (List.getElem?_eq_some_iff.1 e).1]; exact e)
omit hc in
theorem aLoad_grow (t : Nat) (a : AVal) (h x : Heap) : aLoad p T t a h = .stuck ∨ aLoad p T t a (h ++ x) = (aLoad p T t a h).at_ (h ++ x) := by
 unfold aLoad
 cases a with
 | ptr i off =>
   rcases look_grow h x i with e | e
   ·left; simp only [e]; repeat' split
    all_goals first | rfl | simp_all
   ·right; simp only [e]; repeat' split
    all_goals first | rfl | simp_all [AR.at_]
 | pe i g ix off =>
   rcases look_grow h x i with e | e
   ·left; simp only [e]; repeat' split
    all_goals first | rfl | simp_all
   ·right; simp only [e]; repeat' split
    all_goals first | rfl | simp_all [AR.at_]
 | _ => right; repeat' split
        all_goals first | rfl | simp_all [AR.at_]
omit hc in
theorem aNil_grow (a : AVal) (h x : Heap) : aNil a h = .stuck ∨ aNil a (h ++ x) = (aNil a h).at_ (h ++ x) := by
 unfold aNil
 cases a with
 | ptr i off =>
   rcases look_grow h x i with e | e
   ·left; simp only [e]
   ·right; simp only [e]; repeat' split
    all_goals first | rfl | simp_all [AR.at_]
 | _ => right; repeat' split
        all_goals first | rfl | simp_all [AR.at_]
omit hc in
theorem aSlice_grow (t : Nat) (a : AVal) (lo hi : Option AVal) (h x : Heap) : aSlice p T t a lo hi none h = .stuck ∨ aSlice p T t a lo hi none (h ++ x) = (aSlice p T t a lo hi none h).at_ (h ++ x) := by
 unfold aSlice
 cases a with
 | sl i g l u =>
   rcases look_grow h x i with e | e
   ·left; simp only [e]; repeat' split
    all_goals first | rfl | simp_all
   ·right; simp only [e]; repeat' split
    all_goals first | rfl | simp_all [AR.at_]
 | _ => right; simp only []; repeat' split
        all_goals first | rfl | simp_all [AR.at_]
omit hc in
theorem aFieldAddr_grow (t : Nat) (a : AVal) (f : Nat) (h x : Heap) : aFieldAddr T t a f h = .stuck ∨ aFieldAddr T t a f (h ++ x) = (aFieldAddr T t a f h).at_ (h ++ x) := by
 unfold aFieldAddr
 cases a with
 | ptr i off =>
   rcases look_grow h x i with e | e
   ·left; simp only [e]; repeat' split
    all_goals first | rfl | simp_all [AR.at_]
   ·right; simp only [e]; repeat' split
    all_goals first | rfl | simp_all [AR.at_]
 | pe i g ix off =>
   rcases look_grow h x i with e | e
   ·left; simp only [e]; repeat' split
    all_goals first | rfl | simp_all [AR.at_]
   ·right; simp only [e]; repeat' split
    all_goals first | rfl | simp_all [AR.at_]
 | _ => right; repeat' split
        all_goals first | rfl | simp_all [AR.at_]
omit hc in
theorem aIndexAddr_grow (t : Nat) (a n : AVal) (f : Option Nat) (h x : Heap) : aIndexAddr p T t a n f h = .stuck ∨ aIndexAddr p T t a n f (h ++ x) = (aIndexAddr p T t a n f h).at_ (h ++ x) := by
 unfold aIndexAddr
 cases a with
 | ptr i off =>
   rcases look_grow h x i with e | e
   ·left; simp only [e]; repeat' split
    all_goals first | rfl | simp_all [AR.at_]
   ·right; simp only [e]; repeat' split
    all_goals first | rfl | simp_all [AR.at_]
 | sl i g ix off =>
   rcases look_grow h x i with e | e
   ·left; simp only [e]; repeat' split
    all_goals first | rfl | simp_all [AR.at_]
   ·right; simp only [e]; repeat' split
    all_goals first | rfl | simp_all [AR.at_]
 | _ => right; repeat' split
        all_goals first | rfl | simp_all [AR.at_]
omit hc in
theorem aLen_grow (t : Nat) (a : AVal) (h x : Heap) : aLen p T t a h = .stuck ∨ aLen p T t a (h ++ x) = (aLen p T t a h).at_ (h ++ x) := by
 unfold aLen
 cases a with
 | sl i g ix off =>
   rcases look_grow h x i with e | e
   ·simp only [e]
    cases T.get? t with
    | none => exact .inl rfl
    | some ti =>
      simp only
      cases ti.d <;> first | exact .inl rfl | exact .inr rfl
   ·right; simp only [e]; repeat' split
    all_goals first | rfl | simp_all [AR.at_]
 | _ => right; repeat' split
        all_goals first | rfl | simp_all [AR.at_]
omit hc in
theorem aBin_grow (op : BinOp) (t : Nat) (a b : AVal) (h x : Heap) : aBin p T op t a b h = .stuck ∨ aBin p T op t a b (h ++ x) = (aBin p T op t a b h).at_ (h ++ x) := by
 by_cases hs : ∃ i, (∃ g l u, a = .sl i g l u) ∨ ∃ o, a = .ptr i o
 ·obtain ⟨i, hs⟩ := hs
  rcases look_grow h x i with e | e
  ·rcases hs with ⟨g, l, u, rfl⟩ | ⟨o, rfl⟩
   ·left
    unfold aBin
    repeat' split
    all_goals simp_all
   ·left
    unfold aBin
    repeat' split
    all_goals simp_all
  ·right
   rcases hs with ⟨g, l, u, rfl⟩ | ⟨o, rfl⟩
   ·unfold aBin aPtrNil
    repeat' split
    all_goals first | rfl | (simp_all [AR.at_]; done) | (simp_all [AR.at_]; rename_i e _ _ _ _ hno; exact hno _ _ e.symm) | (simp_all [AR.at_]; rename_i e _ _ _ _ hno; exact hno _ e.symm)
   ·unfold aBin aPtrNil
    repeat' split
    all_goals first | rfl | (simp_all [AR.at_]; done) | (simp_all [AR.at_]; rename_i e _ _ _ _ hno; exact hno _ _ e.symm) | (simp_all [AR.at_]; rename_i e _ _ _ _ hno; exact hno _ e.symm)
 ·right
  unfold aBin aEqAgg aPtrNil
  repeat' split
  all_goals first | rfl | (exfalso; exact hs ⟨_, .inl ⟨_, _, _, rfl⟩⟩) | (exfalso; exact hs ⟨_, .inr ⟨_, rfl⟩⟩) | simp_all [AR.at_]
omit hc in
theorem recvA_grow (r : AVal) (name : String) (h x : Heap) {y : FuncId × AVal} (hr : recvA p T M h r name = some y) : recvA p T M (h ++ x) r name = some y := by
 unfold recvA at *
 split at hr
 ·split at hr
  ·exact hr
  ·rename_i f u hm
   have hg := aLoad_grow (p := p) (T := T) u ‹AVal› h x
   split at hr
   ·rename_i z h' he
    rcases hg with e | e
    ·rw [e] at he; cases he
    ·rw [he] at e
     simp only [e, AR.at_]
     exact hr
   ·cases hr
  ·cases hr
 ·cases hr
omit hc in
theorem arK_grow {r r' : AR} {v : AVal} {h x : Heap} (hr : arK p (only v h) r) (hg : r = .stuck ∨ r' = r.at_ (h ++ x)) : arK p (only v (h ++ x)) r' := by
 rcases hg with e | e
 ·subst e; exact hr.elim
 ·subst e
  cases r with
  | ok => exact ⟨hr.1, rfl⟩
  | need => exact ⟨hr.1, hr.2.1, rfl⟩
  | stuck => exact hr.elim
theorem ro_grow {op : Op} (ho : opClass p.strict op = .read) {tm : Nat → AVal} {h x : Heap} {v : AVal} (hh : ro p T M tm h op (only v h)) : ro p T M tm (h ++ x) op (only v (h ++ x)) := by
 cases op with
 | call c =>
   obtain ⟨callee, args, ats⟩ := c
   cases callee with
   | builtin b =>
     refine arK_grow hh ?_
     cases b <;> simp [opClass] at ho
     simp only [aop, aBuiltin]
     split
     ·exact aLen_grow _ _ _ _
     ·exact .inl rfl
   | value f =>
     have hst : effC p.strict (.value f) = false := by cases hst : effC p.strict (.value f) <;> simp [opClass, hst] at ho ⊢
     simp only [ro, roV, hst] at hh ⊢
     split
     ·rename_i e; rw [e] at hh
      exact calld_grow hc x (calld_mono hc hh fun u hu => ⟨hu.1, rfl⟩)
     ·rename_i hne
      split at hh
      ·rename_i a b c e; exact absurd e (hne _ _ _)
      ·exact callvd_grow hc x (callvd_mono hc hh fun u hu => ⟨hu.1, rfl⟩)
   | invoke r n =>
     simp only [ro, roI] at hh ⊢
     split at hh
     ·rename_i f y e
      rw [recvA_grow (ev tm r) n h x e]
      exact calld_grow hc x (calld_mono hc hh fun u hu => ⟨hu.1, rfl⟩)
     ·exact hh.elim
 | load t a => exact arK_grow hh (aLoad_grow _ _ _ _)
 | nilCheck a => exact arK_grow hh (aNil_grow _ _ _)
 | slice t a lo hi mx =>
   cases mx with
   | none => exact arK_grow hh (aSlice_grow _ _ _ _ _ _)
   | some m => simp [opClass] at ho
 | fieldAddr t a f => exact arK_grow hh (aFieldAddr_grow _ _ _ _ _)
 | indexAddr t a n => exact arK_grow hh (aIndexAddr_grow _ _ _ _ _ _)
 | binOp op t a b u => exact arK_grow hh (aBin_grow _ _ _ _ _ _)
 | _ => simp [opClass] at ho
theorem rg_grow {all : List Oper} {o : Oper} (ho : opClass p.strict o.op = .read) {tm : Nat → AVal} {h x : Heap} {v : AVal} (hh : rg p T M all tm h o (only v h)) : rg p T M all tm (h ++ x) o (only v (h ++ x)) := by
 unfold rg at *
 split at hh
 ·exact ro_grow hc ho hh
 ·split at hh
  ·exact hh.elim
  ·split at hh
   ·split at hh
    ·rename_i e; simp only [if_pos e]; exact ro_grow hc ho hh
    ·rename_i e; simp only [if_neg e]; exact ⟨hh.1, rfl⟩
   ·exact ⟨hh.1, rfl⟩
   ·exact hh.elim
omit hc in
theorem ro_alloc {op : Op} (ho : opClass p.strict op = .alloc) {tm : Nat → AVal} {h h1 : Heap} {v : AVal} (hh : ro p T M tm h op (only v h1)) : ∃ x, h1 = h ++ x := by
 cases op with
 | alloc t =>
   simp only [ro, aop, aAlloc] at hh
   split at hh
   ·exact ⟨_, hh.2.symm⟩
   ·exact hh.elim
 | buildSlice t n ps =>
   simp only [ro, aop, aBuildSlice] at hh
   repeat' split at hh
   all_goals first
    | exact hh.elim
    | exact ⟨_, hh.2.symm⟩
    | (rename_i e _; cases e)
    | skip
 | call c => obtain ⟨callee, args, ats⟩ := c; cases callee with
   | builtin b => cases b <;> simp [opClass] at ho
   | value f => cases hst : effC p.strict (.value f) <;> simp [opClass, hst] at ho
   | invoke r n => simp [opClass] at ho
 | slice t a lo hi mx => cases mx <;> simp [opClass] at ho
 | binOp op t a b u => cases op <;> simp [opClass] at ho
 | _ => simp [opClass] at ho
omit hc in
theorem rg_alloc {all : List Oper} {o : Oper} (ho : opClass p.strict o.op = .alloc) {tm : Nat → AVal} {h h1 : Heap} {v : AVal} (hh : rg p T M all tm h o (only v h1)) : ∃ x, h1 = h ++ x := by
 unfold rg at hh
 split at hh
 ·exact ro_alloc ho hh
 ·split at hh
  ·exact hh.elim
  ·split at hh
   ·split at hh
    ·exact ro_alloc ho hh
    ·exact ⟨[], by rw [List.append_nil]; exact hh.2.symm⟩
   ·exact ⟨[], by rw [List.append_nil]; exact hh.2.symm⟩
   ·exact hh.elim
theorem rg_swap {ops : Array Oper} {oi oj : Oper} (hap : oi.apart ops oj = true) (hcm : OC.comm (opClass p.strict oi.op) (opClass p.strict oj.op) = true) {tm : Nat → AVal} {h h1 h2 : Heap} {v u : AVal}
 (hi : rg p T M ops.toList tm h oi (only v h1)) (hj : rg p T M ops.toList (updo tm oi.dst v) h1 oj (only u h2)) :
 ∃ h3, rg p T M ops.toList tm h oj (only u h3) ∧ rg p T M ops.toList (updo tm oj.dst u) h3 oi (only v h2) := by
 obtain ⟨a1, a2, a3⟩ := Oper.apart_spec hap
 rw [rg_put a1] at hj
 simp only [rg_put a3]
 cases ci : opClass p.strict oi.op with
 | pure =>
   obtain ⟨rfl, hp⟩ := rg_pure ci hi
   exact ⟨h2, hj, hp h2⟩
 | read =>
   obtain rfl := rg_read hc ci hi
   cases cj : opClass p.strict oj.op with
   | pure =>
     obtain ⟨rfl, hp⟩ := rg_pure cj hj
     exact ⟨_, hj, hi⟩
   | read =>
     obtain rfl := rg_read hc cj hj
     exact ⟨_, hj, hi⟩
   | alloc =>
     obtain ⟨x, rfl⟩ := rg_alloc cj hj
     exact ⟨_, hj, rg_grow hc ci hi⟩
   | eff => rw [ci, cj] at hcm; simp [OC.comm] at hcm
 | alloc =>
   cases cj : opClass p.strict oj.op with
   | pure =>
     obtain ⟨rfl, hp⟩ := rg_pure cj hj
     exact ⟨h, hp h, hi⟩
   | _ => rw [ci, cj] at hcm; simp [OC.comm] at hcm
 | eff =>
   cases cj : opClass p.strict oj.op with
   | pure =>
     obtain ⟨rfl, hp⟩ := rg_pure cj hj
     exact ⟨h, hp h, hi⟩
   | _ => rw [ci, cj] at hcm; simp [OC.comm] at hcm
end
theorem updo_comm {tm : Nat → AVal} {d d' : Option Nat} {v u : AVal} (h : ∀ t, d = some t → d' ≠ some t) : updo (updo tm d v) d' u = updo (updo tm d' u) d v := by
 cases d with
 | none => rfl
 | some t =>
   cases d' with
   | none => rfl
   | some t' =>
     have hne : t' ≠ t := fun e => h t rfl (by rw [e])
     funext x
     simp only [updo, upd_get]
     by_cases h1 : x = t
     ·rw [if_pos h1, if_pos h1, if_neg (by omega)]
     ·rw [if_neg h1]
      by_cases h2 : x = t'
      ·rw [if_pos h2, if_neg h1]
      ·rw [if_neg h2, if_neg h1]
def wpAnyA (p : Pr) (T : Tab) (M : MTab) (nt : Nat) (ops : Array Oper) (K : St → Prop) : Nat → Array Bool → St → Prop
 | 0, listed, s => Region.ready .any ops listed = [] ∧ K s
 | fuel + 1, listed, s => (Region.ready .any ops listed = [] → K s) ∧
    ∀ i ∈ Region.ready .any ops listed, ∀ o, ops[i]? = some o → rg p T M ops.toList s.tm s.h o fun v h => dOK nt o.dst ∧ wpAnyA p T M nt ops K fuel (listed.setIfInBounds i true) ⟨updo s.tm o.dst v, h⟩
def waitsB (ops : Array Oper) (listed : Array Bool) (i : Nat) : Nat → Oper → Bool
 | 0, _ => false
 | d + 1, oj => oj.after.any fun e => Region.binds .any e && (e.on == i || (!(listed.getD e.on true) && match ops[e.on]? with
    | some om => waitsB ops listed i d om
    | none => false))
def Loose (ops : Array Oper) (listed : Array Bool) (i : Nat) (oj : Oper) : Prop := ∀ d, waitsB ops listed i d oj = false
theorem Loose.ready {ops : Array Oper} {listed : Array Bool} {i : Nat} {oj : Oper} (h1 : ∀ e ∈ oj.after, Region.binds .any e = true → e.on ≠ i) (h2 : ∀ e ∈ oj.after, Region.binds .any e = true → listed.getD e.on true = true) : Loose ops listed i oj := fun d => by
 cases d with
 | zero => rfl
 | succ d =>
   simp only [waitsB]
   rw [Bool.eq_false_iff, ne_eq, Array.any_eq_true']
   rintro ⟨e, he, hb⟩
   simp only [Bool.and_eq_true, Bool.or_eq_true, Bool.not_eq_true', beq_iff_eq] at hb
   rcases hb with ⟨b1, b2 | ⟨b2, _⟩⟩
   ·exact h1 e he b1 b2
   ·rw [h2 e he b1] at b2; cases b2
theorem waits_set {ops : Array Oper} {listed : Array Bool} {i j : Nat} {oj : Oper} (hj : ops[j]? = some oj) (hlo : Loose ops listed i oj) : ∀ d ok, waitsB ops listed i d ok = true → waitsB ops (listed.setIfInBounds j true) i d ok = true := fun d => by
 induction d with
 | zero => intro ok h; simp [waitsB] at h
 | succ d ih =>
   intro ok h
   simp only [waitsB, Array.any_eq_true'] at h ⊢
   obtain ⟨e, he, hb⟩ := h
   refine ⟨e, he, ?_⟩
   simp only [Bool.and_eq_true, Bool.or_eq_true, Bool.not_eq_true', beq_iff_eq] at hb ⊢
   refine ⟨hb.1, hb.2.imp id fun ⟨b2, b3⟩ => ?_⟩
   by_cases hej : j = e.on
   ·subst hej
    rw [hj] at b3
    simp only at b3
    rw [hlo d] at b3; cases b3
   ·refine ⟨by rw [getD_set_ne true hej]; exact b2, ?_⟩
    cases hom : ops[e.on]? with
    | none => rw [hom] at b3; cases b3
    | some om => rw [hom] at b3; exact ih om b3
def defB (ops : Array Oper) (o : Oper) (u : Nat) : Option Nat := o.after.toList.findSome? fun e => match Region.binds .any e with
 | false => none
 | true => match ops[e.on]? with
   | none => none
   | some om => match om.op, om.dst, om.guard with
     | .fieldAddr _ (.tmp a) _, some d, none => match Nat.beq d u with
       | true => some a
       | false => none
     | _, _, _ => none
def readB (ops : Array Oper) (o : Oper) : Option Nat := match o.op with
 | .fieldAddr _ (.tmp a) _ => some a
 | .load _ (.tmp u) => match defB ops o u with
   | some a => some a
   | none => some u
 | _ => none
def storeB (ops : Array Oper) (o : Oper) : Option Nat := match o.op with
 | .store _ (.tmp w) _ => match defB ops o w with
   | some a => some a
   | none => some w
 | _ => none
def wfR (ops : Array Oper) : Bool := (List.range ops.size).all fun i => (List.range ops.size).all fun j => i == j || match ops[i]?, ops[j]? with
 | some oi, some oj => match oi.dst, oj.dst with
   | some a, some b => a != b
   | _, _ => true
 | _, _ => true
def sepC (st : Nat → Bool) (ops : Array Oper) (oi oj : Oper) : Bool := st 9999 && wfR ops && oi.guard.isNone && oj.guard.isNone && match readB ops oi, storeB ops oj with
 | some a, some b => (bases ops.toList).contains a && (bases ops.toList).contains b && st (sepK a b)
 | _, _ => false
def IvD (st : Nat → Bool) (ops : Array Oper) (tm : Nat → AVal) (listed : Array Bool) : Prop := st 9999 = true → wfR ops = true →
 (∀ a ∈ bases ops.toList, ∀ b ∈ bases ops.toList, st (sepK a b) = true → apartP (tm a) (tm b) = true) ∧
 ∀ (m : Nat) (om : Oper) (ty a f u : Nat), a ∈ bases ops.toList → listed.getD m true = true → ops[m]? = some om → om.op = .fieldAddr ty (.tmp a) f → om.dst = some u → om.guard = none → ∀ i o, tm a = .ptr i o → ∃ o', tm u = .ptr i o'
theorem mem_dsts : ∀ {l : List Oper} {o : Oper} {d : Nat}, o ∈ l → o.dst = some d → d ∈ dsts l
 | [], _, _, h, _ => by cases h
 | x :: r, o, d, h, hd => by
   rcases List.mem_cons.1 h with rfl | h
   ·simp [dsts, hd]
   ·have := mem_dsts h hd
    unfold dsts
    split
    ·exact List.mem_cons_of_mem _ this
    ·exact this
theorem defB_spec {ops : Array Oper} {o : Oper} {u a : Nat} (h : defB ops o u = some a) : ∃ e ∈ o.after, Region.binds .any e = true ∧ ∃ om ty f, ops[e.on]? = some om ∧ om.op = .fieldAddr ty (.tmp a) f ∧ om.dst = some u ∧ om.guard = none := by
 unfold defB at h
 obtain ⟨e, he, h2⟩ := List.exists_of_findSome?_eq_some h
 refine ⟨e, by simpa using he, ?_⟩
 split at h2
 ·cases h2
 ·rename_i hb
  refine ⟨hb, ?_⟩
  split at h2
  ·cases h2
  ·rename_i om hom
   split at h2
   ·rename_i e1 e2 e3
    split at h2
    ·rename_i hd
     cases h2
     rename_i ty a f d _
     have := Nat.eq_of_beq_eq_true hd
     subst this
     exact ⟨om, _, _, hom, e1, e2, e3⟩
    ·cases h2
   ·cases h2
theorem wfR_dst {ops : Array Oper} (hw : wfR ops = true) {i j : Nat} {oi oj : Oper} {a b : Nat} (hi : ops[i]? = some oi) (hj : ops[j]? = some oj) (hne : i ≠ j) (ha : oi.dst = some a) (hb : oj.dst = some b) : a ≠ b := by
 unfold wfR at hw
 have h1 := List.all_eq_true.1 hw i (List.mem_range.2 (Array.getElem?_eq_some_iff.1 hi).1)
 have h2 := List.all_eq_true.1 h1 j (List.mem_range.2 (Array.getElem?_eq_some_iff.1 hj).1)
 rw [hi, hj] at h2
 simp only [ha, hb, Bool.or_eq_true, beq_iff_eq, bne_iff_ne] at h2
 exact h2.resolve_left hne
theorem base_ne {ops : Array Oper} {j : Nat} {oj : Oper} {d a : Nat} (hj : ops[j]? = some oj) (hd : oj.dst = some d) (ha : a ∈ bases ops.toList) : a ≠ d := by
 have hm : oj ∈ ops.toList := by
  obtain ⟨h1, h2⟩ := Array.getElem?_eq_some_iff.1 hj
  rw [← h2]; simp
 have h2 := mem_dsts hm hd
 unfold bases at ha
 have h3 := (List.mem_filter.1 ha).2
 intro e
 subst e
 have : (dsts ops.toList).contains a = true := by simpa using h2
 rw [this] at h3; cases h3
theorem updo_ne {tm : Nat → AVal} {d : Option Nat} {v : AVal} {x : Nat} (h : ∀ t, d = some t → x ≠ t) : updo tm d v x = tm x := by
 cases d with
 | none => rfl
 | some t =>
   simp only [updo, upd_get]
   rw [if_neg (h t rfl)]
theorem IvD.step {ops : Array Oper} {tm : Nat → AVal} {listed : Array Bool} {j : Nat} {oj : Oper} {u : AVal} {h h' : Heap} (hI : IvD p.strict ops tm listed) (hoj : ops[j]? = some oj)
 (hr : rg p T M ops.toList tm h oj (only u h')) : IvD p.strict ops (updo tm oj.dst u) (listed.setIfInBounds j true) := by
 intro h9 hw
 obtain ⟨hD, hV⟩ := hI h9 hw
 have hta : ∀ a ∈ bases ops.toList, updo tm oj.dst u a = tm a := fun a ha => updo_ne fun t ht => base_ne hoj ht ha
 refine ⟨fun a ha b hb hs => by rw [hta a ha, hta b hb]; exact hD a ha b hb hs, ?_⟩
 intro m om ty a f w ha hl hom hop hdst hg i o he
 rw [hta a ha] at he
 by_cases hmj : m = j
 ·subst hmj
  obtain rfl : om = oj := by rw [hom] at hoj; exact Option.some.inj hoj
  unfold rg at hr
  rw [hg] at hr
  simp only [ro, hop, aop, ev, he] at hr
  have : ∃ o', u = .ptr i o' := by
   unfold aFieldAddr at hr
   repeat' split at hr
   all_goals first
    | exact hr.elim
    | (cases ‹AVal.ptr i o = AVal.pp _›; done)
    | (cases ‹AVal.ptr i o = AVal.pe _ _ _ _›; done)
    | (cases ‹AVal.ptr i o = AVal.ptr _ _›; exact ⟨_, hr.1.symm⟩)
    | exact ⟨_, hr.1.symm⟩
  obtain ⟨o', e⟩ := this
  refine ⟨o', ?_⟩
  rw [hdst]
  simp only [updo, upd_get, if_true]
  exact e
 ·have hl2 : listed.getD m true = true := by
   rw [getD_set_ne true (Ne.symm hmj)] at hl; exact hl
  obtain ⟨o', e⟩ := hV m om ty a f w ha hl2 hom hop hdst hg i o he
  exact ⟨o', by rw [updo_ne fun t ht => wfR_dst hw hom hoj hmj hdst ht]; exact e⟩
theorem aLoad_at (t : Nat) (i o : Nat) (h h' : Heap) (he : h'[i]? = h[i]?) : aLoad p T t (.ptr i o) h' = (aLoad p T t (.ptr i o) h).at_ h' := by
 unfold aLoad
 simp only [he]
 repeat' split
 all_goals first | rfl | simp_all [AR.at_]
theorem aFieldAddr_at (t : Nat) (i o : Nat) (f : Nat) (h h' : Heap) (he : h'[i]? = h[i]?) : aFieldAddr T t (.ptr i o) f h' = (aFieldAddr T t (.ptr i o) f h).at_ h' := by
 unfold aFieldAddr
 simp only [he]
 repeat' split
 all_goals first | rfl | simp_all [AR.at_]
theorem aStore_set {t : Nat} {i o : Nat} {x u : AVal} {h h' : Heap} (hh : arK p (only u h') (aStore p T t (.ptr i o) x h)) : ∃ y, h' = h.set i y := by
 unfold aStore at hh
 repeat' split at hh
 all_goals first
  | exact hh.elim
  | (cases ‹AVal.ptr i o = AVal.pp _›; done)
  | (cases ‹AVal.ptr i o = AVal.pe _ _ _ _›; done)
  | (cases ‹AVal.ptr i o = AVal.ptr _ _›; exact ⟨_, hh.2.symm⟩)
  | exact ⟨_, hh.2.symm⟩
theorem getD_ft {l : Array Bool} {n : Nat} (h : l.getD n false = true) : l.getD n true = true := by
 rcases Nat.lt_or_ge n l.size with h' | h'
 ·simp [h'] at h ⊢; exact h
 ·simp [Array.getElem?_eq_none h'] at h
theorem arK_at {r : AR} {v : AVal} {h h' : Heap} (hr : arK p (only v h) r) : arK p (only v h') (r.at_ h') := by
 cases r with
 | ok v' h2 => exact ⟨hr.1, rfl⟩
 | need q v' h2 => exact ⟨hr.1, hr.2.1, rfl⟩
 | stuck => exact hr
section
variable {P : Program} (hc : CallOK P p)
include hc
theorem rg_swap2 {ops : Array Oper} {oi oj : Oper} {listed : Array Bool} {tm : Nat → AVal} {h h1 h2 : Heap} {v u : AVal} (hap : oi.apart ops oj = true) (hsc : sepC p.strict ops oi oj = true) (hI : IvD p.strict ops tm listed)
 (hli : ∀ e ∈ oi.after, Region.binds .any e = true → listed.getD e.on true = true) (hlj : ∀ e ∈ oj.after, Region.binds .any e = true → listed.getD e.on true = true)
 (hi : rg p T M ops.toList tm h oi (only v h1)) (hj : rg p T M ops.toList (updo tm oi.dst v) h1 oj (only u h2)) :
 ∃ h3, rg p T M ops.toList tm h oj (only u h3) ∧ rg p T M ops.toList (updo tm oj.dst u) h3 oi (only v h2) := by
 obtain ⟨a1, a2, a3⟩ := Oper.apart_spec hap
 rw [rg_put a1] at hj
 simp only [rg_put a3]
 unfold sepC at hsc
 simp only [Bool.and_eq_true] at hsc
 obtain ⟨⟨⟨⟨h9, hw⟩, gi⟩, gj⟩, hab⟩ := hsc
 have gi : oi.guard = none := by simpa using gi
 have gj : oj.guard = none := by simpa using gj
 obtain ⟨hD, hV⟩ := hI h9 hw
 split at hab
 ·rename_i a b ha hb
  simp only [Bool.and_eq_true, List.contains_iff_mem] at hab
  obtain ⟨⟨hma, hmb⟩, hst⟩ := hab
  have hne := hD a hma b hmb hst
  -- the objects
  obtain ⟨ia, oa, ib, ob, ta, tb, hab2⟩ : ∃ ia oa ib ob, tm a = .ptr ia oa ∧ tm b = .ptr ib ob ∧ ia ≠ ib := by
   unfold apartP at hne
   split at hne
   ·rename_i x1 x2
    refine ⟨_, _, _, _, x1, x2, fun e => ?_⟩
    subst e
    rw [Nat.beq_refl] at hne
    cases hne
   ·cases hne
  -- what the store does
  obtain ⟨y, hy⟩ : ∃ y, h2 = h1.set ib y := by
   unfold storeB at hb
   split at hb
   ·rename_i ty w x hop
    have hw2 : ∃ o', tm w = .ptr ib o' := by
     split at hb
     ·rename_i a' hdb
      simp only [Option.some.injEq] at hb
      subst hb
      obtain ⟨e, he, hbd, om, ty2, f, hom, h3, h4, h5⟩ := defB_spec hdb
      exact hV e.on om ty2 _ f w hmb (hlj e he hbd) hom h3 h4 h5 ib ob tb
     ·simp only [Option.some.injEq] at hb
      subst hb
      exact ⟨ob, tb⟩
    obtain ⟨o', hw'⟩ := hw2
    unfold rg at hj
    rw [gj] at hj
    simp only [ro, hop, aop, ev, hw'] at hj
    exact aStore_set hj
   ·cases hb
  -- the load
  have key : h1 = h ∧ rg p T M ops.toList tm h2 oi (only v h2) := by
   unfold readB at ha
   split at ha
   ·rename_i ty a' f hop
    simp only [Option.some.injEq] at ha
    subst ha
    have e1 : h1 = h := rg_read hc (by rw [hop]; rfl) hi
    refine ⟨e1, ?_⟩
    subst e1
    have hlook : h2[ia]? = h1[ia]? := by rw [hy]; exact List.getElem?_set_ne (Ne.symm hab2)
    unfold rg at hi ⊢
    rw [gi] at hi ⊢
    simp only [ro, hop, aop, ev, ta] at hi ⊢
    rw [aFieldAddr_at ty ia oa f h1 h2 hlook]
    exact arK_at hi
   ·rename_i ty w hop
    have hw2 : ∃ o', tm w = .ptr ia o' := by
     split at ha
     ·rename_i a' hdb
      simp only [Option.some.injEq] at ha
      subst ha
      obtain ⟨e, he, hbd, om, ty2, f, hom, h3, h4, h5⟩ := defB_spec hdb
      exact hV e.on om ty2 _ f w hma (hli e he hbd) hom h3 h4 h5 ia oa ta
     ·simp only [Option.some.injEq] at ha
      subst ha
      exact ⟨oa, ta⟩
    obtain ⟨o', hw'⟩ := hw2
    have e1 : h1 = h := rg_read hc (by rw [hop]; rfl) hi
    refine ⟨e1, ?_⟩
    subst e1
    have hlook : h2[ia]? = h1[ia]? := by rw [hy]; exact List.getElem?_set_ne (Ne.symm hab2)
    unfold rg at hi ⊢
    rw [gi] at hi ⊢
    simp only [ro, hop, aop, ev, hw'] at hi ⊢
    rw [aLoad_at ty ia o' h1 h2 hlook]
    exact arK_at hi
   ·cases ha
  obtain ⟨e1, e2⟩ := key
  subst e1
  exact ⟨h2, hj, e2⟩
 ·cases hab
end
def oldO (ops : Array Oper) : Nat → Oper → Nat → Bool
 | 0, _, _ => false
 | d + 1, o, u => (bases2 ops.toList).contains u || o.after.any fun e => Region.binds .any e && match ops[e.on]? with
    | none => false
    | some om => om.guard.isNone && om.dst == some u && match om.op with
      | .move (.tmp a) => oldO ops d om a
      | .nilCheck (.tmp a) => oldO ops d om a
      | .fieldAddr _ (.tmp a) _ => oldO ops d om a
      | .indexAddr _ _ _ => true
      | _ => false
def srcOld (ops : Array Oper) (d : Nat) (om : Oper) : Bool := match om.op with
 | .move (.tmp a) => oldO ops d om a
 | .nilCheck (.tmp a) => oldO ops d om a
 | .fieldAddr _ (.tmp a) _ => oldO ops d om a
 | .indexAddr _ _ _ => true
 | _ => false
def freshO (ops : Array Oper) (o : Oper) (w : Nat) : Bool := o.after.any fun e => Region.binds .any e && match ops[e.on]? with
 | none => false
 | some om => isMk om && om.dst == some w
def plainR (st : Nat → Bool) (ops : Array Oper) : Bool := ops.all fun o => match opClass st o.op with
 | .eff => match o.op with
   | .store .. => true
   | _ => false
 | _ => true
def sepE (st : Nat → Bool) (ops : Array Oper) (oi oj : Oper) : Bool := st 9998 && wfR ops && plainR st ops && oi.guard.isNone && oj.guard.isNone &&
 (match oj.op with
   | .store _ (.tmp w) _ => freshO ops oj w
   | _ => false) &&
 (match oi.op with
   | .nilCheck _ => true
   | .fieldAddr _ _ _ => true
   | .indexAddr _ _ _ => true
   | .load _ (.tmp u) => oldO ops 10 oi u
   | _ => false)
def Old (n : Nat) (v : AVal) : Prop := ∀ i o, v = .ptr i o → i < n
def Fresh (n : Nat) (v : AVal) : Prop := ∃ i o, v = .ptr i o ∧ n ≤ i
def IvF (st : Nat → Bool) (T : Tab) (n : Nat) (ops : Array Oper) (tm : Nat → AVal) (h : Heap) (listed : Array Bool) : Prop := st 9998 = true → wfR ops = true → plainR st ops = true →
 (∀ o ∈ ops.toList, rowT T o = true) ∧ n ≤ h.length ∧ (∀ a ∈ bases2 ops.toList, Old n (tm a)) ∧
 ∀ (m : Nat) (om : Oper) (u : Nat), listed.getD m true = true → ops[m]? = some om → om.guard = none → om.dst = some u →
  (∀ d, srcOld ops d om = true → Old n (tm u)) ∧ (isMk om = true → Fresh n (tm u))
theorem base2_ne {ops : Array Oper} {j : Nat} {oj : Oper} {d a : Nat} (hj : ops[j]? = some oj) (hd : oj.dst = some d) (ha : a ∈ bases2 ops.toList) : a ≠ d := by
 have hm : oj ∈ ops.toList := by
  obtain ⟨h1, h2⟩ := Array.getElem?_eq_some_iff.1 hj
  rw [← h2]; simp
 have h2 := mem_dsts hm hd
 unfold bases2 at ha
 have h3 := (List.mem_filter.1 ha).2
 intro e
 subst e
 have : (dsts ops.toList).contains a = true := by simpa using h2
 rw [this] at h3; cases h3
theorem oldO_use {st : Nat → Bool} {n : Nat} {ops : Array Oper} {tm : Nat → AVal} {h : Heap} {listed : Array Bool} (hb : ∀ a ∈ bases2 ops.toList, Old n (tm a))
 (hV : ∀ (m : Nat) (om : Oper) (u : Nat), listed.getD m true = true → ops[m]? = some om → om.guard = none → om.dst = some u → (∀ d, srcOld ops d om = true → Old n (tm u)) ∧ (isMk om = true → Fresh n (tm u)))
 {o : Oper} (hl : ∀ e ∈ o.after, Region.binds .any e = true → listed.getD e.on true = true) {d u : Nat} (ho : oldO ops d o u = true) : Old n (tm u) := by
 cases d with
 | zero => simp [oldO] at ho
 | succ d =>
   simp only [oldO, Bool.or_eq_true] at ho
   rcases ho with ho | ho
   ·exact hb u (by simpa using ho)
   ·rw [Array.any_eq_true'] at ho
    obtain ⟨e, he, h1⟩ := ho
    simp only [Bool.and_eq_true] at h1
    obtain ⟨h1, h2⟩ := h1
    cases hom : ops[e.on]? with
    | none => rw [hom] at h2; cases h2
    | some om =>
      rw [hom] at h2
      simp only [Bool.and_eq_true, beq_iff_eq] at h2
      obtain ⟨⟨h3, h4⟩, h5⟩ := h2
      exact (hV e.on om u (hl e he h1) hom (by simpa using h3) h4).1 d h5
theorem freshO_use {n : Nat} {ops : Array Oper} {tm : Nat → AVal} {listed : Array Bool}
 (hV : ∀ (m : Nat) (om : Oper) (u : Nat), listed.getD m true = true → ops[m]? = some om → om.guard = none → om.dst = some u → (∀ d, srcOld ops d om = true → Old n (tm u)) ∧ (isMk om = true → Fresh n (tm u)))
 {o : Oper} (hl : ∀ e ∈ o.after, Region.binds .any e = true → listed.getD e.on true = true) {w : Nat} (ho : freshO ops o w = true) : Fresh n (tm w) := by
 unfold freshO at ho
 rw [Array.any_eq_true'] at ho
 obtain ⟨e, he, h1⟩ := ho
 simp only [Bool.and_eq_true] at h1
 obtain ⟨h1, h2⟩ := h1
 cases hom : ops[e.on]? with
 | none => rw [hom] at h2; cases h2
 | some om =>
   rw [hom] at h2
   simp only [Bool.and_eq_true, beq_iff_eq] at h2
   obtain ⟨h3, h4⟩ := h2
   have hg : om.guard = none := by
    unfold isMk at h3
    cases hg : om.guard with
    | none => rfl
    | some x => rw [hg] at h3; cases h3
   exact (hV e.on om w (hl e he h1) hom hg h4).2 h3
theorem aNil_old {n : Nat} {x u : AVal} {h h' : Heap} (hx : Old n x) (hr : arK p (only u h') (aNil x h)) : Old n u := by
 unfold aNil at hr
 repeat' split at hr
 all_goals first
  | exact hr.elim
  | (obtain ⟨rfl, _⟩ := hr; first | exact hx | (intro i o e; cases e))
theorem aField_old {n : Nat} {t f : Nat} {x u : AVal} {h h' : Heap} (hx : Old n x) (hr : arK p (only u h') (aFieldAddr T t x f h)) : Old n u := by
 unfold aFieldAddr at hr
 repeat' split at hr
 all_goals first
  | exact hr.elim
  | (obtain ⟨rfl, _⟩ := hr; intro i o e; first | cases e; done | (cases e; exact hx _ _ rfl))
theorem aIndex_old {n : Nat} {t : Nat} {x i u : AVal} {ci : Option Nat} {h h' : Heap} (ht : ∃ ti e, Tab.get? T t = some ti ∧ ti.d = .slice e) (hr : arK p (only u h') (aIndexAddr p T t x i ci h)) : Old n u := by
 obtain ⟨ti, e, h1, h2⟩ := ht
 unfold aIndexAddr at hr
 rw [h1] at hr
 simp only [h2] at hr
 repeat' split at hr
 all_goals first
  | exact hr.elim
  | (obtain ⟨_, rfl, _⟩ := hr; intro i o e; cases e)
theorem rowT_spec {o : Oper} {t : Nat} {x i : Operand} (h : rowT T o = true) (ho : o.op = .indexAddr t x i) : ∃ ti e, Tab.get? T t = some ti ∧ ti.d = .slice e := by
 unfold rowT at h
 rw [ho] at h
 simp only at h
 split at h
 ·rename_i ti e
  split at h
  ·rename_i e2; exact ⟨_, _, e, e2⟩
  ·cases h
 ·cases h
section
variable {P : Program} (hc : CallOK P p)
include hc
theorem aStore_len {t : Nat} {a x u : AVal} {h h' : Heap} (hh : arK p (only u h') (aStore p T t a x h)) : h'.length = h.length := by
 unfold aStore at hh
 repeat' split at hh
 all_goals first
  | exact hh.elim
  | (rw [← hh.2]; simp)
theorem IvF.step {ops : Array Oper} {n : Nat} {tm : Nat → AVal} {h : Heap} {listed : Array Bool} {j : Nat} {oj : Oper} {u : AVal} {h' : Heap} (hI : IvF p.strict T n ops tm h listed) (hoj : ops[j]? = some oj)
 (hl : ∀ e ∈ oj.after, Region.binds .any e = true → listed.getD e.on true = true) (hr : rg p T M ops.toList tm h oj (only u h')) : IvF p.strict T n ops (updo tm oj.dst u) h' (listed.setIfInBounds j true) := by
 intro h9 hw hpl
 obtain ⟨hS, hN, hB, hV⟩ := hI h9 hw hpl
 have hmem : oj ∈ ops.toList := by
  obtain ⟨h1, h2⟩ := Array.getElem?_eq_some_iff.1 hoj
  rw [← h2]; simp
 refine ⟨hS, ?_, fun a ha => ?_, ?_⟩
 ·cases hcl : opClass p.strict oj.op with
  | pure => rw [(rg_pure hcl hr).1]; exact hN
  | read => rw [rg_read hc hcl hr]; exact hN
  | alloc =>
    obtain ⟨x, rfl⟩ := rg_alloc hcl hr
    rw [List.length_append]; omega
  | eff =>
    have h1 : (match opClass p.strict oj.op with
     | .eff => match oj.op with
       | .store .. => true
       | _ => false
     | _ => true) = true := by
     have := hpl
     unfold plainR at this
     rw [Array.all_eq_true'] at this
     exact this oj (by simpa using hmem)
    rw [hcl] at h1
    simp only at h1
    split at h1
    ·rename_i t a x hop
     unfold rg at hr
     split at hr
     ·simp only [ro, hop, aop] at hr
      rw [aStore_len hc hr]; exact hN
     ·split at hr
      ·exact hr.elim
      ·split at hr
       ·split at hr
        ·simp only [ro, hop, aop] at hr
         rw [aStore_len hc hr]; exact hN
        ·rw [← hr.2]; exact hN
       ·rw [← hr.2]; exact hN
       ·exact hr.elim
    ·cases h1
 ·rw [updo_ne fun t ht => base2_ne hoj ht ha]
  exact hB a ha
 ·intro m om w hlm hom hg hdst
  by_cases hmj : m = j
  ·subst hmj
   obtain rfl : om = oj := by rw [hom] at hoj; exact Option.some.inj hoj
   have e : updo tm om.dst u w = u := by rw [hdst]; simp [updo, upd_get]
   rw [e]
   unfold rg at hr
   rw [hg] at hr
   refine ⟨fun d hd => ?_, fun hmk => ?_⟩
   ·unfold srcOld at hd
    split at hd
    ·rename_i a hop
     have ho := oldO_use (st := p.strict) (h := h) hB hV hl hd
     simp only [ro, hop, aop, ev] at hr
     obtain ⟨rfl, _⟩ := hr
     exact ho
    ·rename_i a hop
     have ho := oldO_use (st := p.strict) (h := h) hB hV hl hd
     simp only [ro, hop, aop, ev] at hr
     exact aNil_old ho hr
    ·rename_i t a f hop
     have ho := oldO_use (st := p.strict) (h := h) hB hV hl hd
     simp only [ro, hop, aop, ev] at hr
     exact aField_old ho hr
    ·rename_i t x i hop
     simp only [ro, hop, aop] at hr
     exact aIndex_old (rowT_spec (hS om hmem) hop) hr
    ·cases hd
   ·unfold isMk at hmk
    rw [hg] at hmk
    simp only at hmk
    split at hmk
    ·rename_i t hop
     simp only [ro, hop, aop, aAlloc] at hr
     split at hr
     ·exact ⟨_, _, hr.1.symm, hN⟩
     ·exact hr.elim
    ·cases hmk
  ·have hl2 : listed.getD m true = true := by
    rw [getD_set_ne true (Ne.symm hmj)] at hlm; exact hlm
   obtain ⟨h1, h2⟩ := hV m om w hl2 hom hg hdst
   have e : updo tm oj.dst u w = tm w := updo_ne fun t ht => wfR_dst hw hom hoj hmj hdst ht
   rw [e]
   exact ⟨h1, h2⟩
omit hc in
theorem aStore_box {t : Nat} {i o : Nat} {x u : AVal} {h h' : Heap} (hh : arK p (only u h') (aStore p T t (.ptr i o) x h)) : ∃ vs vs', h[i]? = some (.box vs) ∧ h' = h.set i (.box vs') ∧ vs'.length = vs.length := by
 unfold aStore at hh
 split at hh
 ·rename_i ti hti
  split at hh
  ·rename_i hsz
   have hsz := Nat.eq_of_beq_eq_true hsz
   split at hh
   ·simp only at hh
    split at hh
    ·rename_i vs hv
     split at hh
     ·rename_i hle
      have hle := Nat.le_of_ble_eq_true hle
      exact ⟨vs, _, hv, hh.2.symm, putCells_length _ _ _ (by omega)⟩
     ·exact hh.elim
    ·exact hh.elim
   ·exact hh.elim
  ·exact hh.elim
 ·exact hh.elim
omit hc in
theorem look_set {h : Heap} {ib : Nat} {vs vs' : List AVal} (hb : h[ib]? = some (.box vs)) (hl : vs'.length = vs.length) (i : Nat) :
 (i ≠ ib ∧ (h.set ib (.box vs'))[i]? = h[i]?) ∨ (i = ib ∧ h[i]? = some (.box vs) ∧ (h.set ib (.box vs'))[i]? = some (.box vs')) := by
 by_cases e : i = ib
 ·subst e
  refine .inr ⟨rfl, hb, ?_⟩
  rw [List.getElem?_set_self (List.getElem?_eq_some_iff.1 hb).1]
 ·exact .inl ⟨e, List.getElem?_set_ne (Ne.symm e)⟩
omit hc in
theorem aNil_set {h : Heap} {ib : Nat} {vs vs' : List AVal} (hb : h[ib]? = some (.box vs)) (hl : vs'.length = vs.length) (x : AVal) : aNil x (h.set ib (.box vs')) = (aNil x h).at_ (h.set ib (.box vs')) := by
 unfold aNil
 cases x with
 | ptr i o =>
   rcases look_set hb hl i with ⟨_, e⟩ | ⟨rfl, e1, e2⟩
   ·simp only [e]; repeat' split
    all_goals first | rfl | simp_all [AR.at_]
   ·simp only [e1, e2]; rfl
 | _ => repeat' split
        all_goals first | rfl | simp_all [AR.at_]
omit hc in
theorem aField_set {h : Heap} {ib : Nat} {vs vs' : List AVal} (hb : h[ib]? = some (.box vs)) (hl : vs'.length = vs.length) (t f : Nat) (x : AVal) : aFieldAddr T t x f (h.set ib (.box vs')) = (aFieldAddr T t x f h).at_ (h.set ib (.box vs')) := by
 unfold aFieldAddr
 cases x with
 | ptr i o =>
   rcases look_set hb hl i with ⟨_, e⟩ | ⟨rfl, e1, e2⟩
   ·simp only [e]; repeat' split
    all_goals first | rfl | simp_all [AR.at_]
   ·simp only [e1, e2, hl]; repeat' split
    all_goals first | rfl | simp_all [AR.at_]
 | pe i g ix o =>
   rcases look_set hb hl i with ⟨_, e⟩ | ⟨rfl, e1, e2⟩
   ·simp only [e]; repeat' split
    all_goals first | rfl | simp_all [AR.at_]
   ·simp only [e1, e2]; repeat' split
    all_goals first | rfl | simp_all [AR.at_]
 | _ => repeat' split
        all_goals first | rfl | simp_all [AR.at_]
omit hc in
theorem aIndexAddr_set {h : Heap} {ib : Nat} {vs vs' : List AVal} (hb : h[ib]? = some (.box vs)) (hl : vs'.length = vs.length) (t : Nat) (x n : AVal) (ci : Option Nat) : aIndexAddr p T t x n ci (h.set ib (.box vs')) = (aIndexAddr p T t x n ci h).at_ (h.set ib (.box vs')) := by
 unfold aIndexAddr
 cases x with
 | ptr i o =>
   rcases look_set hb hl i with ⟨_, e⟩ | ⟨rfl, e1, e2⟩
   ·simp only [e]; repeat' split
    all_goals first | rfl | simp_all [AR.at_]
   ·simp only [e1, e2, hl]; repeat' split
    all_goals first | rfl | simp_all [AR.at_]
 | sl i g lo hi =>
   rcases look_set hb hl i with ⟨_, e⟩ | ⟨rfl, e1, e2⟩
   ·simp only [e]; repeat' split
    all_goals first | rfl | simp_all [AR.at_]
   ·simp only [e1, e2]; repeat' split
    all_goals first | rfl | simp_all [AR.at_]
 | _ => repeat' split
        all_goals first | rfl | simp_all [AR.at_]
omit hc in
theorem aLoad_set {h : Heap} {ib : Nat} {vs vs' : List AVal} (hb : h[ib]? = some (.box vs)) (hl : vs'.length = vs.length) (t : Nat) (x : AVal) (hx : ∀ i o, x = .ptr i o → i ≠ ib) : aLoad p T t x h = .stuck ∨ aLoad p T t x (h.set ib (.box vs')) = (aLoad p T t x h).at_ (h.set ib (.box vs')) := by
 cases x with
 | ptr i o => exact .inr (aLoad_at t i o h _ (List.getElem?_set_ne (Ne.symm (hx i o rfl))))
 | pe i g ix o =>
   rcases look_set hb hl i with ⟨_, e⟩ | ⟨rfl, e1, e2⟩
   ·right
    unfold aLoad
    simp only [e]; repeat' split
    all_goals first | rfl | simp_all [AR.at_]
   ·left
    unfold aLoad
    simp only [e1]; repeat' split
    all_goals first | rfl | simp_all
 | _ =>
   right
   unfold aLoad
   repeat' split
   all_goals first | rfl | simp_all [AR.at_]
theorem rg_swap3 {ops : Array Oper} {n : Nat} {oi oj : Oper} {listed : Array Bool} {tm : Nat → AVal} {h h1 h2 : Heap} {v u : AVal} (hap : oi.apart ops oj = true) (hsc : sepE p.strict ops oi oj = true) (hI : IvF p.strict T n ops tm h listed)
 (hli : ∀ e ∈ oi.after, Region.binds .any e = true → listed.getD e.on true = true) (hlj : ∀ e ∈ oj.after, Region.binds .any e = true → listed.getD e.on true = true)
 (hi : rg p T M ops.toList tm h oi (only v h1)) (hj : rg p T M ops.toList (updo tm oi.dst v) h1 oj (only u h2)) :
 ∃ h3, rg p T M ops.toList tm h oj (only u h3) ∧ rg p T M ops.toList (updo tm oj.dst u) h3 oi (only v h2) := by
 obtain ⟨a1, a2, a3⟩ := Oper.apart_spec hap
 rw [rg_put a1] at hj
 simp only [rg_put a3]
 unfold sepE at hsc
 simp only [Bool.and_eq_true] at hsc
 obtain ⟨⟨⟨⟨⟨⟨h9, hw⟩, hpl⟩, gi⟩, gj⟩, hsj⟩, hsi⟩ := hsc
 have gi : oi.guard = none := by simpa using gi
 have gj : oj.guard = none := by simpa using gj
 obtain ⟨hS, hN, hB, hV⟩ := hI h9 hw hpl
 split at hsj
 ·rename_i ty w x hop
  obtain ⟨ib, ob, hw2, hib⟩ := freshO_use hV hlj hsj
  have hj0 := hj
  unfold rg at hj
  rw [gj] at hj
  simp only [ro, hop, aop, ev, hw2] at hj
  obtain ⟨vs, vs', hb, he, hl⟩ := aStore_box hj
  have key : h1 = h ∧ rg p T M ops.toList tm h2 oi (only v h2) := by
   unfold rg at hi ⊢
   rw [gi] at hi ⊢
   split at hsi
   ·rename_i y hopi
    have e1 : h1 = h := by
     have hi2 : rg p T M ops.toList tm h oi (only v h1) := by unfold rg; rw [gi]; exact hi
     exact rg_read hc (by rw [hopi]; rfl) hi2
    refine ⟨e1, ?_⟩
    subst e1
    simp only [ro, hopi, aop] at hi ⊢
    rw [he, aNil_set hb hl]
    exact arK_at hi
   ·rename_i t y f hopi
    have e1 : h1 = h := by
     have hi2 : rg p T M ops.toList tm h oi (only v h1) := by unfold rg; rw [gi]; exact hi
     exact rg_read hc (by rw [hopi]; rfl) hi2
    refine ⟨e1, ?_⟩
    subst e1
    simp only [ro, hopi, aop] at hi ⊢
    rw [he, aField_set hb hl]
    exact arK_at hi
   ·rename_i t y i hopi
    have e1 : h1 = h := by
     have hi2 : rg p T M ops.toList tm h oi (only v h1) := by unfold rg; rw [gi]; exact hi
     exact rg_read hc (by rw [hopi]; rfl) hi2
    refine ⟨e1, ?_⟩
    subst e1
    simp only [ro, hopi, aop] at hi ⊢
    rw [he, aIndexAddr_set hb hl]
    exact arK_at hi
   ·rename_i t y hopi
    have e1 : h1 = h := by
     have hi2 : rg p T M ops.toList tm h oi (only v h1) := by unfold rg; rw [gi]; exact hi
     exact rg_read hc (by rw [hopi]; rfl) hi2
    refine ⟨e1, ?_⟩
    subst e1
    have ho := oldO_use (st := p.strict) (h := h1) hB hV hli hsi
    simp only [ro, hopi, aop, ev] at hi ⊢
    rw [he]
    rcases aLoad_set (p := p) (T := T) hb hl t (tm y) (fun i o e => by have := ho i o e; omega) with e | e
    ·rw [e] at hi; exact hi.elim
    ·rw [e]; exact arK_at hi
   ·cases hsi
  obtain ⟨e1, e2⟩ := key
  subst e1
  exact ⟨h2, hj0, e2⟩
 ·cases hsj
end
def sepX (st : Nat → Bool) (ops : Array Oper) (oi oj : Oper) : Bool := sepC st ops oi oj || sepE st ops oi oj
def IvX (st : Nat → Bool) (T : Tab) (n : Nat) (ops : Array Oper) (tm : Nat → AVal) (h : Heap) (listed : Array Bool) : Prop := IvD st ops tm listed ∧ IvF st T n ops tm h listed
section
variable {P : Program} (hc : CallOK P p)
include hc
theorem IvX.step {ops : Array Oper} {n : Nat} {tm : Nat → AVal} {h : Heap} {listed : Array Bool} {j : Nat} {oj : Oper} {u : AVal} {h' : Heap} (hI : IvX p.strict T n ops tm h listed) (hoj : ops[j]? = some oj)
 (hl : ∀ e ∈ oj.after, Region.binds .any e = true → listed.getD e.on true = true) (hr : rg p T M ops.toList tm h oj (only u h')) : IvX p.strict T n ops (updo tm oj.dst u) h' (listed.setIfInBounds j true) :=
 ⟨hI.1.step hoj hr, hI.2.step hc hoj hl hr⟩
theorem rg_swapX {ops : Array Oper} {n : Nat} {oi oj : Oper} {listed : Array Bool} {tm : Nat → AVal} {h h1 h2 : Heap} {v u : AVal} (hap : oi.apart ops oj = true) (hsc : sepX p.strict ops oi oj = true) (hI : IvX p.strict T n ops tm h listed)
 (hli : ∀ e ∈ oi.after, Region.binds .any e = true → listed.getD e.on true = true) (hlj : ∀ e ∈ oj.after, Region.binds .any e = true → listed.getD e.on true = true)
 (hi : rg p T M ops.toList tm h oi (only v h1)) (hj : rg p T M ops.toList (updo tm oi.dst v) h1 oj (only u h2)) :
 ∃ h3, rg p T M ops.toList tm h oj (only u h3) ∧ rg p T M ops.toList (updo tm oj.dst u) h3 oi (only v h2) := by
 unfold sepX at hsc
 rw [Bool.or_eq_true] at hsc
 rcases hsc with hs | hs
 ·exact rg_swap2 hc hap hs hI.1 hli hlj hi hj
 ·exact rg_swap3 hc hap hs hI.2 hli hlj hi hj
theorem wpAnyA_first {n0 nt : Nat} {ops : Array Oper} {K : St → Prop} {i : Nat} {oi : Oper} {v : AVal} (hi : ops[i]? = some oi) (hdi : dOK nt oi.dst) :
 ∀ (fuel : Nat) (listed : Array Bool) (s : St) (h1 : Heap),
  (∀ j oj, ops[j]? = some oj → j ≠ i → listed.getD j true = false → Loose ops listed i oj → oi.apart ops oj = true ∧ (OC.comm (opClass p.strict oi.op) (opClass p.strict oj.op) = true ∨ sepX p.strict ops oi oj = true)) → IvX p.strict T n0 ops s.tm s.h listed →
  i ∈ Region.ready .any ops listed → rg p T M ops.toList s.tm s.h oi (only v h1) →
  wpAnyA p T M nt ops K fuel (listed.setIfInBounds i true) ⟨updo s.tm oi.dst v, h1⟩ → wpAnyA p T M nt ops K (fuel + 1) listed s := by
 intro fuel
 induction fuel with
 | zero =>
   intro listed s h1 _ _ hr hy H
   refine ⟨fun h => (by rw [h] at hr; cases hr), fun j hj oj hoj => ?_⟩
   by_cases hji : j = i
   ·subst hji
    obtain rfl : oi = oj := by rw [hi] at hoj; exact Option.some.inj hoj
    exact rg_mono hc hy fun v' h' ⟨e1, e2⟩ => by subst e1; subst e2; exact ⟨hdi, H⟩
   ·have := ready_mono hj hji
    rw [H.1] at this
    cases this
 | succ fuel ih =>
   intro listed s h1 hfree hIv hr hy H
   refine ⟨fun h => (by rw [h] at hr; cases hr), fun j hj oj hoj => ?_⟩
   by_cases hji : j = i
   ·subst hji
    obtain rfl : oi = oj := by rw [hi] at hoj; exact Option.some.inj hoj
    exact rg_mono hc hy fun v' h' ⟨e1, e2⟩ => by subst e1; subst e2; exact ⟨hdi, H⟩
   ·have h2 := H.2 j (ready_mono hj hji) oj hoj
    obtain ⟨u, hu, h3, hdj, h4⟩ := rg_det hc h2
    obtain ⟨hjun, oj', hoj', hall⟩ := mem_ready.1 hj
    obtain rfl : oj = oj' := by rw [hoj] at hoj'; exact Option.some.inj hoj'
    have hnot : ∀ e ∈ oj.after, Region.binds .any e = true → e.on ≠ i := fun e he hb heq => by
     have h1 := hall e he hb
     have h0 := (mem_ready.1 hr).1
     rw [heq] at h1
     rcases Nat.lt_or_ge i listed.size with h' | h'
     ·simp [h'] at h0 h1; rw [h0] at h1; cases h1
     ·simp [Array.getElem?_eq_none h'] at h1
    have hloose : Loose ops listed i oj := Loose.ready hnot fun e he hb => by have := hall e he hb; rcases Nat.lt_or_ge e.on listed.size with h' | h' <;> simp_all
    obtain ⟨ap, cm⟩ := hfree j oj hoj hji hjun hloose
    obtain ⟨_, oi', hoi', halli⟩ := mem_ready.1 hr
    obtain rfl : oi = oi' := by rw [hi] at hoi'; exact Option.some.inj hoi'
    obtain ⟨h5, k1, k2⟩ := cm.elim (fun cm => rg_swap hc ap cm hy h3) (fun cm => rg_swapX hc ap cm hIv (fun e he hb => getD_ft (halli e he hb)) (fun e he hb => getD_ft (hall e he hb)) hy h3)
    have hfree' : ∀ k ok, ops[k]? = some ok → k ≠ i → (listed.setIfInBounds j true).getD k true = false →
     Loose ops (listed.setIfInBounds j true) i ok → oi.apart ops ok = true ∧ (OC.comm (opClass p.strict oi.op) (opClass p.strict ok.op) = true ∨ sepX p.strict ops oi ok = true) := fun k ok hk hki hun hno => by
     refine hfree k ok hk hki ?_ fun d => ?_
     rotate_left
     ·cases hw : waitsB ops listed i d ok with
      | false => rfl
      | true => have := waits_set hoj hloose d ok hw; rw [hno d] at this; cases this
     by_cases hjk : j = k
     ·subst hjk; exact hjun
     ·rw [getD_set_ne true hjk] at hun; exact hun
    refine rg_mono hc k1 fun v' h' ⟨e1, e2⟩ => ?_
    subst e1; subst e2
    refine ⟨hdj, ih (listed.setIfInBounds j true) ⟨updo s.tm oj.dst v', h'⟩ hu hfree' (hIv.step hc hoj (fun e he hb => getD_ft (hall e he hb)) k1) (ready_mono hr (Ne.symm hji)) k2 ?_⟩
    rw [Array.setIfInBounds_comm _ _ hji]
    rw [updo_comm (Oper.apart_spec ap).2.1] at h4
    exact h4
end
def freeA (st : Nat → Bool) (ops : Array Oper) (listed : Array Bool) (i : Nat) : Bool :=
 match ops[i]? with
 | none => false
 | some oi => (List.range ops.size).all fun j => j == i || listed.getD j true || match ops[j]? with
    | some oj => waitsB ops listed i 10 oj || (oi.apart ops oj && (OC.comm (opClass st oi.op) (opClass st oj.op) || sepX st ops oi oj))
    | none => true
def isPair (st : Nat → Bool) (ops : Array Oper) (k : Nat) : Bool := match ops[k]?, ops[k + 1]? with
 | some a, some b => pairQ st true a b
 | _, _ => false
def pairOK (ops : Array Oper) (listed : Array Bool) (k : Nat) : Bool := (Region.ready .any ops listed).contains k && (Region.ready .any ops listed).contains (k + 1) &&
 (List.range ops.size).all fun j => j == k || j == k + 1 || listed.getD j true || match ops[j]? with
   | some oj => waitsB ops listed k 10 oj && waitsB ops listed (k + 1) 10 oj
   | none => true
def lexFromA (st : Nat → Bool) (ops : Array Oper) : Nat → Nat → Array Bool → Bool
 | 0, _, listed => (Region.ready .any ops listed).isEmpty
 | 1, k, listed => (Region.ready .any ops listed).contains k && freeA st ops listed k && (Region.ready .any ops (listed.setIfInBounds k true)).isEmpty
 | fuel + 2, k, listed => match isPair st ops k with
   | true => pairOK ops listed k && lexFromA st ops fuel (k + 2) ((listed.setIfInBounds k true).setIfInBounds (k + 1) true)
   | false => (Region.ready .any ops listed).contains k && freeA st ops listed k && lexFromA st ops (fuel + 1) (k + 1) (listed.setIfInBounds k true)
def lexA (st : Nat → Bool) (ops : Array Oper) : Bool := lexFromA st ops ops.size 0 (Array.replicate ops.size false)
theorem freeA_spec {ops : Array Oper} {i : Nat} {oi : Oper} {listed : Array Bool} (hi : ops[i]? = some oi) (h : freeA p.strict ops listed i = true) (j : Nat) (oj : Oper)
 (hj : ops[j]? = some oj) (hne : j ≠ i) (hun : listed.getD j true = false) (hno : Loose ops listed i oj) :
 oi.apart ops oj = true ∧ (OC.comm (opClass p.strict oi.op) (opClass p.strict oj.op) = true ∨ sepX p.strict ops oi oj = true) := by
 simp only [freeA, hi, List.all_eq_true, List.mem_range] at h
 have h1 := h j (Array.getElem?_eq_some_iff.1 hj).1
 simp only [hj, Bool.or_eq_true, Bool.and_eq_true, beq_iff_eq, hne, false_or, hun, Bool.false_eq_true] at h1
 rcases h1 with h1 | h1
 ·rw [hno 10] at h1; cases h1
 ·exact h1
section
variable {P : Program} (hT : TabOK P T) (hM : MTabOK P T M) (hp : DataOK p) (hc : CallOK P p) {e0 : Env} {nt : Nat} {ro_ : Option Nat} {n : Nat}
include hc
omit hc in
theorem sepD_spec {ops : Array Oper} {tm : Nat → AVal} {K : Prop} (h : sepD true p.strict ops.toList tm K) : IvD p.strict ops tm (Array.replicate ops.size false) ∧ K := by
 unfold sepD at h
 have hIv : p.strict 9999 = true → ((bases ops.toList).all fun a => (bases ops.toList).all fun b => sepP p.strict tm a b) = true → IvD p.strict ops tm (Array.replicate ops.size false) := fun _ hb _ _ => by
  refine ⟨fun a ha b hb' hs => ?_, fun m om ty a f u _ hl hom => ?_⟩
  ·have h1 := List.all_eq_true.1 hb a ha
   have h2 := List.all_eq_true.1 h1 b hb'
   unfold sepP at h2
   rw [hs] at h2
   exact h2
  ·have hm := (Array.getElem?_eq_some_iff.1 hom).1
   rw [Array.getD_eq_getD_getElem?, Array.getElem?_replicate] at hl
   simp [hm] at hl
 simp only at h
 split at h
 ·rename_i h9
  exact ⟨fun h9' => (by rw [h9] at h9'; cases h9'), h⟩
 ·rename_i h9
  split at h
  ·rename_i hb
   exact ⟨hIv h9 hb, h⟩
  ·exact h.elim
omit hc in
theorem oldP_spec {n : Nat} {v : AVal} (h : oldP n v = true) : Old n v := fun i o e => by
 subst e
 unfold oldP at h
 simpa using h
omit hc in
theorem sepX_spec {ops : Array Oper} {tm : Nat → AVal} {h : Heap} {K : Prop} (hk : sepD true p.strict ops.toList tm (sepF T true p.strict ops.toList tm h K)) : IvX p.strict T h.length ops tm h (Array.replicate ops.size false) ∧ K := by
 obtain ⟨h1, h2⟩ := sepD_spec hk
 unfold sepF at h2
 simp only at h2
 split at h2
 ·rename_i h9
  exact ⟨⟨h1, fun h9' => (by rw [h9] at h9'; cases h9')⟩, h2⟩
 ·split at h2
  ·rename_i hrow
   split at h2
   ·rename_i hb
    refine ⟨⟨h1, fun _ _ _ => ⟨fun o ho => List.all_eq_true.1 hrow o ho, Nat.le_refl _, fun a ha => oldP_spec (List.all_eq_true.1 hb a ha), fun m om u hl hom => ?_⟩⟩, h2⟩
    have hm := (Array.getElem?_eq_some_iff.1 hom).1
    rw [Array.getD_eq_getD_getElem?, Array.getElem?_replicate] at hl
    simp [hm] at hl
   ·exact h2.elim
  ·exact h2.elim
theorem loose_ready {ops : Array Oper} {listed : Array Bool} {i m : Nat} {om : Oper} (hi : i ∈ Region.ready .any ops listed) (hm : m ∈ Region.ready .any ops listed) (hom : ops[m]? = some om) : Loose ops listed i om := by
 obtain ⟨hmun, om', hom', hall⟩ := mem_ready.1 hm
 obtain rfl : om = om' := by rw [hom] at hom'; exact Option.some.inj hom'
 have hnot : ∀ e ∈ om.after, Region.binds .any e = true → e.on ≠ i := fun e he hb heq => by
  have h1 := hall e he hb
  have h0 := (mem_ready.1 hi).1
  rw [heq] at h1
  rcases Nat.lt_or_ge i listed.size with h' | h'
  ·simp [h'] at h0 h1; rw [h0] at h1; cases h1
  ·simp [Array.getElem?_eq_none h'] at h1
 exact Loose.ready hnot fun e he hb => getD_ft (hall e he hb)
theorem wpAnyA_one {nt : Nat} {ops : Array Oper} {K : St → Prop} {i j : Nat} {oi oj : Oper} (hi : ops[i]? = some oi) (hj : ops[j]? = some oj) (hij : j ≠ i) {fuel : Nat} {listed : Array Bool} {s : St}
 (hri : i ∈ Region.ready .any ops listed) (hrj : j ∈ Region.ready .any ops listed)
 (hoth : ∀ m om, ops[m]? = some om → m ≠ i → m ≠ j → listed.getD m true = false → waitsB ops listed j 10 om = true)
 (H : rg p T M ops.toList s.tm s.h oj fun v h => dOK nt oj.dst ∧ wpAnyA p T M nt ops K fuel ((listed.setIfInBounds i true).setIfInBounds j true) ⟨updo s.tm oj.dst v, h⟩) :
 wpAnyA p T M nt ops K (fuel + 1) (listed.setIfInBounds i true) s := by
 have hrj2 := ready_mono hrj hij
 refine ⟨fun h => (by rw [h] at hrj2; cases hrj2), fun m hm om hom => ?_⟩
 by_cases hmj : m = j
 ·subst hmj
  obtain rfl : om = oj := by rw [hom] at hj; exact Option.some.inj hj
  exact H
 ·have hlo := loose_ready hc hrj2 hm hom
  have hun := (mem_ready.1 hm).1
  have hmi : m ≠ i := fun e => by
   subst e
   rcases Nat.lt_or_ge m listed.size with h' | h'
   ·simp [h'] at hun
   ·have h0 := (mem_ready.1 hri).1
    simp [Array.getElem?_eq_none h'] at h0
  rw [getD_set_ne true (Ne.symm hmi)] at hun
  have h1 := hoth m om hom hmi hmj hun
  have h2 := waits_set hi (loose_ready hc hrj hri hi) 10 om h1
  rw [hlo 10] at h2
  cases h2
theorem wpAnyA_two {nt : Nat} {ops : Array Oper} {K : St → Prop} {i j : Nat} {oi oj : Oper} (hi : ops[i]? = some oi) (hj : ops[j]? = some oj) (hij : j ≠ i) {fuel : Nat} {listed : Array Bool} {s : St}
 (hri : i ∈ Region.ready .any ops listed) (hrj : j ∈ Region.ready .any ops listed)
 (hoth : ∀ m om, ops[m]? = some om → m ≠ i → m ≠ j → listed.getD m true = false → waitsB ops listed i 10 om = true ∧ waitsB ops listed j 10 om = true)
 (H1 : rg p T M ops.toList s.tm s.h oi fun v h => dOK nt oi.dst ∧ rg p T M ops.toList (updo s.tm oi.dst v) h oj fun v' h' => dOK nt oj.dst ∧
   wpAnyA p T M nt ops K fuel ((listed.setIfInBounds i true).setIfInBounds j true) ⟨updo (updo s.tm oi.dst v) oj.dst v', h'⟩)
 (H2 : rg p T M ops.toList s.tm s.h oj fun v h => dOK nt oj.dst ∧ rg p T M ops.toList (updo s.tm oj.dst v) h oi fun v' h' => dOK nt oi.dst ∧
   wpAnyA p T M nt ops K fuel ((listed.setIfInBounds j true).setIfInBounds i true) ⟨updo (updo s.tm oj.dst v) oi.dst v', h'⟩) :
 wpAnyA p T M nt ops K (fuel + 2) listed s := by
 refine ⟨fun h => (by rw [h] at hri; cases hri), fun m hm om hom => ?_⟩
 by_cases hmi : m = i
 ·subst hmi
  obtain rfl : om = oi := by rw [hom] at hi; exact Option.some.inj hi
  exact rg_mono hc H1 fun v h hk => ⟨hk.1, wpAnyA_one hc hi hj hij hri hrj (fun m om h1 h2 h3 h4 => (hoth m om h1 h2 h3 h4).2) hk.2⟩
 ·by_cases hmj : m = j
  ·subst hmj
   obtain rfl : om = oj := by rw [hom] at hj; exact Option.some.inj hj
   exact rg_mono hc H2 fun v h hk => ⟨hk.1, wpAnyA_one hc hj hi (Ne.symm hij) hrj hri (fun m om h1 h2 h3 h4 => (hoth m om h1 h3 h2 h4).1) hk.2⟩
  ·have h1 := (hoth m om hom hmi hmj (mem_ready.1 hm).1).1
   rw [loose_ready hc hri hm hom 10] at h1
   cases h1
theorem wpAnyA_lex {n0 : Nat} {ops : Array Oper} {K : St → Prop} : ∀ (l : List Oper) (k : Nat) (listed : Array Bool) (s : St), (∀ j, l[j]? = ops[k + j]?) →
 lexFromA p.strict ops l.length k listed = true → IvX p.strict T n0 ops s.tm s.h listed → wprA p T M nt true ops.toList l s K → wpAnyA p T M nt ops K l.length listed s
 | [], _, _, _, _, hB, _, h => ⟨by simpa [lexFromA] using hB, h⟩
 | [o], k, listed, s, hl, hB, hIv, h => by
   have h0 : ops[k]? = some o := by simpa using (hl 0).symm
   simp only [List.length_cons, List.length_nil, Nat.zero_add, lexFromA, Bool.and_eq_true] at hB
   obtain ⟨⟨hr, hf⟩, hB'⟩ := hB
   have h : wpg p T M nt true ops.toList o s K := h
   rw [wpg_rg] at h
   obtain ⟨v, h1, hy, hK⟩ := rg_det hc h
   rw [putK_iff] at hK
   exact wpAnyA_first hc h0 hK.1 0 listed s h1 (freeA_spec h0 hf) hIv (by simpa using hr) hy ⟨by simpa using hB', hK.2⟩
 | a :: b :: l, k, listed, s, hl, hB, hIv, h => by
   have h0 : ops[k]? = some a := by simpa using (hl 0).symm
   have h01 : ops[k + 1]? = some b := by simpa using (hl 1).symm
   have hpq : isPair p.strict ops k = pairQ p.strict true a b := by simp only [isPair, h0, h01]
   simp only [List.length_cons, lexFromA, hpq] at hB
   simp only [wprA] at h
   split at hB
   ·rename_i hq
    rw [hq] at h
    simp only at h
    rw [Bool.and_eq_true] at hB
    obtain ⟨hok, hB'⟩ := hB
    simp only [pairOK, Bool.and_eq_true, List.all_eq_true, List.mem_range] at hok
    obtain ⟨⟨hr1, hr2⟩, hoth⟩ := hok
    have hr1 : k ∈ Region.ready .any ops listed := by simpa using hr1
    have hr2 : k + 1 ∈ Region.ready .any ops listed := by simpa using hr2
    have rd : ∀ {i : Nat} {o : Oper}, i ∈ Region.ready .any ops listed → ops[i]? = some o → ∀ e ∈ o.after, Region.binds .any e = true → listed.getD e.on true = true := fun {i o} hi ho => by
     obtain ⟨_, o', ho', hall⟩ := mem_ready.1 hi
     obtain rfl : o = o' := by rw [ho] at ho'; exact Option.some.inj ho'
     exact fun e he hb => getD_ft (hall e he hb)
    have up : ∀ {l : Array Bool} {i x : Nat}, l.getD x true = true → (l.setIfInBounds i true).getD x true = true := fun {l i x} hx => by
     by_cases e : i = x
     ·subst e
      rcases Nat.lt_or_ge i l.size with h' | h'
      ·simp [h']
      ·simp [Array.getElem?_eq_none, h']
     ·rw [getD_set_ne true e]; exact hx
    have hl2 : ∀ j, l[j]? = ops[k + 2 + j]? := fun j => by have := hl (j + 2); simpa [Nat.add_assoc, Nat.add_comm 2 j] using this
    refine wpAnyA_two hc h0 h01 (by omega) hr1 hr2 (fun m om hom m1 m2 m3 => ?_) ?_ ?_
    ·have h1 := hoth m (Array.getElem?_eq_some_iff.1 hom).1
     simp only [hom, Bool.or_eq_true, Bool.and_eq_true, beq_iff_eq, m1, m2, m3, false_or, Bool.false_eq_true] at h1
     exact h1
    ·have h := h.1
     rw [wpg_rg] at h
     obtain ⟨v, h1, hy, hK⟩ := rg_det hc h
     rw [putK_iff, wpg_rg] at hK
     obtain ⟨d1, hK⟩ := hK
     obtain ⟨v2, h2, hy2, hK⟩ := rg_det hc hK
     rw [putK_iff] at hK
     have i1 := hIv.step hc h0 (rd hr1 h0) hy
     have i2 := i1.step hc h01 (fun e he hb => up (rd hr2 h01 e he hb)) hy2
     exact rg_mono hc hy fun v' h' ⟨e1, e2⟩ => by
      subst e1; subst e2
      exact ⟨d1, rg_mono hc hy2 fun v' h' ⟨e1, e2⟩ => by
       subst e1; subst e2
       exact ⟨hK.1, wpAnyA_lex l (k + 2) _ _ hl2 hB' i2 hK.2⟩⟩
    ·have h := h.2
     rw [wpg_rg] at h
     obtain ⟨v, h1, hy, hK⟩ := rg_det hc h
     rw [putK_iff, wpg_rg] at hK
     obtain ⟨d1, hK⟩ := hK
     obtain ⟨v2, h2, hy2, hK⟩ := rg_det hc hK
     rw [putK_iff] at hK
     have i1 := hIv.step hc h01 (rd hr2 h01) hy
     have i2 := i1.step hc h0 (fun e he hb => up (rd hr1 h0 e he hb)) hy2
     rw [Array.setIfInBounds_comm _ _ (by omega)] at i2 ⊢
     exact rg_mono hc hy fun v' h' ⟨e1, e2⟩ => by
      subst e1; subst e2
      exact ⟨d1, rg_mono hc hy2 fun v' h' ⟨e1, e2⟩ => by
       subst e1; subst e2
       exact ⟨hK.1, wpAnyA_lex l (k + 2) _ _ hl2 hB' i2 hK.2⟩⟩
   ·rename_i hq
    rw [hq] at h
    simp only [Bool.and_eq_true] at hB
    obtain ⟨⟨hr, hf⟩, hB'⟩ := hB
    have h : wpg p T M nt true ops.toList a s fun s' => wprA p T M nt true ops.toList (b :: l) s' K := h
    rw [wpg_rg] at h
    obtain ⟨v, h1, hy, hK⟩ := rg_det hc h
    rw [putK_iff] at hK
    have rd : ∀ e ∈ a.after, Region.binds .any e = true → listed.getD e.on true = true := by
     obtain ⟨_, o', ho', hall⟩ := mem_ready.1 (show k ∈ Region.ready .any ops listed by simpa using hr)
     obtain rfl : a = o' := by rw [h0] at ho'; exact Option.some.inj ho'
     exact fun e he hb => getD_ft (hall e he hb)
    exact wpAnyA_first hc h0 hK.1 (b :: l).length listed s h1 (freeA_spec h0 hf) hIv (by simpa using hr) hy
     (wpAnyA_lex (b :: l) (k + 1) _ _ (fun j => by have := hl (j + 1); simpa [Nat.add_assoc, Nat.add_comm 1 j] using this) hB' (hIv.step hc h0 rd hy) hK.2)
include hT hM hp
theorem wpAnyA_sound {ops : Array Oper} {Q : Exit → Act → World → Prop} {K : St → Prop} (hK : ∀ s e a, SR e0 nt s e a → K s → Q .normal a e.w) :
 ∀ (fuel : Nat) (listed : Array Bool) {s : St} {e : Env} {a : Act}, SR e0 nt s e a → wpAnyA p T M nt ops K fuel listed s → wpAnyIn (Fw ro_) n P .any ops Q fuel listed a e.w
 | 0, listed, s, e, a, h, hw => ⟨hw.1, hK _ _ _ h hw.2⟩
 | fuel + 1, listed, s, e, a, h, hw => by
   refine ⟨fun hr => hK _ _ _ h (hw.1 hr), fun i hi => ?_⟩
   obtain ⟨hun, o, ho, hall⟩ := mem_ready.1 hi
   have h1 := hw.2 i hi o ho
   have h2 : wpg p T M nt true ops.toList o s fun s' => wpAnyA p T M nt ops K fuel (listed.setIfInBounds i true) s' := by
    rw [wpg_rg]
    exact rg_mono hc h1 fun v h' hh => putK_iff.2 hh
   have h3 := wpg_ok hT hM hp hc (ro := ro_) (n := n) h h2 (Q := Q)
   unfold GuardIn at h3
   have up : ∀ a w, Lift e0 nt (fun s' => wpAnyA p T M nt ops K fuel (listed.setIfInBounds i true) s') a w → wpAnyIn (Fw ro_) n P .any ops Q fuel (listed.setIfInBounds i true) a w := fun a w ⟨s', e', k1, k2, k3⟩ => by
    subst k2
    exact wpAnyA_sound hK fuel _ k3 k1
   unfold wpOpIn
   rw [ho]
   simp only
   split at h3
   ·rename_i hwant
    rw [if_pos hwant]
    exact Oper.wpIn_mono up h3
   ·rename_i hwant
    rw [if_neg hwant]
    exact ⟨h3.1, up _ _ h3.2⟩
end
end
end Go.AL
/-
  AL: code; loops; a function's contract from its body.
-/
set_option linter.unusedSectionVars false
set_option linter.unusedVariables false
set_option linter.unusedSimpArgs false
namespace Go.AL
open Go
def Gh (n0 nt : Nat) (s s2 : St) : Prop := ∀ e0 e a, e0.h.length = n0 → SR e0 nt s e a → ∃ e2, e2.w = e.w ∧ SR e0 nt s2 e2 a
def rLoop (n0 nt : Nat) (body : St → (Exit → St → Prop) → Prop) (s : St) (Q : Exit → St → Prop) : Prop :=
 ∃ I : Nat → St → Prop, (∃ m s2, Gh n0 nt s s2 ∧ I m s2) ∧ ∀ m s, I m s → body s fun e s' => match e with
  | .normal => ∃ m' s2, m' < m ∧ Gh n0 nt s' s2 ∧ I m' s2
  | e => Q e s'
def rFin (n0 : Nat) (R : AVal → Heap → Prop) (r : AVal) (h : Heap) : Prop := ∀ e0 e c, e0.h.length = n0 → Good e → e.h = h → VR e r c → Upd e0 e → Ext n0 e0 e →
 ∃ r' e', R r' e'.h ∧ e'.w = e.w ∧ Good e' ∧ VR e' r' c ∧ Upd e0 e' ∧ Ext n0 e0 e'
def rAfter (idx : Nat) (l : List (Nat × AVal)) (Q : Exit → St → Prop) (h' : Heap) : Prop := match h'[idx]? with
 | some (.loop L) => L.st ≠ .busy ∧ (match L.pend with
   | none => Q .normal ⟨tmL l, h'.set idx (.dead 0)⟩
   | some .ret => Q .ret ⟨tmL l, h'.set idx (.dead 0)⟩
   | some (.exit id) => Q (.exit id) ⟨tmL l, h'.set idx (.dead 0)⟩
   | _ => False)
 | _ => False
def rRfun (P : Program) (nt : Nat) (f : AVal) (ps : Array Tmp) (assign body : Code) (s : St) (Q : Exit → St → Prop) : Prop :=
 ∃ fid first caps l, f = .clo (.func fid) first caps ∧ (∀ t e c, Good e → e.h = s.h → VR e (s.tm t) c → VR e (tmL l t) c) ∧
  Does P fid (first ++ [.yld s.h.length] ++ caps) (s.h ++ [.loop ⟨.ready, none, ps, assign, body, nt, l⟩]) fun _ h' => rAfter s.h.length l Q h'
def noRange : Code → Bool
 | .seq a b => noRange a && noRange b
 | .cond _ a b => noRange a && noRange b
 | .block _ b => noRange b
 | .loop b => noRange b
 | .rangeFunc .. => false
 | _ => true
def lexAll (st : Nat → Bool) : Code → Bool
 | .region _ ops dr => !dr || lexA st ops
 | .seq a b => lexAll st a && lexAll st b
 | .cond _ a b => lexAll st a && lexAll st b
 | .block _ b => lexAll st b
 | .loop b => lexAll st b
 | .rangeFunc _ _ a b => lexAll st a && lexAll st b
 | _ => true
theorem nat_min {p : Nat → Prop} (h : ∃ n, p n) : ∃ n, p n ∧ ∀ m, p m → n ≤ m := by
 obtain ⟨n, hn⟩ := h
 induction n using Nat.strongRecOn with
 | _ n ih =>
   by_cases h : ∃ m, m < n ∧ p m
   ·obtain ⟨m, h1, h2⟩ := h; exact ih m h1 h2
   ·exact ⟨n, hn, fun m hm => Nat.not_lt.1 fun hl => h ⟨m, hl, hm⟩⟩
open Classical in
noncomputable def least (p : Nat → Prop) : Nat := if h : ∃ n, p n then Classical.choose (nat_min h) else 0
theorem least_spec {p : Nat → Prop} {n : Nat} (h : p n) : p (least p) ∧ least p ≤ n := by
 have h' : ∃ n, p n := ⟨n, h⟩
 have := Classical.choose_spec (nat_min h')
 unfold least
 rw [dif_pos h']
 exact ⟨this.1, this.2 n h⟩
theorem SR.drawn {e0 : Env} {nt : Nat} {s : St} {e : Env} {a : Act} (h : SR e0 nt s e a) : ∃ e', e'.w = { e.w with drawn := e.w.drawn + 1 } ∧ SR e0 nt s e' a := by
 have hx : Ext e.h.length e { e with w := { e.w with drawn := e.w.drawn + 1 } } := ⟨fun i o _ ho => ⟨o, ho, OMono.kept rfl rfl i o⟩, fun _ => Nat.le_refl _, fun _ _ _ => rfl, fun _ => Nat.le_refl _⟩
 have hu : Upd e { e with w := { e.w with drawn := e.w.drawn + 1 } } := ⟨rfl, rfl, rfl, Nat.le_refl _, fun _ _ _ => ⟨rfl, rfl⟩, fun _ h => .inl h⟩
 refine ⟨{ e with w := { e.w with drawn := e.w.drawn + 1 } }, rfl, ⟨?_, h.good.inj, h.good.ps⟩, h.heap, fun t => (h.tm t).mono (Nat.le_refl _) hx, h.size, h.marks.step rfl hu, h.upd.trans hu, Ext0 h.ext hx⟩
 intro i o ho
 exact ObjOK.moved (e := e) rfl (fun _ _ _ => rfl) rfl (fun v c hv => hv.mono (Nat.le_refl _) hx) (h.good.obj i o ho)
theorem alloc_quiet {e : Env} (hg : Good e) {o : Obj} : Good { e with w := e.w.alloc o } ∧ Upd e { e with w := e.w.alloc o } ∧ ∀ n, Ext n e { e with w := e.w.alloc o } := by
 have hh : ∀ b, b < e.w.heap.size → (e.w.alloc o).heap[b]? = e.w.heap[b]? := fun b hb => by
  show (e.w.heap.push o)[b]? = _
  rw [Array.getElem?_push, if_neg (by omega)]
 have hcs : ∀ b, cellsSize e.w b ≤ cellsSize (e.w.alloc o) b := fun b => by
  by_cases hb : b < e.w.heap.size
  ·unfold cellsSize; rw [hh b hb]; exact Nat.le_refl _
  ·unfold cellsSize; rw [Array.getElem?_eq_none (show e.w.heap.size ≤ b by omega)]; exact Nat.zero_le _
 have hx : ∀ n, Ext n e { e with w := e.w.alloc o } := fun n => ⟨fun i o _ ho => ⟨o, ho, OMono.kept rfl rfl i o⟩, fun _ => Nat.le_refl _, fun b o' ho => by
  have hb := lt_of_ps hg ho
  show (e.w.alloc o).cell? _ = _
  unfold World.cell?
  rw [hh b hb], hcs⟩
 refine ⟨⟨fun i o' ho => ?_, hg.inj, fun b => Nat.le_trans (hg.ps b) (hcs b)⟩, ⟨rfl, rfl, rfl, ?_, fun b hb _ => ⟨hh b hb, rfl⟩, fun b hb => .inl hb⟩, hx⟩
 ·refine ObjOK.moved (e := e) rfl (fun b hl hb => ?_) rfl (fun v c h => h.mono (Nat.le_refl _) (hx _)) (hg.obj i o' ho)
  obtain ⟨ob, hob⟩ : ∃ ob, e.w.heap[b]? = some ob := by
   have h4 := hg.obj i o' ho
   cases o' with
   | box vs => obtain ⟨b', cs, el, k1, k2, _⟩ := h4; obtain rfl : b = b' := by rw [hb] at k1; exact Option.some.inj k1
               exact ⟨_, k2⟩
   | rw g q =>
     rcases h4 with ⟨_, k1⟩ | ⟨b', cs, el, k1, k2, _⟩
     ·rw [hb] at k1; cases k1
     ·obtain rfl : b = b' := by rw [hb] at k1; exact Option.some.inj k1
      exact ⟨_, k2⟩
   | tok n => obtain ⟨cs, el, k2⟩ := h4 b hb; exact ⟨_, k2⟩
   | loop r => obtain ⟨b', r', k1, k2, _⟩ := h4; obtain rfl : b = b' := by rw [hb] at k1; exact Option.some.inj k1
               exact ⟨_, k2⟩
   | obj r => obtain ⟨b', r', k1, k2, _⟩ := h4; obtain rfl : b = b' := by rw [hb] at k1; exact Option.some.inj k1
              exact ⟨_, k2⟩
   | dead g => cases hl
  exact hh b (Array.getElem?_eq_some_iff.1 hob).1
 ·show e.w.heap.size ≤ (e.w.heap.push o).size
  simp
theorem loop_put {e : Env} (hg : Good e) {i b : Nat} {L : LoopA} {r r' : Loop} {o' : AObj} (hi : e.h[i]? = some (.loop L)) (hs : e.sg i = some b) (hb : e.w.heap[b]? = some (.loop r))
 (ho : o' = .dead 0 ∨ ∃ L', o' = .loop L' ∧ L'.of r' ∧ L'.l = L.l ∧ r'.tmps = r.tmps) (htm : ∀ t, VR e (tmL L.l t) (r.tmps.getD t undef)) :
 let e' : Env := ⟨e.w.putObj b (.loop r'), e.sg, e.h.set i o', e.ps⟩
 Good e' ∧ Upd e e' ∧ Ext e.h.length e e' := by
 intro e'
 have hil : i < e.h.length := (List.getElem?_eq_some_iff.1 hi).1
 have hbl : b < e.w.heap.size := (Array.getElem?_eq_some_iff.1 hb).1
 have hcs : ∀ x, cellsSize e.w x ≤ cellsSize e'.w x := fun x => by
  by_cases hx : x = b
  ·subst hx; unfold cellsSize; rw [hb]; exact Nat.zero_le _
  ·unfold cellsSize
   rw [show e'.w.heap[x]? = e.w.heap[x]? from heap_putObj_ne' hx]
   exact Nat.le_refl _
 have hps0 : e.ps b = 0 := by
  have := hg.ps b
  unfold cellsSize at this
  rw [hb] at this
  exact Nat.le_zero.1 this
 have hat : e'.h[i]? = some o' := by
  show (e.h.set i o')[i]? = _
  rw [List.getElem?_set, if_pos rfl, if_pos hil]
 have hne : ∀ j, j ≠ i → e'.h[j]? = e.h[j]? := fun j hj => List.getElem?_set_ne (Ne.symm hj)
 have hx : Ext e.h.length e e' := by
  refine ⟨fun j o hj hoj => ?_, fun _ => Nat.le_refl _, fun x y hy => ?_, hcs⟩
  ·by_cases hji : j = i
   ·subst hji
    rw [hi] at hoj
    cases hoj
    refine ⟨o', hat, ?_⟩
    rcases ho with rfl | ⟨L', rfl, _⟩
    ·trivial
    ·exact rfl
   ·exact ⟨o, (hne j hji).trans hoj, OMono.kept rfl rfl j o⟩
  ·have hxb : x ≠ b := fun h => by subst h; omega
   unfold World.cell?
   rw [show e'.w.heap[x]? = e.w.heap[x]? from heap_putObj_ne' hxb]
 have vr : ∀ v c, VR e v c → VR e' v c := fun v c h => h.mono (Nat.le_refl _) hx
 have live : ∀ (j : Nat) (o : AObj), e'.h[j]? = some o → o.live = true → ∃ o2, e.h[j]? = some o2 ∧ o2.live = true := fun j o hj hl => by
  by_cases hji : j = i
  ·subst hji; exact ⟨_, hi, rfl⟩
  ·exact ⟨o, (hne j hji).symm.trans hj, hl⟩
 refine ⟨⟨fun j o hj => ?_, fun j k oj ok x h1 h2 h3 h4 h5 h6 => ?_, fun x => Nat.le_trans (hg.ps x) (hcs x)⟩, ⟨rfl, rfl, rfl, by simp [e', World.putObj], fun x hx' hno => ?_, fun x ⟨j, o, h1, h2, h3⟩ => ?_⟩, hx⟩
 ·by_cases hji : j = i
  ·subst hji
   rw [hat] at hj
   cases hj
   rcases ho with rfl | ⟨L', rfl, h1, h2, h3⟩
   ·trivial
   ·exact ⟨b, r', hs, by simp [e', World.putObj, hbl], h1, fun t => by rw [h2, h3]; exact vr _ _ (htm t)⟩
  ·have hj' := (hne j hji).symm.trans hj
   refine ObjOK.moved (e := e) rfl (fun x hl hx' => heap_putObj_ne' fun hxb => ?_) rfl vr (hg.obj j o hj')
   subst hxb
   exact hji (hg.inj j i o _ x hj' hl hi rfl hx' hs)
 ·obtain ⟨o1, a1, a2⟩ := live j oj h1 h2
  obtain ⟨o2, a3, a4⟩ := live k ok h3 h4
  exact hg.inj j k o1 o2 x a1 a2 a3 a4 h5 h6
 ·have hxb : x ≠ b := fun h => hno (by subst h; exact ⟨i, _, hi, rfl, hs⟩)
  exact ⟨heap_putObj_ne' hxb, rfl⟩
 ·obtain ⟨o1, a1, a2⟩ := live j o h1 h2
  exact .inl ⟨j, o1, a1, a2, h3⟩
section
variable {P : Program} {T : Tab} {M : MTab} (hT : TabOK P T) (hM : MTabOK P T M) {p : Pr} (hp : DataOK p) (hc : CallOK P p) (hm : P.follows .mixedOrders = true) {n0 nt : Nat}
 (hloop : p.loop = rLoop n0 nt) (hrf : p.rfun = rRfun P nt)
include hT hM hp hc hm hloop hrf
set_option maxHeartbeats 1600000 in
theorem wpc_ok : ∀ (c : Code) (hl : lexAll p.strict c = true) (ro : Option Nat) (hro : ro = none ∨ noRange c = true) (n : Nat) (s : St) (e0 e : Env) (a : Act) (Q : Exit → St → Prop), SR e0 nt s e a → e0.h.length = n0 → wpc p T M nt c s Q →
 c.wpIn (Fw ro) n P (LiftX e0 nt Q) a e.w
 | .skip, _, ro, _, n, s, e0, e, a, Q, h, hn, hw => wpIn_skip ⟨s, e, hw, rfl, h⟩
 | .label _, _, ro, _, n, s, e0, e, a, Q, h, hn, hw => wpIn_label ⟨s, e, hw, rfl, h⟩
 | .exit id, _, ro, _, n, s, e0, e, a, Q, h, hn, hw => wpIn_exit ⟨s, e, hw, rfl, h⟩
 | .ret, _, ro, _, n, s, e0, e, a, Q, h, hn, hw => wpIn_ret ⟨s, e, hw, rfl, h⟩
 | .region id ops false, _, ro, _, n, s, e0, e, a, Q, h, hn, hw => by
   have hw : wpr p T M nt false ops.toList ops.toList s fun s' => Q .normal s' := by
    rw [← wprA_eq p (fun a b => rfl)]; exact hw
   have := wpr_ok hT hM hp hc (e0 := e0) (nt := nt) (ro := ro) (n := n) (ops := ops) (Q := LiftX e0 nt Q) (K := fun s' => Q .normal s') (fun s e a h hk => ⟨s, e, hk, rfl, h⟩) ops.toList 0 (fun j => by simp) h hw
   refine wpIn_region ?_
   simpa using this
 | .region id ops true, hl, ro, _, n, s, e0, e, a, Q, h, hn, hw => by
   obtain ⟨e', he', h'⟩ := h.drawn
   refine wpIn_region_any hm ?_
   rw [← he']
   obtain ⟨hIv, hw⟩ := sepX_spec hw
   have h1 := wpAnyA_lex hc (K := fun s' => Q .normal s') ops.toList 0 (Array.replicate ops.size false) s (fun j => by simp) (by simpa [lexAll, lexA] using hl) hIv hw
   have h2 := wpAnyA_sound hT hM hp hc (e0 := e0) (nt := nt) (ro_ := ro) (n := n) (ops := ops) (Q := LiftX e0 nt Q) (K := fun s' => Q .normal s') (fun s e a h hk => ⟨s, e, hk, rfl, h⟩) ops.toList.length _ h' h1
   simpa using h2
 | .seq x y, hl, ro, hro, n, s, e0, e, a, Q, h, hn, hw => by
   simp only [lexAll, Bool.and_eq_true] at hl
   refine wpIn_seq ?_
   refine wpIn_mono (wpc_ok x hl.1 ro (hro.imp_right fun h => by simp only [noRange, Bool.and_eq_true] at h; exact h.1) n s e0 e a _ h hn hw) fun ex a' w' ⟨s', e', k1, k2, k3⟩ => ?_
   subst k2
   cases ex with
   | normal => exact wpc_ok y hl.2 ro (hro.imp_right fun h => by simp only [noRange, Bool.and_eq_true] at h; exact h.2) n s' e0 e' a' Q k3 hn k1
   | _ => exact ⟨s', e', k1, rfl, k3⟩
 | .cond c x y, hl, ro, hro, n, s, e0, e, a, Q, h, hn, hw => by
   simp only [lexAll, Bool.and_eq_true] at hl
   simp only [wpc] at hw
   split at hw
   ·rename_i t hev
    have hv := VR.ev h.tm c
    rw [hev] at hv
    refine wpIn_cond hv.bool_inv ?_
    cases t
    ·exact wpc_ok y hl.2 ro (hro.imp_right fun h => by simp only [noRange, Bool.and_eq_true] at h; exact h.2) n s e0 e a Q h hn hw
    ·exact wpc_ok x hl.1 ro (hro.imp_right fun h => by simp only [noRange, Bool.and_eq_true] at h; exact h.1) n s e0 e a Q h hn hw
   ·exact hw.elim
 | .block id b, hl, ro, hro, n, s, e0, e, a, Q, h, hn, hw => by
   refine wpIn_block ?_
   refine wpIn_mono (wpc_ok b hl ro (hro.imp_right fun h => by simpa only [noRange] using h) n s e0 e a _ h hn hw) fun ex a' w' ⟨s', e', k1, k2, k3⟩ => ?_
   subst k2
   cases ex with
   | exit id' =>
     simp only at k1
     simp only [Exit.inBlock]
     split at k1
     ·rename_i hb
      rw [if_pos (Nat.eq_of_beq_eq_true hb)]
      exact ⟨s', e', k1, rfl, k3⟩
     ·rename_i hb
      rw [if_neg (fun e => by subst e; simp at hb)]
      exact ⟨s', e', k1, rfl, k3⟩
   | _ => exact ⟨s', e', k1, rfl, k3⟩
 | .loop b, hl, ro, hro, n, s, e0, e, a, Q, h, hn, hw => by
   have hw : p.loop (wpc p T M nt b) s Q := hw
   rw [hloop] at hw
   obtain ⟨I, ⟨m, s2, hg, hI⟩, hbody⟩ := hw
   obtain ⟨e2, he2, h2⟩ := hg e0 e a hn h
   let J : Nat → Act → World → Prop := fun m a w => ∃ s e, I m s ∧ e.w = w ∧ SR e0 nt s e a
   let μ : Act → World → Nat := fun a w => least fun m => J m a w
   have hμ : ∀ m a w, J m a w → μ a w ≤ m := fun m a w hJ => (least_spec (p := fun m => J m a w) hJ).2
   have hμ2 : ∀ m a w, J m a w → J (μ a w) a w := fun m a w hJ => (least_spec (p := fun m => J m a w) hJ).1
   refine wpIn_loop (fun a w => J (μ a w) a w) μ (hμ2 m a e.w ⟨s2, e2, hI, he2, h2⟩) fun a w hJ => ?_
   obtain ⟨s', e', k1, k2, k3⟩ := hJ
   subst k2
   refine wpIn_mono (wpc_ok b hl ro (hro.imp_right fun h => by simpa only [noRange] using h) n s' e0 e' a _ k3 hn (hbody _ s' k1)) fun ex a' w' ⟨s3, e3, j1, j2, j3⟩ => ?_
   subst j2
   cases ex with
   | normal =>
     obtain ⟨m', s4, hlt, hg', hI'⟩ := j1
     obtain ⟨e4, he4, h4⟩ := hg' e0 e3 a' hn j3
     have hJ' : J m' a' e3.w := ⟨s4, e4, hI', he4, h4⟩
     exact ⟨hμ2 _ _ _ hJ', Nat.lt_of_le_of_lt (hμ _ _ _ hJ') hlt⟩
   | _ => exact ⟨s3, e3, j1, rfl, j3⟩
 | .rangeFunc f ps x y, hl, ro, hro, n, s, e0, e, a, Q, h, hn, hw => by
   have hw : p.rfun (ev s.tm f) ps x y s Q := hw
   rw [hrf] at hw
   obtain ⟨fid, first, caps, l, hev, hwk, hdoes⟩ := hw
   have hro : ro = none := by
    rcases hro with h | h
    ·exact h
    ·simp [noRange] at h
   subst hro
   have hf := VR.ev h.tm f
   rw [hev] at hf
   obtain ⟨gs, ds, hval, r1, r2⟩ := hf.clo_inv
   have hheap := h.heap
   have htm : ∀ t, VR e (tmL l t) (a.tmps.getD t undef) := fun t => hwk t e _ h.good h.heap (h.tm t)
   refine wpIn_rangeFunc fun fn _ => ?_
   obtain ⟨gA, uA, xA⟩ := alloc_quiet h.good (o := .deferred (some []))
   let L : LoopA := ⟨.ready, none, ps, x, y, nt, l⟩
   let rec_ : Loop := { state := .ready, pending := none, fn, tmps := a.tmps, params := ps, assign := x, body := y, defers := e.w.heap.size }
   let eA : Env := { e with w := e.w.alloc (.deferred (some [])) }
   let w1 : World := (e.w.alloc (.deferred (some []))).alloc (.loop rec_)
   have hsz : eA.w.heap.size = e.w.heap.size + 1 := by show (e.w.heap.push _).size = _; simp
   have hh1 : ∀ j, j ≠ e.h.length → (e.h ++ [AObj.loop L])[j]? = eA.h[j]? := fun j hj => by
    show _ = e.h[j]?
    rcases Nat.lt_or_ge j e.h.length with h | h
    ·rw [List.getElem?_append_left h]
    ·rw [List.getElem?_eq_none (by simp; omega), List.getElem?_eq_none h]
   have hi1 : (e.h ++ [AObj.loop L])[e.h.length]? = some (.loop L) := by simp
   have hm1 : ∀ o, eA.h[e.h.length]? = some o → OMono eA (eA.fresh w1 e.h.length (e.h ++ [.loop L]) 0) e.h.length o (.loop L) := fun o ho => by
    have ho : e.h[e.h.length]? = some o := ho
    simp at ho
   have hw1 : w1.heap = eA.w.heap.push (.loop rec_) := rfl
   have xB := fresh_ext (m := 0) gA hw1 hh1 hi1 hm1
   have hnew : w1.heap[eA.w.heap.size]? = some (.loop rec_) := by rw [hw1]; simp
   have hvB : ∀ v c, VR e v c → VR (eA.fresh w1 e.h.length (e.h ++ [.loop L]) 0) v c := fun v c hv => ((hv.mono (Nat.le_refl _) (xA _)).mono (Nat.le_refl _) xB)
   have gB := fresh_good (m := 0) gA hw1 (Nat.zero_le _) hh1 hi1 hm1 ⟨eA.w.heap.size, rec_, by simp [Env.fresh]; exact hsz.symm, hnew, ⟨rfl, rfl, rfl, rfl, rfl, h.size⟩, fun t => hvB _ _ (htm t)⟩
   have uB := fresh_upd (m := 0) gA hw1 hh1 hi1 rfl rfl rfl
   let e1 := eA.fresh w1 e.h.length (e.h ++ [.loop L]) 0
   have hyld : VR e1 (.yld e.h.length) (.func (.yield (e.w.heap.size + 1)) #[] #[]) := by
    refine .yld _ _ rfl ?_
    show loopAt (e.h ++ [AObj.loop L])[e.h.length]? _
    rw [hi1]
    exact ⟨e.w.heap.size + 1, by simp [e1, Env.fresh, hsz], rfl⟩
   have hargs : ArgsR e1 (first ++ [.yld e.h.length] ++ caps) (gs ++ #[.func (.yield (e.w.heap.size + 1)) #[] #[]] ++ ds) := by
    have h1 : ArgsR e1 first gs := ⟨r1.len, fun i hi => hvB _ _ (r1.rel i hi)⟩
    have h2 : ArgsR e1 caps ds := ⟨r2.len, fun i hi => hvB _ _ (r2.rel i hi)⟩
    have h3 : ArgsR e1 [.yld e.h.length] #[.func (.yield (e.w.heap.size + 1)) #[] #[]] := ⟨rfl, fun i hi => by
     have : i = 0 := by simp at hi; omega
     subst this; exact hyld⟩
    exact (h1.append h3).append h2
   have hcall := hdoes.2 e1 _ gB (by show e.h ++ [AObj.loop L] = _; rw [hheap]) (by rw [← hheap]; exact hargs)
   refine ⟨e.w.heap.size + 1, [{ target := .collected e.w.heap.size, args := #[] }], w1, { target := .fn (.func fid) ds, args := gs ++ #[.func (.yield (e.w.heap.size + 1)) #[] #[]] }, w1, fid, gs ++ #[.func (.yield (e.w.heap.size + 1)) #[] #[]] ++ ds, w1, ?_, ?_, fun _ _ => trivial, ?_, fun hd => by simp [Fence.wide] at hd, ?_⟩
   ·exact run_enterLoop_outer fn a.tmps ps x y
   ·simp only [resolve, rangeCall, hval, Deferred.ofValue, Sem.run_pure]
    rw [List.map_toArray]
    rfl
   ·simp only [invoke, run_callFunc hdoes.1]
   ·refine (callsIn_wide.2 hcall : CallsIn (Fw none) (n - 1) P fid _ w1 _).mono fun en w3 hp3 => ?_
    cases en with
    | returned c =>
      obtain ⟨r, e3, hR, hw3, g3, hv3, u3, x3⟩ := hp3
      rw [← hheap] at hR
      unfold rAfter at hR
      split at hR
      ·rename_i L' hL'
       obtain ⟨hbusy, hjump⟩ := hR
       obtain ⟨b, r', hsg, hb, hof, htm3⟩ := g3.obj _ _ hL'
       have hsg1 : e1.sg e.h.length = some (e.w.heap.size + 1) := by simp [e1, Env.fresh, hsz]
       have hbeq : b = e.w.heap.size + 1 := by
        obtain ⟨o', ho', hm⟩ := x3.obj e.h.length (.loop L) (by show e.h.length < (e.h ++ [AObj.loop L]).length; simp) hi1
        rw [hL'] at ho'
        cases ho'
        have hm : e3.sg e.h.length = e1.sg e.h.length := hm
        rw [hsg, hsg1] at hm
        exact Option.some.inj hm
       subst hbeq
       obtain ⟨g4, u4, x4⟩ := loop_put g3 (r' := { r' with state := .exhausted }) hL' hsg hb (.inl rfl) htm3
       have hend := run_endLoop (P := P) hb (by rw [hof.1]; exact hbusy)
       obtain ⟨pd, hpd0⟩ : ∃ pd, r'.pending = pd := ⟨_, rfl⟩
       have hpd : L'.pend = pd := by rw [← hof.2.1]; exact hpd0
       refine ⟨pd, e3.w.putObj (e.w.heap.size + 1) (.loop { r' with state := .exhausted }), by rw [← hw3, ← hpd0]; exact hend, ?_⟩
       have hil3 : e.h.length < e3.h.length := (List.getElem?_eq_some_iff.1 hL').1
       have x1 : Ext e.h.length e e1 := (xA _).trans xB
       have x14 : Ext e.h.length e ⟨e3.w.putObj (e.w.heap.size + 1) (.loop { r' with state := .exhausted }), e3.sg, e3.h.set e.h.length (.dead 0), e3.ps⟩ :=
        (x1.trans (x3.le (by show e.h.length ≤ (e.h ++ [AObj.loop L]).length; simp))).trans (x4.le (by omega))
       have u1 : Upd e e1 := uA.trans uB
       have u14 := (u1.trans u3).trans u4
       have hD1 : e1.w.heap[e.w.heap.size]? = some (.deferred (some [])) := by
        show ((e.w.heap.push _).push _)[e.w.heap.size]? = _
        rw [Array.getElem?_push, if_neg (by simp), Array.getElem?_push, if_pos rfl]
       have hDlt : e.w.heap.size < e1.w.heap.size := (Array.getElem?_eq_some_iff.1 hD1).1
       have hno1 : ¬ Owned e1 e.w.heap.size := fun ⟨j, o, h1, h2, h3⟩ => by
        have h1 : (e.h ++ [AObj.loop L])[j]? = some o := h1
        by_cases hj : j = e.h.length
        ·subst hj
         rw [hsg1] at h3
         have := Option.some.inj h3
         omega
        ·rw [hh1 j hj] at h1
         have h3' : e.sg j = some e.w.heap.size := by simpa [e1, Env.fresh, hj] using h3
         obtain ⟨ob, hob⟩ := fresh_sg (e := e) (w' := e.w.alloc (.deferred (some []))) (ob := .deferred (some [])) (i := e.h.length) (o' := .loop L) (h' := e.h ++ [.loop L]) (m := 0) h.good rfl hh1 hi1 (fun o ho => by simp at ho) h1 h2 h3'
         have := (Array.getElem?_eq_some_iff.1 hob).1
         omega
       have hD3 := (u3.frame _ hDlt hno1).1.trans hD1
       have hno3 : ¬ Owned e3 e.w.heap.size := fun ho => by
        rcases u3.own _ ho with h | h
        ·exact hno1 h
        ·omega
       have hmk := h.marks.step (a' := a) rfl u14
       have hsr : SR e0 nt ⟨tmL l, e3.h.set e.h.length (.dead 0)⟩ ⟨e3.w.putObj (e.w.heap.size + 1) (.loop { r' with state := .exhausted }), e3.sg, e3.h.set e.h.length (.dead 0), e3.ps⟩ { a with defers := [{ target := .collected e.w.heap.size, args := #[] }] ++ a.defers } := by
        refine ⟨g4, rfl, fun t => (htm t).mono (Nat.le_refl _) x14, h.size, ?_, h.upd.trans u14, Ext0 h.ext x14⟩
        obtain ⟨dl, d1, d2, d3⟩ := hmk.ex
        obtain ⟨dl0, c1, c2, c3⟩ := h.marks.ex
        refine ⟨e.w.heap.size :: dl, by rw [show ({ a with defers := [{ target := .collected e.w.heap.size, args := #[] }] ++ a.defers } : Act).defers = _ from rfl, d1]; rfl, ?_, fun D hD => ?_⟩
        ·rw [List.nodup_cons]
         refine ⟨fun hm => ?_, d2⟩
         have hmm : dl.map mark_ = dl0.map mark_ := d1.symm.trans c1
         have hinj : ∀ (u v : List Nat), u.map mark_ = v.map mark_ → u = v := fun u => by
          induction u with
          | nil => intro v h; cases v <;> simp at h ⊢
          | cons x u ih =>
            intro v h
            cases v with
            | nil => simp at h
            | cons y v =>
              simp only [List.map_cons, List.cons.injEq, mark_] at h
              have h1 : x = y := by simpa using h.1
              rw [h1, ih v h.2]
         rw [hinj _ _ hmm] at hm
         have := (Array.getElem?_eq_some_iff.1 (c3 _ hm).2.1).1
         omega
        ·rcases List.mem_cons.1 hD with rfl | hD
         ·refine ⟨h.upd.size, ?_, fun ho => ?_⟩
          ·rw [show (⟨e3.w.putObj (e.w.heap.size + 1) (.loop { r' with state := .exhausted }), e3.sg, e3.h.set e.h.length (.dead 0), e3.ps⟩ : Env).w = e3.w.putObj (e.w.heap.size + 1) (.loop { r' with state := .exhausted }) from rfl, heap_putObj_ne' (by omega)]
           exact hD3
          ·rcases u4.own _ ho with h | h
           ·exact hno3 h
           ·have := u3.size; omega
         ·exact d3 D hD
       cases pd with
       | none =>
         rw [hpd] at hjump
         exact ⟨_, _, hjump, rfl, hsr⟩
       | some cd =>
         rw [hpd] at hjump
         cases cd with
         | ret => exact wpIn_ret ⟨_, _, hjump, rfl, hsr⟩
         | exit id => exact wpIn_exit ⟨_, _, hjump, rfl, hsr⟩
         | _ => exact hjump.elim
      ·exact hR.elim
    | _ => exact hp3.elim
 | .goto _, _, ro, _, n, s, e0, e, a, Q, h, hn, hw => by simp [wpc] at hw
end
end Go.AL
/-
  AL: a function's contract from its body.
-/
set_option linter.unusedSectionVars false
set_option linter.unusedVariables false
set_option linter.unusedSimpArgs false
namespace Go.AL
open Go
theorem heap_putObj_ne {w : World} {D b : Nat} {o : Obj} (h : b ≠ D) : (w.putObj D o).heap[b]? = w.heap[b]? := by
 simp only [World.putObj]
 rw [Array.getElem?_setIfInBounds_ne (Ne.symm h)]
theorem shut {e0 e : Env} {n : Nat} {D : Nat} {x : Option (List Deferred)} (hg : Good e) (hD : e.w.heap[D]? = some (.deferred x)) (hno : ¬ Owned e D) (h0 : e0.w.heap.size ≤ D) (hu : Upd e0 e) (hx : Ext n e0 e) :
 let e' : Env := { e with w := e.w.putObj D (.deferred none) }
 Good e' ∧ Upd e0 e' ∧ Ext n e0 e' ∧ ∀ v c, VR e v c → VR e' v c := by
 intro e'
 have hcs : ∀ b, cellsSize e.w b ≤ cellsSize e'.w b := fun b => by
  by_cases hb : b = D
  ·subst hb; unfold cellsSize; rw [hD]; exact Nat.zero_le _
  ·unfold cellsSize
   rw [show e'.w.heap[b]? = e.w.heap[b]? from heap_putObj_ne hb]
   exact Nat.le_refl _
 have hps0 : e.ps D = 0 := by
  have := hg.ps D
  unfold cellsSize at this
  rw [hD] at this
  exact Nat.le_zero.1 this
 have hcell : ∀ b o, o < e.ps b → e'.w.cell? ⟨b, o, none⟩ = e.w.cell? ⟨b, o, none⟩ := fun b o ho => by
  have hb : b ≠ D := fun e => by subst e; omega
  have := heap_putObj_ne (w := e.w) (o := .deferred none) hb
  unfold World.cell?
  rw [show e'.w.heap[b]? = e.w.heap[b]? from this]
 have hx1 : ∀ m, Ext m e e' := fun m => ⟨fun i o _ ho => ⟨o, ho, OMono.kept rfl rfl i o⟩, fun _ => Nat.le_refl _, hcell, hcs⟩
 have hv : ∀ v c, VR e v c → VR e' v c := fun v c h => h.mono (Nat.le_refl _) (hx1 _)
 have hgood : Good e' := by
  refine ⟨fun i o ho => ?_, hg.inj, fun b => Nat.le_trans (hg.ps b) (hcs b)⟩
  refine ObjOK.moved (e := e) rfl (fun b hl hb => heap_putObj_ne fun hbD => ?_) rfl hv (hg.obj i o ho)
  subst hbD
  exact hno ⟨i, o, ho, hl, hb⟩
 refine ⟨hgood, ?_, hx.trans (hx1 n), hv⟩
 refine ⟨hu.os, hu.tape, hu.output, by simpa [e', World.putObj] using hu.size, fun b hb ho => ?_, fun b hb => ?_⟩
 ·have h1 := hu.frame b hb ho
  exact ⟨(heap_putObj_ne (by omega)).trans h1.1, h1.2⟩
 ·exact hu.own b hb
def resF (tmps : Array Value) : ResultVar → Sem Value
 | .tmp t => pure (tmps.getD t undef)
 | .cell a t => do loadVar t (← asAddr (tmps.getD a undef))
theorem results_resF (fn : Func) (tmps : Array Value) : results fn tmps = (do
 let vs ← fn.results.mapM (resF tmps)
 pure (if h : vs.size = 1 then vs[0] else .tuple vs)) := by
 unfold results
 congr 2
section
variable {P : Program} {T : Tab} {M : MTab} (hT : TabOK P T) {p : Pr} (hp : DataOK p) {e0 : Env} {nt : Nat} {s : St}
include hT hp
theorem res_ok {e : Env} {tmps : Array Value} (hg : Good e) (hh : e.h = s.h) (ht : ∀ t, VR e (s.tm t) (tmps.getD t undef)) :
 ∀ (l : List ResultVar) (vs : List AVal), resAs p T s l = some vs → ∃ cs : List Value, (l.mapM (resF tmps)).run P e.w = .ok cs e.w ∧ vs.length = cs.length ∧ ∀ i, i < vs.length → VR e (vs.getD i .junk) (cs.getD i undef)
 | [], vs, h => by
   cases h
   exact ⟨[], by simp, rfl, fun i hi => by simp at hi⟩
 | r :: rs, vs, h => by
   simp only [resAs] at h
   cases h1 : resA p T s r with
   | none => rw [h1] at h; cases h
   | some v =>
     rw [h1] at h
     simp only at h
     cases h2 : resAs p T s rs with
     | none => rw [h2] at h; cases h
     | some us =>
       rw [h2] at h
       cases h
       obtain ⟨cs, k1, k2, k3⟩ := res_ok hg hh ht rs us h2
       have one : ∃ c, (resF tmps r).run P e.w = .ok c e.w ∧ VR e v c := by
        cases r with
        | tmp t =>
          cases h1
          exact ⟨_, by simp only [resF, Sem.run_pure], ht t⟩
        | cell a t =>
          simp only [resA] at h1
          have hl := aLoad_keep hT hg hp (t := t) (ht a)
          rw [hh] at hl
          cases hld : aLoad p T t (s.tm a) s.h with
          | ok x hx =>
            rw [hld] at h1 hl
            cases h1
            obtain ⟨_, c, hr, hv⟩ := hl
            refine ⟨c, ?_, hv⟩
            simp only [Instr.loadAt] at hr
            simp only [resF]
            generalize tmps.getD a undef = y at hr ⊢
            cases y with
            | pointer o =>
              cases o with
              | none => simp [Instr.sureAddr, stuck, Sem.run_bind] at hr
              | some a => simpa [Instr.sureAddr, asAddr, Sem.run_bind] using hr
            | _ => simp [Instr.sureAddr, stuck, Sem.run_bind] at hr
          | need => rw [hld] at h1; cases h1
          | stuck => rw [hld] at h1; cases h1
       obtain ⟨c, j1, j2⟩ := one
       refine ⟨c :: cs, ?_, by simp [k2], fun i hi => ?_⟩
       ·rw [List.mapM_cons, Sem.run_bind, j1, Result.andThen_ok, Sem.run_bind, k1, Result.andThen_ok, Sem.run_pure]
       ·cases i with
        | zero => exact j2
        | succ i => simpa using k3 i (by simpa using hi)
theorem results_ok {fn : Func} {e : Env} {tmps : Array Value} (hg : Good e) (hh : e.h = s.h) (ht : ∀ t, VR e (s.tm t) (tmps.getD t undef)) {vs : List AVal} (h : resAs p T s fn.results.toList = some vs) :
 ∃ c, (results fn tmps).run P e.w = .ok c e.w ∧ VR e (one1 vs) c := by
 obtain ⟨cs, k1, k2, k3⟩ := res_ok hT hp hg hh ht _ _ h
 refine ⟨if h : cs.toArray.size = 1 then cs.toArray[0] else .tuple cs.toArray, ?_, ?_⟩
 ·rw [results_resF]
  rw [Array.mapM_eq_mapM_toList, Sem.run_bind, Sem.run_map]
  rw [k1]
  rfl
 ·by_cases h1 : cs.length = 1
  ·obtain ⟨c, rfl⟩ := List.length_eq_one_iff.1 h1
   obtain ⟨v, rfl⟩ := List.length_eq_one_iff.1 (k2.trans h1)
   have := k3 0 (by simp)
   simpa [one1] using this
  ·rw [dif_neg (by simpa using h1)]
   have e1 : one1 vs = .tup vs := by
    unfold one1
    split
    ·rename_i v; simp at k2; omega
    ·rfl
   rw [e1]
   exact .tup vs cs.toArray (by simpa using k2) (fun i hi => by simpa using k3 i hi)
theorem leaves_ok {fn : Func} {R : AVal → Heap → Prop} {n : Nat} {tmps : Array Value} {vs : List AVal} (hvs : resAs p T s fn.results.toList = some vs) (hfin : rFin e0.h.length R (one1 vs) s.h) :
 ∀ (dl : List Nat) (e : Env), Good e → e.h = s.h → (∀ t, VR e (s.tm t) (tmps.getD t undef)) → Upd e0 e → Ext e0.h.length e0 e → dl.Nodup →
  (∀ D ∈ dl, e0.w.heap.size ≤ D ∧ e.w.heap[D]? = some (.deferred (some [])) ∧ ¬ Owned e D) → LeavesInM (Fw none) n P fn tmps (Post e0 R) (dl.map mark_) .returning e.w
 | [], e, hg, hh, ht, hu, hx, hnd, hD => by
   obtain ⟨c, k1, k2⟩ := results_ok hT hp hg hh ht hvs
   refine ⟨c, k1, ?_⟩
   obtain ⟨r', e', j1, j2, j3, j4, j5, j6⟩ := hfin e0 e c rfl hg hh k2 hu hx
   exact ⟨r', e', j1, j2, j3, j4, j5, j6⟩
 | D :: dl, e, hg, hh, ht, hu, hx, hnd, hD => by
   obtain ⟨d1, d2, d3⟩ := hD D (by simp)
   obtain ⟨g1, g2, g3, g4⟩ := shut hg d2 d3 d1 hu hx
   refine ⟨by simp, .inl ⟨D, _, rfl, run_takeDeferred d2, ?_⟩⟩
   rw [List.nodup_cons] at hnd
   refine leaves_ok hvs hfin dl { e with w := e.w.putObj D (.deferred none) } g1 hh (fun t => g4 _ _ (ht t)) g2 g3 hnd.2 fun D' hD' => ?_
   obtain ⟨f1, f2, f3⟩ := hD D' (by simp [hD'])
   exact ⟨f1, (heap_putObj_ne (fun e => hnd.1 (by rw [← e]; exact hD'))).trans f2, f3⟩
end
structure HooksOK (P : Program) (T : Tab) (M : MTab) (n0 nt : Nat) (p : Pr) : Prop where
 data : DataOK p
 calls : CallOK P p
 loop : p.loop = rLoop n0 nt
 rfun : p.rfun = rRfun P nt
 fin : p.fin = rFin n0
theorem spec_of {P : Program} {T : Tab} {M : MTab} (hT : TabOK P T) (hM : MTabOK P T M) (hm : P.follows .mixedOrders = true) {p : Pr} {f : FuncId} {fn : Func} {c : Code} {args : List AVal} {h : Heap} {R : AVal → Heap → Prop}
 (hk : HooksOK P T M h.length fn.ntmps p)
 (hf : P.funcs[f]? = some fn) (hb : fn.body = some c) (hname : (fn.name == "runtime.NumGoroutine") = false) (hlex : lexAll p.strict c = true) (hargs : args.length ≤ fn.ntmps)
 (hw : wpc p T M fn.ntmps c ⟨args0 args, h⟩ (endPost p T fn.results.toList R)) : Does P f args h R := by
 refine ⟨⟨fn, hf, hname, by rw [hb]; rfl⟩, fun e cs hg he ha => ?_⟩
 refine callsIn_wide.1 (?_ : CallsIn Fence.wide 0 P f cs e.w (Post e R))
 refine callsIn_of_wp_marks hf hb trivial ?_
 have hsr : SR e fn.ntmps ⟨args0 args, h⟩ e { tmps := cs ++ Array.replicate (fn.ntmps - cs.size) undef, defers := [] } := by
  refine ⟨hg, he, fun t => ?_, ?_, ⟨[], rfl, List.nodup_nil, fun D hD => by simp at hD⟩, .refl e, .refl _ e⟩
  ·have hl := ha.len
   simp only [args0]
   by_cases ht : t < args.length
   ·have := ha.rel t ht
    have e1 : args.getD t .und = args.getD t .junk := by simp [List.getD, ht]
    have e2 : (cs ++ Array.replicate (fn.ntmps - cs.size) undef).getD t undef = cs.getD t undef := by
     simp only [Array.getD_eq_getD_getElem?]
     rw [Array.getElem?_append_left (by omega)]
    rw [e1, e2]; exact this
   ·have e1 : args.getD t .und = .und := by simp [List.getD, ht]
    have e2 : (cs ++ Array.replicate (fn.ntmps - cs.size) undef).getD t undef = undef := by
     simp only [Array.getD_eq_getD_getElem?]
     rw [Array.getElem?_append_right (by omega)]
     by_cases h2 : t - cs.size < fn.ntmps - cs.size
     ·simp [h2]
     ·simp [h2]
    rw [e1, e2]; exact .pure _ _ .und
  ·have := ha.len
   simp
   omega
 have hmain := wpc_ok hT hM hk.data hk.calls hm hk.loop hk.rfun c hlex none (.inl rfl) 0 ⟨args0 args, h⟩ e e _ (endPost p T fn.results.toList R) hsr (by rw [he]) hw
 refine wpIn_mono hmain fun ex a w ⟨s', e', k1, k2, k3⟩ => ?_
 subst k2
 have fin : endPost p T fn.results.toList R .ret s' → LeavesInM (Fw none) 0 P fn a.tmps (Post e R) a.defers .returning e'.w := fun k1 => by
  simp only [endPost] at k1
  split at k1
  ·rename_i vs hvs
   rw [hk.fin] at k1
   obtain ⟨dl, d1, d2, d3⟩ := k3.marks.ex
   rw [d1]
   rw [← he] at k1
   exact leaves_ok hT hk.data hvs k1 dl e' k3.good k3.heap k3.tm k3.upd k3.ext d2 d3
  ·exact k1.elim
 cases ex with
 | normal => exact fin k1
 | ret => exact fin k1
 | _ => exact k1.elim
end Go.AL
/-
  AL: what one proves a contract with: the hooks told, loops, the end.
-/
set_option linter.unusedSectionVars false
set_option linter.unusedVariables false
set_option linter.unusedSimpArgs false
namespace Go.AL
open Go
theorem hooks_real (P : Program) (T : Tab) (M : MTab) (n0 nt : Nat) (ρ : Nat → Bool) (st : Nat → Bool) : HooksOK P T M n0 nt (rPr (Does P) (realCalld P) (DoesV P) (realCallvd P) (rLoop n0 nt) (rRfun P nt) (rFin n0) ρ st) where
 data := by constructor <;> rfl
 calls := ⟨rfl, rfl, rfl, rfl⟩
 loop := rfl
 rfun := rfl
 fin := rfl
structure ProgOK (P : Program) (T : Tab) (M : MTab) : Prop where
 tab : TabOK P T
 mtab : MTabOK P T M
 mixed : P.follows .mixedOrders = true
theorem spec_by {P : Program} {T : Tab} {M : MTab} (ρ : Nat → Bool) (st : Nat → Bool) (hP : ProgOK P T M) {f : FuncId} {fn : Func} {c : Code} {args : List AVal} {h : Heap} {R : AVal → Heap → Prop}
 (hf : P.funcs[f]? = some fn) (hb : fn.body = some c) (hname : (fn.name == "runtime.NumGoroutine") = false) (hlex : lexAll st c = true) (hargs : args.length ≤ fn.ntmps)
 (hw : ∀ p, HooksOK P T M h.length fn.ntmps p → p.rowq = ρ → p.strict = st → wpc p T M fn.ntmps c ⟨args0 args, h⟩ (endPost p T fn.results.toList R)) : Does P f args h R :=
 spec_of hP.tab hP.mtab hP.mixed (hooks_real P T M h.length fn.ntmps ρ st) hf hb hname hlex hargs (hw _ (hooks_real P T M h.length fn.ntmps ρ st) rfl rfl)
def okBS (st : Nat → Bool) (fn : Func) (n : Nat) : Bool := match fn.body with
 | some c => match fn.name == "runtime.NumGoroutine" with
   | true => false
   | false => match lexAll st c with
     | true => Nat.ble n fn.ntmps
     | false => false
 | none => false
abbrev okB (fn : Func) (n : Nat) : Bool := okBS (fun _ => false) fn n
theorem does {P : Program} {T : Tab} {M : MTab} (ρ : Nat → Bool) (st : Nat → Bool) (hP : ProgOK P T M) {f : FuncId} (fn : Func) {args : List AVal} {h : Heap} {R : AVal → Heap → Prop}
 (hf : P.funcs[f]? = some fn) (hB : okBS st fn args.length = true)
 (hw : ∀ p, HooksOK P T M h.length fn.ntmps p → p.rowq = ρ → p.strict = st → wpc p T M fn.ntmps (fn.body.getD .skip) ⟨args0 args, h⟩ (endPost p T fn.results.toList R)) : Does P f args h R := by
 unfold okBS at hB
 split at hB
 ·rename_i c hb
  split at hB
  ·cases hB
  ·rename_i hn
   split at hB
   ·rename_i hl
    exact spec_by ρ st hP hf hb hn hl (Nat.le_of_ble_eq_true hB) (fun p hk hr hs => by have := hw p hk hr hs; rwa [hb] at this)
   ·cases hB
 ·cases hB
section
variable {P : Program} {T : Tab} {M : MTab} {n0 nt : Nat} {p : Pr} (hk : HooksOK P T M n0 nt p)
include hk
theorem HooksOK.finI {R : AVal → Heap → Prop} {r : AVal} {h : Heap} (hh : rFin n0 R r h) : p.fin R r h := by rw [hk.fin]; exact hh
theorem HooksOK.callI {f : FuncId} {args : List AVal} {h : Heap} {K : AVal → Heap → Prop} {R : AVal → Heap → Prop} (hs : Does P f args h R) (hK : ∀ r h', R r h' → K r h') : p.call f args h K := by
 rw [hk.calls.call]; exact hs.mono hK
theorem HooksOK.calldI {f : FuncId} {args : List AVal} {h : Heap} {K : AVal → Prop} {r : AVal} (hs : ∀ x : Heap, Does P f args (h ++ x) fun r' h' => r' = r ∧ h' = h ++ x) (hK : K r) : p.calld f args h K := by
 rw [hk.calls.calld]; exact ⟨r, hs, hK⟩
theorem HooksOK.call1 {f : FuncId} {args : List AVal} {h : Heap} {K : AVal → Heap → Prop} {r : AVal} (hs : Does P f args h fun r' h' => r' = r ∧ h' = h) (hK : K r h) : p.call f args h K :=
 hk.callI hs fun r' h' ⟨e1, e2⟩ => by subst e1; subst e2; exact hK
theorem HooksOK.loopI {body : St → (Exit → St → Prop) → Prop} {s : St} {Q : Exit → St → Prop} (hh : rLoop n0 nt body s Q) : p.loop body s Q := by rw [hk.loop]; exact hh
theorem HooksOK.ndI {q : Need} (hh : rNd q) : p.nd q := by rw [hk.data.nd]; exact hh
end
def Wk (h : Heap) (v v' : AVal) : Prop := ∀ e c, Good e → e.h = h → VR e v c → VR e v' c
theorem Wk.refl (h : Heap) (v : AVal) : Wk h v v := fun _ _ _ _ hv => hv
theorem Wk.of_eq {h : Heap} {v v' : AVal} (e : v = v') : Wk h v v' := e ▸ .refl h v
theorem Wk.junk (h : Heap) (v : AVal) : Wk h v .junk := fun _ _ _ _ _ => .pure _ _ (.junk _)
theorem Wk.trans {h : Heap} {v v' v'' : AVal} (h1 : Wk h v v') (h2 : Wk h v' v'') : Wk h v v'' := fun e c hg he hv => h2 e c hg he (h1 e c hg he hv)
theorem Wk.any (h : Heap) (q : LX) (c : Cap) : Wk h (.ls q c) (.ls q .any) := fun e v hg he hv => by
 cases hv with
 | pure _ _ hp => cases hp with
   | lsnil _ _ hq hf hc => exact .pure _ _ (.lsnil q .any hq hf (.inl rfl))
   | lse _ a hq hf => exact .pure _ _ (.lse q a hq hf)
   | ls _ b off cap cv h1 h2 h3 h4 h5 h6 h7 => exact .pure _ _ (.ls q b off cap cv h1 h2 h3 h4 h5 h6 h7)
 | tok _ i n _ hp ht => exact .pure _ _ hp
theorem Wk.empty (h : Heap) {q q' : LX} {c : Cap} (hq : q.n = 0) (hq' : q'.n = 0) (hf : q'.fit) (hc : c = .any ∨ c = .nil) : Wk h (.ls q c) (.ls q' c) := fun e v hg he hv => by
 have e1 : q'.n = q.n := by rw [hq, hq']
 cases hv with
 | pure _ _ hp => cases hp with
   | lsnil _ _ h1 h2 h3 => exact .pure _ _ (.lsnil q' c hq' hf hc)
   | lse _ a h1 h2 => exact .pure _ _ (.lse q' a hq' hf)
   | ls _ b off cap cv h1 h2 h3 h4 h5 h6 h7 =>
     refine .pure _ _ ?_
     rw [← e1]
     exact .ls q' b off cap cv (by omega) hf (fun i hi => by omega) (fun h => by omega) (fun i j hi => by omega) (fun i j hi => by omega) (fun i j hi => by omega)
 | tok _ i n _ hp ht => rcases hc with h | h <;> cases h
def Holds (h : Heap) (tm : Nat → AVal) : List (Nat × AVal) → Prop
 | [] => True
 | (d, v) :: r => Wk h (tm d) v ∧ Holds h tm r
theorem Holds.get {h : Heap} {tm : Nat → AVal} : ∀ {l : List (Nat × AVal)}, Holds h tm l → ∀ t, Wk h (tm t) (tmL l t)
 | [], _, t => .junk _ _
 | (d, v) :: r, hh, t => by
   unfold tmL
   split
   ·rename_i hb
    rw [Nat.eq_of_beq_eq_true hb]
    exact hh.1
   ·exact hh.2.get t
theorem Holds.nil (h : Heap) (tm : Nat → AVal) : Holds h tm [] := trivial
theorem Holds.cons {h : Heap} {tm : Nat → AVal} {d : Nat} {v : AVal} {r : List (Nat × AVal)} (h1 : Wk h (tm d) v) (h2 : Holds h tm r) : Holds h tm ((d, v) :: r) := ⟨h1, h2⟩
theorem Gh.refl (n0 nt : Nat) (s : St) : Gh n0 nt s s := fun e0 e a _ h => ⟨e, rfl, h⟩
theorem Gh.trans {n0 nt : Nat} {s s1 s2 : St} (h : Gh n0 nt s s1) (k : Gh n0 nt s1 s2) : Gh n0 nt s s2 := fun e0 e a hn hs => by
 obtain ⟨e1, w1, h1⟩ := h e0 e a hn hs
 obtain ⟨e2, w2, h2⟩ := k e0 e1 a hn h1
 exact ⟨e2, w2.trans w1, h2⟩
theorem Gh.tm {n0 nt : Nat} {tm : Nat → AVal} {h : Heap} {l : List (Nat × AVal)} (hh : Holds h tm l) : Gh n0 nt ⟨tm, h⟩ ⟨tmL l, h⟩ := fun e0 e a _ hs =>
 ⟨e, rfl, hs.good, hs.heap, fun t => hh.get t e _ hs.good hs.heap (hs.tm t), hs.size, hs.marks, hs.upd, hs.ext⟩
theorem Gh.wk {n0 nt : Nat} {tm tm' : Nat → AVal} {h : Heap} (hh : ∀ t, Wk h (tm t) (tm' t)) : Gh n0 nt ⟨tm, h⟩ ⟨tm', h⟩ := fun e0 e a _ hs =>
 ⟨e, rfl, hs.good, hs.heap, fun t => hh t e _ hs.good hs.heap (hs.tm t), hs.size, hs.marks, hs.upd, hs.ext⟩
theorem loop_rule {n0 nt : Nat} {body : St → (Exit → St → Prop) → Prop} {s : St} {Q : Exit → St → Prop} {α : Type} (fr : α → List (Nat × AVal)) (hp : α → Heap) (J : α → Prop) (μ : α → Nat) (x0 : α)
 (hJ : J x0) (h0 : Gh n0 nt s ⟨tmL (fr x0), hp x0⟩)
 (hb : ∀ x, J x → ∀ Q' : Exit → St → Prop, (∀ y s', J y → μ y < μ x → Gh n0 nt s' ⟨tmL (fr y), hp y⟩ → Q' .normal s') → (∀ id s', Q (.exit id) s' → Q' (.exit id) s') → (∀ s', Q .ret s' → Q' .ret s') →
   body ⟨tmL (fr x), hp x⟩ Q') : rLoop n0 nt body s Q := by
 refine ⟨fun m s => ∃ x, J x ∧ μ x = m ∧ s = ⟨tmL (fr x), hp x⟩, ⟨_, _, h0, x0, hJ, rfl, rfl⟩, fun m s ⟨x, hx, hm, hs⟩ => ?_⟩
 subst hs
 exact hb x hx _ (fun y s' hy hlt hg => ⟨_, _, by rw [← hm]; exact hlt, hg, y, hy, rfl, rfl⟩) (fun id s' h => h) (fun s' h => h)
mutual
/-- It leads to none but the first n objects. -/
def low (n : Nat) : AVal → Bool
 | .bool _ | .int _ _ | .str _ | .ls _ .any | .ls _ .nil | .pp _ | .nilp | .nilf | .nili | .und | .junk => true
 | .ls _ (.tok i _) | .sl i _ _ _ | .ptr i _ | .pe i _ _ _ | .yld i | .hnd _ i => Nat.blt i n
 | .agg vs | .tup vs => lows n vs
 | .clo _ a b => match lows n a with
   | true => lows n b
   | false => false
 | .iface _ v => low n v
def lows (n : Nat) : List AVal → Bool
 | [] => true
 | v :: r => match low n v with
   | true => lows n r
   | false => false
end
mutual
def shPure : Sh → Bool
 | .rc l => shPures l
 | .any => false
 | _ => true
def shPures : List Sh → Bool
 | [] => true
 | s :: r => match shPure s with
   | true => shPures r
   | false => false
end
def lowL (m : Nat) : List (Nat × AVal) → Bool
 | [] => true
 | (_, v) :: r => match low m v with
   | true => lowL m r
   | false => false
theorem lowL_get {m : Nat} : ∀ {l : List (Nat × AVal)}, lowL m l = true → ∀ t, low m (tmL l t) = true
 | [], _, t => rfl
 | (d, v) :: r, h, t => by
   unfold lowL at h
   split at h
   ·rename_i hv
    unfold tmL
    split
    ·exact hv
    ·exact lowL_get h t
   ·cases h
def lowO (n : Nat) : AObj → Bool
 | .box vs => lows n vs
 | .rw _ (.gl s _) => shPure s
 | .loop L => lowL n L.l
 | _ => true
def lowOs (n : Nat) : List AObj → Bool
 | [] => true
 | o :: r => match lowO n o with
   | true => lowOs n r
   | false => false
theorem lows_get {n : Nat} : ∀ {l : List AVal}, lows n l = true → ∀ i, i < l.length → low n (l.getD i .junk) = true
 | [], _, i, hi => by simp at hi
 | v :: r, h, i, hi => by
   unfold lows at h
   split at h
   ·rename_i hv
    cases i with
    | zero => exact hv
    | succ i => simpa using lows_get h i (by simpa using hi)
   ·cases h
theorem lowOs_get {n : Nat} : ∀ {l : List AObj}, lowOs n l = true → ∀ (i : Nat) o, l[i]? = some o → lowO n o = true
 | [], _, i, o, hi => by simp at hi
 | v :: r, h, i, o, hi => by
   unfold lowOs at h
   split at h
   ·rename_i hv
    cases i with
    | zero => simp at hi; subst hi; exact hv
    | succ i => exact lowOs_get h i o (by simpa using hi)
   ·cases h
mutual
theorem eta_low (n : Nat) : ∀ (s : Sh) (x : AVal), shPure s = true → low n (etaR s x) = true
 | .int k, x, h => by simp only [etaR, low]
 | .bool, x, h => by simp only [etaR, low]
 | .str, x, h => by simp only [etaR, low]
 | .li k, x, h => by simp only [etaR, low]
 | .lg s, x, h => by simp only [etaR, low]
 | .rc l, x, h => by simp only [etaR, low]; exact etas_low n l 0 x (by simpa [shPure] using h)
 | .any, x, h => by simp [shPure] at h
theorem etas_low (n : Nat) : ∀ (l : List Sh) (j : Nat) (x : AVal), shPures l = true → lows n (etasR l j x) = true
 | [], _, _, _ => by simp only [etasR, lows]
 | s :: r, j, x, h => by
   unfold shPures at h
   split at h
   ·rename_i hs
    simp only [etasR, lows]
    rw [eta_low n s (rFc x j) hs]
    exact etas_low n r (j + 1) x h
   ·cases h
end
theorem low_cells {n : Nat} {v : AVal} (h : low n v = true) : lows n v.cells = true := by
 cases v <;> simp only [AVal.cells, lows, h]
 simpa [low] using h
section
variable {e : Env} {n : Nat}
theorem take_get {i : Nat} {o : Option AObj} (hi : i < n) : (e.h.take n)[i]? = e.h[i]? := by
 rw [List.getElem?_take, if_pos hi]
theorem VR.low {v : AVal} {c : Value} (h : VR e v c) : Go.AL.low n v = true → VR { e with h := e.h.take n } v c := by
 induction h with
 | pure v c h => exact fun _ => .pure v c h
 | tok q i m c h ht =>
   intro hp
   have hi : i < n := by simpa [Go.AL.low] using hp
   refine .tok q i m c h ?_
   show tokAt (e.h.take n)[i]? m _
   rw [take_get (o := none) hi]
   exact ht
 | sl i g lo hi c h1 h =>
   intro hp
   have hi : i < n := by simpa [Go.AL.low] using hp
   refine .sl i g lo _ c h1 ?_
   show rwAt (e.h.take n)[i]? g _
   rw [take_get (o := none) hi]
   exact h
 | ptr i off c h1 h =>
   intro hp
   have hi : i < n := by simpa [Go.AL.low] using hp
   refine .ptr i off c h1 ?_
   show boxAt (e.h.take n)[i]? _
   rw [take_get (o := none) hi]
   exact h
 | pe i g ix off c h1 h =>
   intro hp
   have hi : i < n := by simpa [Go.AL.low] using hp
   refine .pe i g ix off c h1 ?_
   show rwAt (e.h.take n)[i]? g _
   rw [take_get (o := none) hi]
   exact h
 | agg vs cs hl hv ih =>
   intro hp
   exact .agg vs cs hl fun i hi => ih i hi (lows_get (by simpa [Go.AL.low] using hp) i hi)
 | tup vs cs hl hv ih =>
   intro hp
   exact .tup vs cs hl fun i hi => ih i hi (lows_get (by simpa [Go.AL.low] using hp) i hi)
 | clo f fs cs gs ds h1 h2 hf hc ih1 ih2 =>
   intro hp
   unfold Go.AL.low at hp
   split at hp
   ·rename_i ha
    exact .clo f fs cs gs ds h1 h2 (fun i hi => ih1 i hi (lows_get ha i hi)) (fun i hi => ih2 i hi (lows_get hp i hi))
   ·cases hp
 | yld i c h1 h =>
   intro hp
   have hi : i < n := by simpa [Go.AL.low] using hp
   refine .yld i c h1 ?_
   show loopAt (e.h.take n)[i]? _
   rw [take_get (o := none) hi]
   exact h
 | hnd k i c h1 h =>
   intro hp
   have hi : i < n := by simpa [Go.AL.low] using hp
   refine .hnd k i c h1 ?_
   show objAt (e.h.take n)[i]? _
   rw [take_get (o := none) hi]
   exact h
 | iface t v c h ih =>
   intro hp
   exact .iface t v c (ih (by simpa [Go.AL.low] using hp))
theorem ObjOK.low {i : Nat} {o : AObj} (h : ObjOK e i o) (hl : lowO n o = true) : ObjOK { e with h := e.h.take n } i o := by
 cases o with
 | box vs =>
   obtain ⟨b, cs, el, h1, h2, h3, h4, h5⟩ := h
   exact ⟨b, cs, el, h1, h2, h3, h4, fun j hj => (h5 j hj).low (lows_get hl j hj)⟩
 | rw g q =>
   rcases h with ⟨h1, h2⟩ | ⟨b, cs, el, h1, h2, h3, h4, h5, h6, h7⟩
   ·exact .inl ⟨h1, h2⟩
   ·refine .inr ⟨b, cs, el, h1, h2, h3, h4, h5, h6, fun i j hi hj => ⟨(h7 i j hi hj).1.low ?_, (h7 i j hi hj).2⟩⟩
    have hc := h6 i hi
    cases q with
    | nl => simp [LX.n, LX.toL] at hi
    | il k l =>
      simp only [LX.n, LX.toL, List.length_map] at hi
      simp only [LX.k] at hj
      have : j = 0 := by omega
      subst this
      simp [LX.at_, LX.toL, List.getD, hi, AVal.cells, Go.AL.low]
    | gl s xs =>
      simp only [LX.n, LX.toL] at hi
      have hx : (LX.gl s xs).at_ i ∈ xs := by simp [LX.at_, LX.toL, List.getD, hi]
      have he := h5 _ hx
      have : Go.AL.low n ((LX.gl s xs).at_ i) = true := by rw [← he]; exact eta_low n s _ hl
      exact lows_get (low_cells this) j (by rw [hc]; exact hj)
 | tok m => exact h
 | loop r =>
   obtain ⟨b, r2, h1, h2, h3, h4⟩ := h
   exact ⟨b, r2, h1, h2, h3, fun t => (h4 t).low (lowL_get hl t)⟩
 | obj r =>
   obtain ⟨b, r2, h1, h2, h3⟩ := h
   exact ⟨b, r2, h1, h2, h3⟩
 | dead g => trivial
end
theorem fin_low {n0 : Nat} {R : AVal → Heap → Prop} {r r' : AVal} {h : Heap} (hw : Wk h r r') (hp : low n0 r' = true) (ho : lowOs n0 (h.take n0) = true) (hR : R r' (h.take n0)) : rFin n0 R r h := fun e0 e c hn hg he hv hu hx => by
 subst he
 have look : ∀ {i : Nat} {o : AObj}, (e.h.take n0)[i]? = some o → i < n0 ∧ e.h[i]? = some o := fun {i o} ho => by
  rw [List.getElem?_take] at ho
  split at ho
  ·exact ⟨by assumption, ho⟩
  ·cases ho
 have own : ∀ b, Owned { e with h := e.h.take n0 } b → Owned e b := fun b ⟨i, o, h1, h2, h3⟩ => ⟨i, o, (look h1).2, h2, h3⟩
 refine ⟨r', { e with h := e.h.take n0 }, hR, rfl, ⟨fun i o h1 => ?_, fun i j oi oj b h1 h2 h3 h4 h5 h6 => hg.inj i j oi oj b (look h1).2 h2 (look h3).2 h4 h5 h6, hg.ps⟩, (hw e c hg rfl hv).low hp, ?_, ?_⟩
 ·exact ObjOK.low (hg.obj i o (look h1).2) (lowOs_get ho i o h1)
 ·exact ⟨hu.os, hu.tape, hu.output, hu.size, hu.frame, fun b hb => hu.own b (own b hb)⟩
 ·refine ⟨fun i o hi h1 => ?_, hx.ps, hx.cell, hx.size⟩
  obtain ⟨o', h2, h3⟩ := hx.obj i o hi h1
  refine ⟨o', ?_, h3⟩
  show (e.h.take n0)[i]? = some o'
  rw [take_get (o := none) hi]; exact h2
theorem fin_keep {n0 : Nat} {R : AVal → Heap → Prop} {r r' : AVal} {h : Heap} (hw : Wk h r r') (hR : R r' h) : rFin n0 R r h := fun e0 e c hn hg he hv hu hx => by
 subst he
 exact ⟨r', e, hR, rfl, hg, hw e c hg rfl hv, hu, hx⟩
theorem fin_same {n0 : Nat} {R : AVal → Heap → Prop} {r : AVal} {h : Heap} (hR : R r h) : rFin n0 R r h := fin_keep (.refl h r) hR
theorem fin_nil {R : AVal → Heap → Prop} {r r' : AVal} {h : Heap} (hw : Wk h r r') (hp : low 0 r' = true) (hR : R r' []) : rFin 0 R r h := fin_low hw hp rfl hR
theorem VR.pureOf {e : Env} {v : AVal} {c : Value} (h : VR e v c) (he : e.h = []) : PVR e.w e.ps v c := by
 have no : ∀ i : Nat, e.h[i]? = none := fun i => by rw [he]; simp
 induction h with
 | pure v c h => exact h
 | tok q i n c h ht => rw [no] at ht; exact ht.elim
 | sl i g lo hi c h1 h => rw [no] at h; exact h.elim
 | ptr i off c h1 h => rw [no] at h; exact h.elim
 | pe i g ix off c h1 h => rw [no] at h; exact h.elim
 | agg vs cs hl hv ih => exact .agg vs cs hl ih
 | tup vs cs hl hv ih => exact .tup vs cs hl ih
 | clo f fs cs gs ds h1 h2 hf hc ih1 ih2 => exact .clo f fs cs gs ds h1 h2 ih1 ih2
 | yld i c h1 h => rw [no] at h; exact h.elim
 | hnd k i c h1 h => rw [no] at h; exact h.elim
 | iface t v c h ih => exact .iface t v c ih
theorem frame0 {P : Program} {f : FuncId} {args : List AVal} {v : AVal} (hd : Does P f args [] fun r h' => r = v ∧ h' = []) (ha : lows 0 args = true) (hv : low 0 v = true) (h : Heap) :
 Does P f args h fun r h' => r = v ∧ h' = h := by
 refine ⟨hd.1, fun e cs hg he hargs => ?_⟩
 have hg1 : Good { e with h := e.h.take 0 } := ⟨fun i o h1 => by simp at h1, fun i j oi oj b h1 => by simp at h1, hg.ps⟩
 have ha1 : ArgsR { e with h := e.h.take 0 } args cs := ⟨hargs.len, fun i hi => (hargs.rel i hi).low (lows_get ha i hi)⟩
 have h1 := hd.2 { e with h := e.h.take 0 } cs hg1 (by simp) ha1
 refine Calls.mono h1 fun en w' hp => ?_
 cases en with
 | returned c =>
   obtain ⟨r, e1, ⟨e2, e3⟩, hw, hg2, hv2, hu, hx⟩ := hp
   subst e2
   have no : ∀ b, ¬ Owned { e with h := e.h.take 0 } b := fun b ⟨i, o, h1, _⟩ => by simp at h1
   have fr : ∀ i o b, e.h[i]? = some o → o.live = true → e.sg i = some b → e1.w.heap[b]? = e.w.heap[b]? ∧ e1.ps b = e.ps b := fun i o b h1 h2 h3 => by
    refine hu.frame b ?_ (no b)
    have h4 := hg.obj i o h1
    cases o with
    | box vs => obtain ⟨b', cs, el, k1, k2, _⟩ := h4; obtain rfl : b = b' := by rw [h3] at k1; exact Option.some.inj k1
                exact (Array.getElem?_eq_some_iff.1 k2).1
    | rw g q =>
      rcases h4 with ⟨_, k1⟩ | ⟨b', cs, el, k1, k2, _⟩
      ·rw [h3] at k1; cases k1
      ·obtain rfl : b = b' := by rw [h3] at k1; exact Option.some.inj k1
       exact (Array.getElem?_eq_some_iff.1 k2).1
    | tok n => obtain ⟨cs, el, k2⟩ := h4 b h3; exact (Array.getElem?_eq_some_iff.1 k2).1
    | loop r => obtain ⟨b', r2, k1, k2, _⟩ := h4; obtain rfl : b = b' := by rw [h3] at k1; exact Option.some.inj k1
                exact (Array.getElem?_eq_some_iff.1 k2).1
    | obj r => obtain ⟨b', r2, k1, k2, _⟩ := h4; obtain rfl : b = b' := by rw [h3] at k1; exact Option.some.inj k1
               exact (Array.getElem?_eq_some_iff.1 k2).1
    | dead g => cases h2
   have hext : ∀ n, Ext n e { e with w := e1.w, ps := e1.ps } := fun n => by
    refine ⟨fun i o hi ho => ⟨o, ho, ?_⟩, hx.ps, hx.cell, hx.size⟩
    cases o with
    | tok n => exact ⟨Nat.le_refl _, fun _ => ⟨rfl, fun b hb => (fr i _ b ho rfl hb).2⟩⟩
    | box vs => exact ⟨rfl, rfl⟩
    | rw g q => exact ⟨Nat.le_refl _, fun _ => ⟨rfl, rfl, rfl⟩⟩
    | loop r => exact rfl
    | obj r => exact rfl
    | dead g => exact Nat.le_refl _
   have vr : ∀ v c, VR e v c → VR { e with w := e1.w, ps := e1.ps } v c := fun v c h => h.mono (Nat.le_refl _) (hext _)
   refine ⟨r, { e with w := e1.w, ps := e1.ps }, ⟨rfl, he⟩, hw, ⟨fun i o ho => ?_, hg.inj, hg2.ps⟩, ?_, ?_, hext _⟩
   ·have h4 := hg.obj i o ho
    cases o with
    | box vs =>
      obtain ⟨b, cs, el, k1, k2, k3, k4, k5⟩ := h4
      obtain ⟨f1, f2⟩ := fr i _ b ho rfl k1
      exact ⟨b, cs, el, k1, f1.trans k2, k3, f2.trans k4, fun j hj => vr _ _ (k5 j hj)⟩
    | rw g q =>
      rcases h4 with k | ⟨b, cs, el, k1, k2, k3, k4, k5, k6, k7⟩
      ·exact .inl k
      ·obtain ⟨f1, f2⟩ := fr i _ b ho rfl k1
       exact .inr ⟨b, cs, el, k1, f1.trans k2, k3, f2.trans k4, k5, k6, fun i j hi hj => ⟨vr _ _ (k7 i j hi hj).1, (k7 i j hi hj).2⟩⟩
    | tok n =>
      intro b hb
      obtain ⟨cs, el, k2⟩ := h4 b hb
      exact ⟨cs, el, (fr i _ b ho rfl hb).1.trans k2⟩
    | loop r =>
      obtain ⟨b, r2, k1, k2, k3, k4⟩ := h4
      exact ⟨b, r2, k1, (fr i _ b ho rfl k1).1.trans k2, k3, fun t => vr _ _ (k4 t)⟩
    | obj r =>
      obtain ⟨b, r2, k1, k2, k3⟩ := h4
      exact ⟨b, r2, k1, (fr i _ b ho rfl k1).1.trans k2, k3⟩
    | dead g => trivial
   ·have h5 := hv2.low (n := 0) hv
    have e4 : ({ e1 with h := e1.h.take 0 } : Env).w = e1.w := rfl
    have h6 : PVR e1.w e1.ps r c := VR.pureOf (e := { e1 with h := e1.h.take 0 }) h5 (by simp)
    exact .pure _ _ h6
   ·exact ⟨hu.os, hu.tape, hu.output, hu.size, fun b hb ho => hu.frame b hb (no b), fun b ⟨i, o, h1, h2, h3⟩ => .inl ⟨i, o, h1, h2, h3⟩⟩
 | _ => exact hp.elim
end Go.AL
/-
  AL: the table of types of a program, looked over at once; printed off the program.
-/
set_option linter.unusedSectionVars false
set_option linter.unusedVariables false
set_option linter.unusedSimpArgs false
namespace Go.AL
open Go
mutual
def zok : AVal → Value → Bool
 | .bool a, .bool b => a == b
 | .int k n, .int k' m => IntKind.same k k' && n == m
 | .str s, .string t => s == t.data.toList
 | .ls .nl .nil, .slice none 0 0 => true
 | .nilp, .pointer none => true
 | .nilf, .nilFunc => true
 | .nili, .nilIface => true
 | .agg vs, .agg cs => zoks vs cs.toList
 | .junk, _ => true
 | _, _ => false
def zoks : List AVal → List Value → Bool
 | [], [] => true
 | a :: x, c :: y => zok a c && zoks x y
 | _, _ => false
end
theorem same_eq {k k' : IntKind} (h : IntKind.same k k' = true) : k = k' := by
 cases k <;> cases k' <;> first | rfl | (simp [IntKind.same] at h)
mutual
theorem zok_spec (w : World) (ps : Nat → Nat) : ∀ (a : AVal) (c : Value), zok a c = true → PVR w ps a c
 | .bool a, c, h => by
   cases c <;> simp [zok] at h
   subst h; exact .bool _
 | .int k n, c, h => by
   cases c <;> simp [zok] at h
   obtain ⟨h1, rfl⟩ := h
   rw [same_eq h1]; exact .int _ _
 | .str s, c, h => by
   cases c <;> simp [zok] at h
   subst h
   rename_i t
   have := PVR.str (w := w) (ps := ps) t
   simpa using this
 | .ls q cp, c, h => by
   unfold zok at h
   split at h <;> first | (simp at h; done) | skip
   all_goals first | (rename_i e1 _; cases e1; done) | skip
   all_goals (rename_i e1; first | (cases e1; exact .lsnil .nl .nil rfl trivial (.inr rfl)) | (cases e1; done))
 | .nilp, c, h => by
   unfold zok at h
   split at h <;> first | (simp at h; done) | exact .nilp | (rename_i e1 _; cases e1; done) | (rename_i e1; cases e1; done)
 | .nilf, c, h => by
   unfold zok at h
   split at h <;> first | (simp at h; done) | exact .nilf | (rename_i e1 _; cases e1; done) | (rename_i e1; cases e1; done)
 | .nili, c, h => by
   unfold zok at h
   split at h <;> first | (simp at h; done) | exact .nili | (rename_i e1 _; cases e1; done) | (rename_i e1; cases e1; done)
 | .agg vs, c, h => by
   cases c <;> simp [zok] at h
   rename_i cs
   have := zoks_spec w ps vs cs.toList h
   exact .agg vs cs (by simpa using this.1) (fun i hi => by simpa using this.2 i hi)
 | .junk, c, h => .junk c
 | .sl .., c, h => by simp [zok] at h
 | .ptr .., c, h => by simp [zok] at h
 | .pe .., c, h => by simp [zok] at h
 | .pp .., c, h => by simp [zok] at h
 | .tup .., c, h => by simp [zok] at h
 | .clo .., c, h => by simp [zok] at h
 | .yld .., c, h => by simp [zok] at h
 | .iface .., c, h => by simp [zok] at h
 | .und, c, h => by simp [zok] at h
theorem zoks_spec (w : World) (ps : Nat → Nat) : ∀ (vs : List AVal) (cs : List Value), zoks vs cs = true → vs.length = cs.length ∧ ∀ i, i < vs.length → PVR w ps (vs.getD i .junk) (cs.getD i undef)
 | [], [], _ => ⟨rfl, fun i hi => by simp at hi⟩
 | [], _ :: _, h => by simp [zoks] at h
 | _ :: _, [], h => by simp [zoks] at h
 | a :: x, c :: y, h => by
   simp only [zoks, Bool.and_eq_true] at h
   have := zoks_spec w ps x y h.2
   refine ⟨by simp [this.1], fun i hi => ?_⟩
   cases i with
   | zero => exact zok_spec w ps a c h.1
   | succ i => simpa using this.2 i (by simpa using hi)
end
def pairsEq : List (Nat × Nat) → List (Nat × Nat) → Bool
 | [], [] => true
 | (a, b) :: x, (c, d) :: y => a == c && (b == d && pairsEq x y)
 | _, _ => false
theorem pairsEq_eq : ∀ {x y : List (Nat × Nat)}, pairsEq x y = true → x = y
 | [], [], _ => rfl
 | [], _ :: _, h => by simp [pairsEq] at h
 | _ :: _, [], h => by simp [pairsEq] at h
 | (a, b) :: x, (c, d) :: y, h => by
   simp only [pairsEq, Bool.and_eq_true, beq_iff_eq] at h
   rw [h.1, h.2.1, pairsEq_eq h.2.2]
def dok : TD → TypeDesc → Bool
 | .int k, .int k' => IntKind.same k k'
 | .bool, .bool => true
 | .str, .string => true
 | .slice e, .slice e' => e == e'
 | .array n e, .array n' e' => n == n' && e == e'
 | .struct fs, .struct fields => pairsEq (fields.toList.map fun f => (f.offset, f.type)) fs
 | .ptr e, .pointer e' => e == e'
 | .iface, .interface _ => true
 | .func, .func _ _ _ => true
 | .map k e, .map k' e' => k == k' && e == e'
 | .other, .struct _ => false
 | .other, .array _ _ => false
 | .other, .interface _ => false
 | .other, _ => true
 | _, _ => false
theorem dok_spec {a : TD} {d : TypeDesc} (h : dok a d = true) : DOK a d := by
 cases a <;> cases d <;> simp [dok] at h <;> simp only [DOK]
 ·rw [same_eq h]
 ·rw [h]
 ·rw [h.1, h.2]
 ·exact ⟨_, rfl, pairsEq_eq h⟩
 ·rw [h]
 ·exact ⟨_, rfl⟩
 ·exact ⟨_, _, _, rfl⟩
 ·rw [h.1, h.2]
def tiOKB (P : Program) (t : Nat) (ti : TI) : Bool :=
 match P.info? t, P.underlying t with
 | some info, some d => match info.zero with
   | some z => info.size == ti.sz && (info.bytes == ti.by_ && (z.cells.size == ti.sz && (z.cells.toList.all (·.oneCell') && (zok ti.zero z && (dok ti.d d && (ti.zero.cells.length == ti.sz && ((ti.d.isAgg || ti.sz == 1) &&
      ((!ti.eqf || !ti.d.isAgg || !P.eqGuardType P.depth t) && (!ti.eqf || match d with
        | .struct fields => !P.stoodInHeld t && fields.toList.all fun f => f.name != "_"
        | _ => true)))))))))
   | none => false
 | _, _ => false
theorem tiOKB_spec {P : Program} {t : Nat} {ti : TI} (h : tiOKB P t ti = true) : TIOK P t ti := by
 unfold tiOKB at h
 split at h
 ·rename_i info d hi hu
  split at h
  ·rename_i z hz
   simp only [Bool.and_eq_true, beq_iff_eq] at h
   obtain ⟨h1, h2, h3, h4, h5, h6, h7, h8, h9, h10⟩ := h
   refine ⟨⟨info, z, d, hi, h1, h2, hz, h3, fun c hc => ?_, fun w ps => zok_spec w ps _ _ h5, hu, dok_spec h6⟩, h7, fun ha => ?_, fun h1 h2 => ?_, fun h1 fields hf => ?_⟩
   ·exact List.all_eq_true.1 h4 c (by simpa using hc)
   ·rw [ha] at h8; simpa using h8
   ·rw [h1, h2] at h9; simpa using h9
   ·rw [h1] at h10
    rw [hu] at hf
    cases Option.some.inj hf
    simp only [Bool.not_true, Bool.false_or, Bool.and_eq_true, Bool.not_eq_true'] at h10
    exact ⟨h10.1, fun f hm => by have := List.all_eq_true.1 h10.2 f hm; simpa using this⟩
  ·cases h
 ·cases h
def tabB (P : Program) : TabL → Bool
 | [] => true
 | (t, ti) :: r => match tiOKB P t ti with
   | true => tabB P r
   | false => false
theorem tabB_spec' {P : Program} : ∀ {L : TabL}, tabB P L = true → ∀ t ti, TabL.get? L t = some ti → TIOK P t ti
 | [], _, t, ti, h => by simp [TabL.get?] at h
 | (u, i) :: r, hB, t, ti, h => by
   unfold tabB at hB
   split at hB
   ·rename_i h1
    unfold TabL.get? at h
    split at h
    ·rename_i hb
     cases h
     rw [← Nat.eq_of_beq_eq_true hb]
     exact tiOKB_spec h1
    ·exact tabB_spec' hB t ti h
   ·cases hB
theorem tabB_spec {P : Program} {T : Tab} (L : TabL) (hT : T = fun t => TabL.get? L t) (h : tabB P L = true) : TabOK P T := by
 subst hT
 exact tabB_spec' h
end Go.AL
/-
  AL: what one proves a contract with: the hooks as variables, and what is known of them.
-/
set_option linter.unusedSectionVars false
set_option linter.unusedVariables false
set_option linter.unusedSimpArgs false
namespace Go.AL
open Go
theorem wrap64 {n : Int} (h1 : -9223372036854775808 ≤ n) (h2 : n < 9223372036854775808) : IntKind.wrap .i64 n = n := by
 simp only [IntKind.wrap, IntKind.bits, IntKind.signed]
 by_cases h : n % 2 ^ 64 ≥ 2 ^ (64 - 1)
 ·simp; omega
 ·simp; omega
def Is (v : AVal) (h : Heap) : AVal → Heap → Prop := fun r h' => r = v ∧ h' = h
structure HK (P : Program) (n0 nt : Nat) (i2 : BinOp → IntKind → Int → Int → Int) (c2 : BinOp → Int → Int → Bool) (u1 : UnOp → IntKind → Int → Int) (cv : IntKind → Int → Int) (mx mn ad sbt : Int → Int → Int)
 (bn : Bool → Bool) (bq ba : Bool → Bool → Bool) (lnI : List Int → Int) (gtI : List Int → Int → Int) (apI : List Int → List Int → List Int) (sbI : List Int → Int → Int → List Int) (stI : List Int → Int → Int → List Int)
 (rpI : Int → Int → List Int) (lnG : List AVal → Int) (gtG : List AVal → Int → AVal) (apG : List AVal → List AVal → List AVal) (sbG : List AVal → Int → Int → List AVal) (stG : List AVal → Int → AVal → List AVal)
 (rpG : Int → AVal → List AVal) (fi : AVal → Int) (fb : AVal → Bool) (fs : AVal → List UInt8) (fl : AVal → List Int) (fg : AVal → List AVal) (fc : AVal → Nat → AVal) (sln : List UInt8 → Int) (sgt : List UInt8 → Int → Int)
 (sap : List UInt8 → List UInt8 → List UInt8) (ssb : List UInt8 → Int → Int → List UInt8) (sc : BinOp → List UInt8 → List UInt8 → Bool) (b2s : List Int → List UInt8) (nd : Need → Prop) (call : FuncId → List AVal → Heap → (AVal → Heap → Prop) → Prop)
 (calld : FuncId → List AVal → Heap → (AVal → Prop) → Prop) (callv : AVal → List AVal → Heap → (AVal → Heap → Prop) → Prop) (callvd : AVal → List AVal → Heap → (AVal → Prop) → Prop)
 (loop : (St → (Exit → St → Prop) → Prop) → St → (Exit → St → Prop) → Prop) (rfun : AVal → Array Tmp → Code → Code → St → (Exit → St → Prop) → Prop) (fin : (AVal → Heap → Prop) → AVal → Heap → Prop) : Prop where
 c2_lss : ∀ a b, c2 .lss a b = decide (a < b)
 c2_leq : ∀ a b, c2 .leq a b = decide (a ≤ b)
 c2_gtr : ∀ a b, c2 .gtr a b = decide (a > b)
 c2_geq : ∀ a b, c2 .geq a b = decide (a ≥ b)
 c2_eql : ∀ a b, c2 .eql a b = decide (a = b)
 c2_neq : ∀ a b, c2 .neq a b = decide (a ≠ b)
 i2_eq : i2 = rI2
 i2_add : ∀ k a b, i2 .add k a b = k.wrap (a + b)
 i2_sub : ∀ k a b, i2 .sub k a b = k.wrap (a - b)
 i2_mul : ∀ k a b, i2 .mul k a b = k.wrap (a * b)
 i2_quo : ∀ k a b, i2 .quo k a b = k.wrap (a.tdiv b)
 i2_rem : ∀ k a b, i2 .rem k a b = a.tmod b
 add64 : ∀ a b, -9223372036854775808 ≤ a + b → a + b < 9223372036854775808 → i2 .add .i64 a b = a + b
 sub64 : ∀ a b, -9223372036854775808 ≤ a - b → a - b < 9223372036854775808 → i2 .sub .i64 a b = a - b
 mul64 : ∀ a b, -9223372036854775808 ≤ a * b → a * b < 9223372036854775808 → i2 .mul .i64 a b = a * b
 u1_neg : ∀ k a, u1 .neg k a = k.wrap (0 - a)
 u1_eq : u1 = rU1
 cv_eq : ∀ k n, cv k n = k.wrap n
 mx_eq : ∀ a b, mx a b = if b > a then b else a
 mn_eq : ∀ a b, mn a b = if b < a then b else a
 ad_eq : ∀ a b, ad a b = a + b
 sb_eq : ∀ a b, sbt a b = a - b
 bn_eq : ∀ a, bn a = !a
 bq_eq : ∀ a b, bq a b = (a == b)
 ba_eq : ∀ a b, ba a b = (a && b)
 lnI_eq : ∀ l, lnI l = (l.length : Int)
 lnI_nn : ∀ l, 0 ≤ lnI l
 lt_lnI : ∀ l i, 0 ≤ i → i < lnI l → i.toNat < l.length
 lnI_lt : ∀ (l : List Int) (n : Int), (l.length : Int) < n → lnI l < n
 lnI_le : ∀ (l : List Int) (n : Int), (l.length : Int) ≤ n → lnI l ≤ n
 lnI_toNat : ∀ l : List Int, (lnI l).toNat = l.length
 gtI_eq : ∀ l i, gtI l i = l.getD i.toNat 0
 apI_eq : ∀ l m, apI l m = l ++ m
 sbI_eq : ∀ l a b, sbI l a b = (l.drop a.toNat).take (b - a).toNat
 stI_eq : ∀ l i v, stI l i v = l.set i.toNat v
 rpI_eq : ∀ n v, rpI n v = List.replicate n.toNat v
 lnG_eq : ∀ l, lnG l = (l.length : Int)
 lnG_nn : ∀ l, 0 ≤ lnG l
 lt_lnG : ∀ l i, 0 ≤ i → i < lnG l → i.toNat < l.length
 lnG_lt : ∀ (l : List AVal) (n : Int), (l.length : Int) < n → lnG l < n
 lnG_toNat : ∀ l : List AVal, (lnG l).toNat = l.length
 gtG_eq : ∀ l i, gtG l i = l.getD i.toNat .junk
 apG_eq : ∀ l m, apG l m = l ++ m
 sbG_eq : ∀ l a b, sbG l a b = (l.drop a.toNat).take (b - a).toNat
 stG_eq : ∀ l i v, stG l i v = l.set i.toNat v
 rpG_eq : ∀ n v, rpG n v = List.replicate n.toNat v
 fi_eq : fi = rFi
 fb_eq : fb = rFb
 fs_eq : fs = rFs
 fl_eq : fl = rFl
 fg_eq : fg = rFg
 fc_eq : fc = rFc
 sln_eq : ∀ s, sln s = (s.length : Int)
 sgt_eq : ∀ s i, sgt s i = ((s.getD i.toNat 0).toNat : Int)
 sap_eq : ∀ s t, sap s t = s ++ t
 ssb_eq : ∀ l a b, ssb l a b = (l.drop a.toNat).take (b - a).toNat
 sc_eq : sc = rSc
 b2s_eq : ∀ l, b2s l = l.map fun n => n.toNat.toUInt8
 ndI : ∀ {q}, rNd q → nd q
 idx : ∀ {i n : Int}, 0 ≤ i → i < n → nd (.idx i n)
 callI : ∀ {f args h K R}, Does P f args h R → (∀ r h', R r h' → K r h') → call f args h K
 call1 : ∀ {f args h} {K : AVal → Heap → Prop} {r}, Does P f args h (Is r h) → K r h → call f args h K
 calld1 : ∀ {f args h} {K : AVal → Prop} {r}, (∀ x : Heap, Does P f args (h ++ x) (Is r (h ++ x))) → K r → calld f args h K
 callvI : ∀ {f args h K R}, DoesV P f args h R → (∀ r h', R r h' → K r h') → callv f args h K
 callv1 : ∀ {f args h} {K : AVal → Heap → Prop} {r}, DoesV P f args h (Is r h) → K r h → callv f args h K
 callvd1 : ∀ {f args h} {K : AVal → Prop} {r}, (∀ x : Heap, DoesV P f args (h ++ x) (Is r (h ++ x))) → K r → callvd f args h K
 loopI : ∀ {body s Q}, rLoop n0 nt body s Q → loop body s Q
 rfunI : ∀ {f ps assign body s Q}, rRfun P nt f ps assign body s Q → rfun f ps assign body s Q
 finI : ∀ {R r h}, rFin n0 R r h → fin R r h
 fin1 : ∀ {r v h}, r = v → fin (Is v h) r h
 fin0 : ∀ {r v h}, n0 = 0 → low 0 v = true → Wk h r v → fin (Is v []) r h
theorem hk_of {P : Program} {T : Tab} {M : MTab} {n0 nt : Nat} {p : Pr} (hk : HooksOK P T M n0 nt p) :
 HK P n0 nt p.i2 p.c2 p.u1 p.cv p.mx p.mn p.ad p.sbt p.bn p.bq p.ba p.lnI p.gtI p.apI p.sbI p.stI p.rpI p.lnG p.gtG p.apG p.sbG p.stG p.rpG p.fi p.fb p.fs p.fl p.fg p.fc p.sln p.sgt p.sap p.ssb p.sc p.b2s p.nd p.call p.calld p.callv p.callvd p.loop p.rfun p.fin where
 c2_lss := fun a b => by rw [hk.data.c2]; rfl
 c2_leq := fun a b => by rw [hk.data.c2]; rfl
 c2_gtr := fun a b => by rw [hk.data.c2]; rfl
 c2_geq := fun a b => by rw [hk.data.c2]; rfl
 c2_eql := fun a b => by rw [hk.data.c2]; rfl
 c2_neq := fun a b => by
  rw [hk.data.c2]
  show (a != b) = _
  by_cases h : a = b <;> simp [h, bne]
 i2_eq := hk.data.i2
 i2_add := fun k a b => by rw [hk.data.i2]; rfl
 i2_sub := fun k a b => by rw [hk.data.i2]; rfl
 i2_mul := fun k a b => by rw [hk.data.i2]; rfl
 i2_quo := fun k a b => by rw [hk.data.i2]; rfl
 i2_rem := fun k a b => by rw [hk.data.i2]; rfl
 add64 := fun a b h1 h2 => by rw [hk.data.i2]; exact wrap64 h1 h2
 sub64 := fun a b h1 h2 => by rw [hk.data.i2]; exact wrap64 h1 h2
 mul64 := fun a b h1 h2 => by rw [hk.data.i2]; exact wrap64 h1 h2
 u1_neg := fun k a => by rw [hk.data.u1]; rfl
 u1_eq := hk.data.u1
 cv_eq := fun k a => by rw [hk.data.cv]
 mx_eq := fun a b => by rw [hk.data.mx]
 mn_eq := fun a b => by rw [hk.data.mn]
 ad_eq := fun a b => by rw [hk.data.ad]
 sb_eq := fun a b => by rw [hk.data.sbt]
 bn_eq := fun a => by rw [hk.data.bn]
 bq_eq := fun a b => by rw [hk.data.bq]
 ba_eq := fun a b => by rw [hk.data.ba]
 lnI_eq := fun l => by rw [hk.data.lnI]
 lnI_nn := fun l => by rw [hk.data.lnI]; exact Int.natCast_nonneg _
 lt_lnI := fun l i h0 h1 => by rw [hk.data.lnI] at h1; simp only [] at h1; omega
 lnI_lt := fun l n h => by rw [hk.data.lnI]; simp only []; omega
 lnI_le := fun l n h => by rw [hk.data.lnI]; simp only []; omega
 lnI_toNat := fun l => by rw [hk.data.lnI]; simp only []; omega
 gtI_eq := fun l i => by rw [hk.data.gtI]
 apI_eq := fun l m => by rw [hk.data.apI]
 sbI_eq := fun l a b => by rw [hk.data.sbI]; rfl
 stI_eq := fun l i v => by rw [hk.data.stI]
 rpI_eq := fun n v => by rw [hk.data.rpI]
 lnG_eq := fun l => by rw [hk.data.lnG]
 lnG_nn := fun l => by rw [hk.data.lnG]; exact Int.natCast_nonneg _
 lt_lnG := fun l i h0 h1 => by rw [hk.data.lnG] at h1; simp only [] at h1; omega
 lnG_lt := fun l n h => by rw [hk.data.lnG]; simp only []; omega
 lnG_toNat := fun l => by rw [hk.data.lnG]; simp only []; omega
 gtG_eq := fun l i => by rw [hk.data.gtG]
 apG_eq := fun l m => by rw [hk.data.apG]
 sbG_eq := fun l a b => by rw [hk.data.sbG]; rfl
 stG_eq := fun l i v => by rw [hk.data.stG]
 rpG_eq := fun n v => by rw [hk.data.rpG]
 fi_eq := hk.data.fi
 fb_eq := hk.data.fb
 fs_eq := hk.data.fs
 fl_eq := hk.data.fl
 fg_eq := hk.data.fg
 fc_eq := hk.data.fc
 sln_eq := fun s => by rw [hk.data.sln]
 sgt_eq := fun s i => by rw [hk.data.sgt]
 sap_eq := fun s t => by rw [hk.data.sap]
 ssb_eq := fun l a b => by rw [hk.data.ssb]; rfl
 sc_eq := hk.data.sc
 b2s_eq := fun l => by rw [hk.data.b2s]
 ndI := fun h => by rw [hk.data.nd]; exact h
 idx := fun h0 h1 => by rw [hk.data.nd]; exact ⟨h0, h1⟩
 callI := fun hs hK => hk.callI hs hK
 call1 := fun hs hK => hk.call1 hs hK
 calld1 := fun hs hK => hk.calldI hs hK
 callvI := fun hs hK => by rw [hk.calls.callv]; exact hs.mono hK
 callv1 := fun hs hK => by rw [hk.calls.callv]; exact hs.mono fun r' h' ⟨e1, e2⟩ => by subst e1; subst e2; exact hK
 callvd1 := fun hs hK => by rw [hk.calls.callvd]; exact ⟨_, hs, hK⟩
 loopI := fun h => hk.loopI h
 rfunI := fun h => by rw [hk.rfun]; exact h
 finI := fun h => hk.finI h
 fin1 := fun e => hk.finI (fin_same ⟨e, rfl⟩)
 fin0 := fun e hp hw => by subst e; exact hk.finI (fin_nil hw hp ⟨rfl, rfl⟩)
theorem doesFrS {P : Program} {T : Tab} {M : MTab} (ρ : Nat → Bool) (st : Nat → Bool) (hP : ProgOK P T M) {f : FuncId} (fn : Func) {args : List AVal} {h : Heap} {R : AVal → Heap → Prop}
 (hf : P.funcs[f]? = some fn) (hB : okBS st fn args.length = true)
 (hw : ∀ i2 c2 u1 cv mx mn ad sbt bn bq ba lnI gtI apI sbI stI rpI lnG gtG apG sbG stG rpG fi fb fs fl fg fc sln sgt sap ssb sc b2s s2b nd call calld callv callvd loop rfun fin,
   HK P h.length fn.ntmps i2 c2 u1 cv mx mn ad sbt bn bq ba lnI gtI apI sbI stI rpI lnG gtG apG sbG stG rpG fi fb fs fl fg fc sln sgt sap ssb sc b2s nd call calld callv callvd loop rfun fin →
   wpc ⟨i2, c2, u1, cv, mx, mn, ad, sbt, bn, bq, ba, lnI, gtI, apI, sbI, stI, rpI, lnG, gtG, apG, sbG, stG, rpG, fi, fb, fs, fl, fg, fc, sln, sgt, sap, ssb, sc, b2s, s2b, nd, call, calld, callv, callvd, loop, rfun, fin, ρ, st⟩ T M fn.ntmps (fn.body.getD .skip) ⟨args0 args, h⟩
    (endPost ⟨i2, c2, u1, cv, mx, mn, ad, sbt, bn, bq, ba, lnI, gtI, apI, sbI, stI, rpI, lnG, gtG, apG, sbG, stG, rpG, fi, fb, fs, fl, fg, fc, sln, sgt, sap, ssb, sc, b2s, s2b, nd, call, calld, callv, callvd, loop, rfun, fin, ρ, st⟩ T fn.results.toList R)) : Does P f args h R :=
 does ρ st hP fn hf hB fun p hk hr hs => by
  have := hw p.i2 p.c2 p.u1 p.cv p.mx p.mn p.ad p.sbt p.bn p.bq p.ba p.lnI p.gtI p.apI p.sbI p.stI p.rpI p.lnG p.gtG p.apG p.sbG p.stG p.rpG p.fi p.fb p.fs p.fl p.fg p.fc p.sln p.sgt p.sap p.ssb p.sc p.b2s p.s2b p.nd p.call p.calld p.callv p.callvd p.loop p.rfun p.fin (hk_of hk)
  subst hr
  subst hs
  exact this
theorem doesFr {P : Program} {T : Tab} {M : MTab} (ρ : Nat → Bool) (hP : ProgOK P T M) {f : FuncId} (fn : Func) {args : List AVal} {h : Heap} {R : AVal → Heap → Prop}
 (hf : P.funcs[f]? = some fn) (hB : okBS (fun _ => false) fn args.length = true)
 (hw : ∀ i2 c2 u1 cv mx mn ad sbt bn bq ba lnI gtI apI sbI stI rpI lnG gtG apG sbG stG rpG fi fb fs fl fg fc sln sgt sap ssb sc b2s s2b nd call calld callv callvd loop rfun fin,
   HK P h.length fn.ntmps i2 c2 u1 cv mx mn ad sbt bn bq ba lnI gtI apI sbI stI rpI lnG gtG apG sbG stG rpG fi fb fs fl fg fc sln sgt sap ssb sc b2s nd call calld callv callvd loop rfun fin →
   wpc ⟨i2, c2, u1, cv, mx, mn, ad, sbt, bn, bq, ba, lnI, gtI, apI, sbI, stI, rpI, lnG, gtG, apG, sbG, stG, rpG, fi, fb, fs, fl, fg, fc, sln, sgt, sap, ssb, sc, b2s, s2b, nd, call, calld, callv, callvd, loop, rfun, fin, ρ, fun _ => false⟩ T M fn.ntmps (fn.body.getD .skip) ⟨args0 args, h⟩
    (endPost ⟨i2, c2, u1, cv, mx, mn, ad, sbt, bn, bq, ba, lnI, gtI, apI, sbI, stI, rpI, lnG, gtG, apG, sbG, stG, rpG, fi, fb, fs, fl, fg, fc, sln, sgt, sap, ssb, sc, b2s, s2b, nd, call, calld, callv, callvd, loop, rfun, fin, ρ, fun _ => false⟩ T fn.results.toList R)) : Does P f args h R :=
 doesFrS ρ (fun _ => false) hP fn hf hB hw
theorem doesFs {P : Program} {T : Tab} {M : MTab} (st : Nat → Bool) (hP : ProgOK P T M) {f : FuncId} (fn : Func) {args : List AVal} {h : Heap} {R : AVal → Heap → Prop}
 (hf : P.funcs[f]? = some fn) (hB : okBS st fn args.length = true)
 (hw : ∀ i2 c2 u1 cv mx mn ad sbt bn bq ba lnI gtI apI sbI stI rpI lnG gtG apG sbG stG rpG fi fb fs fl fg fc sln sgt sap ssb sc b2s s2b nd call calld callv callvd loop rfun fin,
   HK P h.length fn.ntmps i2 c2 u1 cv mx mn ad sbt bn bq ba lnI gtI apI sbI stI rpI lnG gtG apG sbG stG rpG fi fb fs fl fg fc sln sgt sap ssb sc b2s nd call calld callv callvd loop rfun fin →
   wpc ⟨i2, c2, u1, cv, mx, mn, ad, sbt, bn, bq, ba, lnI, gtI, apI, sbI, stI, rpI, lnG, gtG, apG, sbG, stG, rpG, fi, fb, fs, fl, fg, fc, sln, sgt, sap, ssb, sc, b2s, s2b, nd, call, calld, callv, callvd, loop, rfun, fin, fun _ => false, st⟩ T M fn.ntmps (fn.body.getD .skip) ⟨args0 args, h⟩
    (endPost ⟨i2, c2, u1, cv, mx, mn, ad, sbt, bn, bq, ba, lnI, gtI, apI, sbI, stI, rpI, lnG, gtG, apG, sbG, stG, rpG, fi, fb, fs, fl, fg, fc, sln, sgt, sap, ssb, sc, b2s, s2b, nd, call, calld, callv, callvd, loop, rfun, fin, fun _ => false, st⟩ T fn.results.toList R)) : Does P f args h R :=
 doesFrS (fun _ => false) st hP fn hf hB hw
theorem doesF {P : Program} {T : Tab} {M : MTab} (hP : ProgOK P T M) {f : FuncId} (fn : Func) {args : List AVal} {h : Heap} {R : AVal → Heap → Prop}
 (hf : P.funcs[f]? = some fn) (hB : okB fn args.length = true)
 (hw : ∀ i2 c2 u1 cv mx mn ad sbt bn bq ba lnI gtI apI sbI stI rpI lnG gtG apG sbG stG rpG fi fb fs fl fg fc sln sgt sap ssb sc b2s s2b nd call calld callv callvd loop rfun fin,
   HK P h.length fn.ntmps i2 c2 u1 cv mx mn ad sbt bn bq ba lnI gtI apI sbI stI rpI lnG gtG apG sbG stG rpG fi fb fs fl fg fc sln sgt sap ssb sc b2s nd call calld callv callvd loop rfun fin →
   wpc ⟨i2, c2, u1, cv, mx, mn, ad, sbt, bn, bq, ba, lnI, gtI, apI, sbI, stI, rpI, lnG, gtG, apG, sbG, stG, rpG, fi, fb, fs, fl, fg, fc, sln, sgt, sap, ssb, sc, b2s, s2b, nd, call, calld, callv, callvd, loop, rfun, fin, fun _ => false, fun _ => false⟩ T M fn.ntmps (fn.body.getD .skip) ⟨args0 args, h⟩
    (endPost ⟨i2, c2, u1, cv, mx, mn, ad, sbt, bn, bq, ba, lnI, gtI, apI, sbI, stI, rpI, lnG, gtG, apG, sbG, stG, rpG, fi, fb, fs, fl, fg, fc, sln, sgt, sap, ssb, sc, b2s, s2b, nd, call, calld, callv, callvd, loop, rfun, fin, fun _ => false, fun _ => false⟩ T fn.results.toList R)) : Does P f args h R :=
 doesFr (fun _ => false) hP fn hf hB hw
theorem pure0 {P : Program} {f : FuncId} {args : List AVal} {v : AVal} (hd : Does P f args [] (Is v [])) (ha : lows 0 args = true) (hv : low 0 v = true) (h : Heap) : Does P f args h (Is v h) := frame0 hd ha hv h
theorem upto_step {p : Nat → Prop} {i : Int} (h0 : 0 ≤ i) (h : ∀ j, j < i.toNat → p j) (h1 : p i.toNat) : ∀ j, j < (i + 1).toNat → p j := fun j hj => by
 by_cases e : j = i.toNat
 ·subst e; exact h1
 ·exact h j (by omega)
theorem upto_zero {p : Nat → Prop} : ∀ j, j < (0 : Int).toNat → p j := fun j hj => by simp at hj
end Go.AL
/-
  AL: rounds: what a call of yield comes to, from the loop's body.
-/
set_option linter.unusedSectionVars false
set_option linter.unusedVariables false
set_option linter.unusedSimpArgs false
namespace Go.AL
open Go
def tmY (ps : List Tmp) (args : List AVal) (tm : Nat → AVal) : Nat → AVal := (ps.zip args).foldl (fun tm x => upd tm x.1 x.2) tm
theorem tmY_ok {e : Env} : ∀ (ps : List Tmp) (as : List AVal) (cs : List Value) (tm : Nat → AVal) (tmps : Array Value), as.length = cs.length → (∀ t ∈ ps, t < tmps.size) → (∀ i, i < as.length → VR e (as.getD i .junk) (cs.getD i undef)) →
 (∀ t, VR e (tm t) (tmps.getD t undef)) → (∀ t, VR e (tmY ps as tm t) (((ps.zip cs).foldl (fun tmps x => tmps.setIfInBounds x.1 x.2) tmps).getD t undef)) ∧ ((ps.zip cs).foldl (fun tmps x => tmps.setIfInBounds x.1 x.2) tmps).size = tmps.size
 | [], as, cs, tm, tmps, hl, hp, ha, ht => by simpa [tmY] using ht
 | p :: ps, [], [], tm, tmps, hl, hp, ha, ht => by simpa [tmY] using ht
 | p :: ps, [], c :: cs, tm, tmps, hl, hp, ha, ht => by simp at hl
 | p :: ps, a :: as, [], tm, tmps, hl, hp, ha, ht => by simp at hl
 | p :: ps, a :: as, c :: cs, tm, tmps, hl, hp, ha, ht => by
   have hps := hp p (by simp)
   have h1 := tmY_ok (e := e) ps as cs (upd tm p a) (tmps.setIfInBounds p c) (by simpa using hl) (fun t h => by rw [Array.size_setIfInBounds]; exact hp t (by simp [h])) (fun i hi => by simpa using ha (i + 1) (by simpa using hi)) (fun t => by
    rw [upd_get, Array.getD_eq_getD_getElem?, Array.getElem?_setIfInBounds]
    by_cases h : t = p
    ·subst h
     rw [if_pos rfl, if_pos rfl, if_pos hps]
     exact ha 0 (by simp)
    ·rw [if_neg h, if_neg (fun e => h e.symm)]
     have := ht t
     rwa [Array.getD_eq_getD_getElem?] at this)
   rw [Array.size_setIfInBounds] at h1
   exact h1
def rRound (i : Nat) (R : AVal → Heap → Prop) (x : Exit) (s : St) : Prop := match s.h[i]? with
 | some (.loop L) => match x with
   | .normal => R (.bool true) (s.h.set i (.loop ⟨.ready, none, L.ps, L.assign, L.body, L.nt, L.l⟩))
   | .ret => R (.bool false) (s.h.set i (.loop ⟨.done, some .ret, L.ps, L.assign, L.body, L.nt, L.l⟩))
   | .exit id => R (.bool false) (s.h.set i (.loop ⟨.done, some (.exit id), L.ps, L.assign, L.body, L.nt, L.l⟩))
   | _ => False
 | _ => False
def rBegin (i : Nat) (body : St → (Exit → St → Prop) → Prop) (R : AVal → Heap → Prop) (x : Exit) (s : St) : Prop := match x with
 | .normal => match s.h[i]? with
   | some (.loop L) => L.st = .ready ∧ body ⟨s.tm, s.h.set i (.loop ⟨.busy, L.pend, L.ps, L.assign, L.body, L.nt, L.l⟩)⟩ (rRound i R)
   | _ => False
 | _ => False
section
variable {P : Program} {T : Tab} {M : MTab} (hP : ProgOK P T M)
include hP
theorem yld_does {p : Pr} {h : Heap} {i : Nat} {L : LoopA} (hk : HooksOK P T M h.length L.nt p) {args : List AVal} {R : AVal → Heap → Prop} (hi : h[i]? = some (.loop L)) (hlen : args.length = L.ps.size)
 (hlt : L.ps.toList.all (fun t => Nat.blt t L.nt) = true) (hla : lexAll p.strict L.assign = true) (hlb : lexAll p.strict L.body = true) (hna : noRange L.assign = true) (hnb : noRange L.body = true)
 (hw : wpc p T M L.nt L.assign ⟨tmY L.ps.toList args (tmL L.l), h⟩ (rBegin i (wpc p T M L.nt L.body) R)) : DoesV P (.yld i) args h R := by
 intro e c cs hg he hv ha
 subst he
 obtain ⟨b, r, hs, hb, ⟨of1, of2, of3, of4, of5, of6⟩, htm⟩ := hg.obj i _ hi
 have hc : c = .func (.yield b) #[] #[] := by
  cases hv with
  | pure _ _ h => cases h
  | yld _ _ h1 h =>
    rw [hi] at h
    obtain ⟨l, h2, h3⟩ := h
    rw [hs] at h2
    cases h2
    exact h3
 subst hc
 have hsz : cs.size = r.params.size := by rw [of3, ← hlen, ha.len]
 have hrun := run_yield (P := P) hb hsz
 refine ⟨.round b r.fn ((r.params.zip cs).foldl (fun tmps (x : Tmp × Value) => tmps.setIfInBounds x.1 x.2) r.tmps) r.assign r.body, e.w, ?_, ?_⟩
 ·simp only [Deferred.ofValue, Sem.run_bind, Sem.run_pure, Result.andThen_ok, invoke]
  rw [show (#[] : Array Value) ++ cs = cs by simp]
  exact hrun
 ·have hall : ∀ t ∈ L.ps.toList, t < r.tmps.size := fun t ht => by
   have := List.all_eq_true.1 hlt t ht
   rw [of6]; simpa [Nat.blt_eq] using this
  obtain ⟨ht, hts⟩ := tmY_ok (e := e) L.ps.toList args cs.toList (tmL L.l) r.tmps (by simpa using ha.len) hall (fun j hj => by
   have := ha.rel j hj
   simpa using this) htm
  have hfold : (r.params.zip cs).foldl (fun tmps x => tmps.setIfInBounds x.1 x.2) r.tmps = (L.ps.toList.zip cs.toList).foldl (fun tmps x => tmps.setIfInBounds x.1 x.2) r.tmps := by
   rw [of3, ← Array.foldl_toList, Array.toList_zip]
  refine roundIn_of_wpIn trivial ?_
  have hsr : SR e L.nt ⟨tmY L.ps.toList args (tmL L.l), e.h⟩ e { tmps := (r.params.zip cs).foldl (fun tmps (x : Tmp × Value) => tmps.setIfInBounds x.1 x.2) r.tmps, defers := [] } := by
   refine ⟨hg, rfl, fun t => ?_, ?_, ⟨[], rfl, List.nodup_nil, fun D hD => by simp at hD⟩, .refl e, .refl _ e⟩
   ·show VR e _ (((r.params.zip cs).foldl (fun tmps (x : Tmp × Value) => tmps.setIfInBounds x.1 x.2) r.tmps).getD t undef)
    rw [hfold]; exact ht t
   ·show ((r.params.zip cs).foldl (fun tmps (x : Tmp × Value) => tmps.setIfInBounds x.1 x.2) r.tmps).size = _
    rw [hfold, hts, of6]
  have h1 := wpc_ok hP.tab hP.mtab hk.data hk.calls hP.mixed hk.loop hk.rfun L.assign hla (some b) (.inr hna) 0 _ e e _ _ hsr rfl hw
  rw [of4, of5]
  refine wpIn_mono h1 fun x a1 w1 ⟨s1, e1, k1, k2, k3⟩ => ?_
  subst k2
  cases x with
  | normal =>
    unfold rBegin at k1
    simp only at k1
    split at k1
    ·rename_i L1 hi1
     obtain ⟨hst, hbody⟩ := k1
     have hi1' : e1.h[i]? = some (.loop L1) := by rw [k3.heap]; exact hi1
     obtain ⟨b1, r1, hs1, hb1, of', htm1⟩ := k3.good.obj i _ hi1'
     have hil : i < e.h.length := (List.getElem?_eq_some_iff.1 hi).1
     have hbb : b1 = b := by
      obtain ⟨o', ho', hm⟩ := k3.ext.obj i _ hil hi
      rw [hi1'] at ho'
      cases ho'
      have hm : e1.sg i = e.sg i := hm
      rw [hs1, hs] at hm
      exact Option.some.inj hm
     subst hbb
     obtain ⟨g2, u2, x2⟩ := loop_put k3.good (r' := { r1 with state := .busy }) (o' := .loop ⟨.busy, L1.pend, L1.ps, L1.assign, L1.body, L1.nt, L1.l⟩) hi1' hs1 hb1 (.inr ⟨_, rfl, ⟨rfl, of'.2.1, of'.2.2.1, of'.2.2.2.1, of'.2.2.2.2.1, of'.2.2.2.2.2⟩, rfl, rfl⟩) htm1
     refine ⟨_, run_beginRound (P := P) hb1 (by rw [of'.1]; exact hst), ?_⟩
     have hsr2 : SR e L.nt ⟨s1.tm, s1.h.set i (.loop ⟨.busy, L1.pend, L1.ps, L1.assign, L1.body, L1.nt, L1.l⟩)⟩ ⟨e1.w.putObj b1 (.loop { r1 with state := .busy }), e1.sg, e1.h.set i (.loop ⟨.busy, L1.pend, L1.ps, L1.assign, L1.body, L1.nt, L1.l⟩), e1.ps⟩ a1 :=
      ⟨g2, by show e1.h.set i _ = _; rw [k3.heap], fun t => (k3.tm t).mono (Nat.le_refl _) x2, k3.size, k3.marks.step rfl u2, k3.upd.trans u2, Ext0 k3.ext x2⟩
     have h2 := wpc_ok hP.tab hP.mtab hk.data hk.calls hP.mixed hk.loop hk.rfun L.body hlb (some b1) (.inr hnb) 0 _ e _ a1 _ hsr2 rfl hbody
     refine wpIn_mono h2 fun x2' a2 w2 ⟨s3, e3, j1, j2, j3⟩ => ?_
     subst j2
     unfold rRound at j1
     split at j1
     ·rename_i L3 hi3
      have hi3' : e3.h[i]? = some (.loop L3) := by rw [j3.heap]; exact hi3
      obtain ⟨b3, r3, hs3, hb3, of3', htm3⟩ := j3.good.obj i _ hi3'
      have hb31 : b3 = b1 := by
       obtain ⟨o', ho', hm⟩ := j3.ext.obj i _ hil hi
       rw [hi3'] at ho'
       cases ho'
       have hm : e3.sg i = e.sg i := hm
       rw [hs3, hs] at hm
       exact Option.some.inj hm
      subst hb31
      have fin : ∀ (st : LoopState) (pend : Option Code) (v : Bool), R (.bool v) (s3.h.set i (.loop ⟨st, pend, L3.ps, L3.assign, L3.body, L3.nt, L3.l⟩)) → Post e R (.returned (.bool v)) (e3.w.putObj b3 (.loop { r3 with state := st, pending := pend })) := fun st pend v hR => by
       obtain ⟨g4, u4, x4⟩ := loop_put j3.good (r' := { r3 with state := st, pending := pend }) (o' := .loop ⟨st, pend, L3.ps, L3.assign, L3.body, L3.nt, L3.l⟩) hi3' hs3 hb3 (.inr ⟨_, rfl, ⟨rfl, rfl, of3'.2.2.1, of3'.2.2.2.1, of3'.2.2.2.2.1, of3'.2.2.2.2.2⟩, rfl, rfl⟩) htm3
       refine ⟨.bool v, _, ?_, rfl, g4, .pure _ _ (.bool _), j3.upd.trans u4, Ext0 j3.ext x4⟩
       show R (.bool v) (e3.h.set i _)
       rw [j3.heap]; exact hR
      cases x2' with
      | normal => exact ⟨_, _, run_endRound (P := P) none hb3, fin .ready none true j1⟩
      | ret => exact ⟨_, _, run_endRound (P := P) (some .ret) hb3, fin .done (some .ret) false j1⟩
      | exit id => exact ⟨_, _, run_endRound (P := P) (some (.exit id)) hb3, fin .done (some (.exit id)) false j1⟩
      | _ => exact j1.elim
     ·exact j1.elim
    ·exact k1.elim
  | _ => exact k1.elim
theorem doesYr (ρ : Nat → Bool) {h : Heap} (i : Nat) (L : LoopA) {args : List AVal} {R : AVal → Heap → Prop} (hi : h[i]? = some (.loop L)) (hlen : args.length = L.ps.size)
 (hB : (L.ps.toList.all (fun t => Nat.blt t L.nt) && (lexAll (fun _ => false) L.assign && lexAll (fun _ => false) L.body && (noRange L.assign && noRange L.body))) = true)
 (hw : ∀ i2 c2 u1 cv mx mn ad sbt bn bq ba lnI gtI apI sbI stI rpI lnG gtG apG sbG stG rpG fi fb fs fl fg fc sln sgt sap ssb sc b2s s2b nd call calld callv callvd loop rfun fin,
   HK P h.length L.nt i2 c2 u1 cv mx mn ad sbt bn bq ba lnI gtI apI sbI stI rpI lnG gtG apG sbG stG rpG fi fb fs fl fg fc sln sgt sap ssb sc b2s nd call calld callv callvd loop rfun fin →
   wpc ⟨i2, c2, u1, cv, mx, mn, ad, sbt, bn, bq, ba, lnI, gtI, apI, sbI, stI, rpI, lnG, gtG, apG, sbG, stG, rpG, fi, fb, fs, fl, fg, fc, sln, sgt, sap, ssb, sc, b2s, s2b, nd, call, calld, callv, callvd, loop, rfun, fin, ρ, fun _ => false⟩ T M L.nt L.assign ⟨tmY L.ps.toList args (tmL L.l), h⟩
    (rBegin i (wpc ⟨i2, c2, u1, cv, mx, mn, ad, sbt, bn, bq, ba, lnI, gtI, apI, sbI, stI, rpI, lnG, gtG, apG, sbG, stG, rpG, fi, fb, fs, fl, fg, fc, sln, sgt, sap, ssb, sc, b2s, s2b, nd, call, calld, callv, callvd, loop, rfun, fin, ρ, fun _ => false⟩ T M L.nt L.body) R)) : DoesV P (.yld i) args h R := by
 simp only [Bool.and_eq_true] at hB
 have hk := hooks_real P T M h.length L.nt ρ (fun _ => false)
 exact yld_does hP hk hi hlen hB.1 hB.2.1.1 hB.2.1.2 hB.2.2.1 hB.2.2.2 (hw _ _ _ _ _ _ _ _ _ _ _ _ _ _ _ _ _ _ _ _ _ _ _ _ _ _ _ _ _ _ _ _ _ _ _ _ _ _ _ _ _ _ _ _ (hk_of hk))
end
end Go.AL
/-
  AL: a contract's arguments told otherwise.
-/
namespace Go.AL
open Go
inductive WkL (h : Heap) : List AVal → List AVal → Prop
 | nil : WkL h [] []
 | cons {v v' : AVal} {r r' : List AVal} (h1 : Wk h v v') (h2 : WkL h r r') : WkL h (v :: r) (v' :: r')
theorem WkL.len {h : Heap} {l l' : List AVal} (hw : WkL h l l') : l.length = l'.length := by
 induction hw with
 | nil => rfl
 | cons _ _ ih => simp [ih]
theorem WkL.get {h : Heap} {l l' : List AVal} (hw : WkL h l l') : ∀ i, Wk h (l.getD i .junk) (l'.getD i .junk) := by
 induction hw with
 | nil => intro i; exact .refl _ _
 | cons h1 _ ih =>
   intro i
   cases i with
   | zero => exact h1
   | succ i => simpa using ih i
theorem Does.wk {P : Program} {f : FuncId} {args args' : List AVal} {h : Heap} {R : AVal → Heap → Prop} (hd : Does P f args' h R) (hw : WkL h args args') : Does P f args h R :=
 ⟨hd.1, fun e cs hg he ha => hd.2 e cs hg he ⟨hw.len.symm.trans ha.len, fun i hi => hw.get i e _ hg he (ha.rel i (by rw [hw.len]; exact hi))⟩⟩
end Go.AL
