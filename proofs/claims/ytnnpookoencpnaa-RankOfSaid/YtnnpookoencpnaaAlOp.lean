/-
  AL: one operation that is no call of a function, whatever it is.
-/
import Derived.Test.YtnnpookoencpnaaAlOps10
set_option linter.unusedSectionVars false
set_option linter.unusedVariables false
set_option linter.unusedSimpArgs false
namespace Go.AL
open Go

def ARokN (e : Env) (r : AR) (run : Result Next) : Prop := match r with
  | .ok v h => ∃ c w', (run = .ok (.value c) w' ∨ (run = .ok .skip w' ∧ c = undef)) ∧ Step e v h c w'
  | .need q v h => rNd q → ∃ c w', (run = .ok (.value c) w' ∨ (run = .ok .skip w' ∧ c = undef)) ∧ Step e v h c w'
  | .stuck => True
theorem ARok.value {e : Env} {r : AR} {s : Result Value} {n : Result Next} (h : ARok e r s) (hn : n = s.andThen fun c w => .ok (.value c) w) : ARokN e r n := by
  subst hn
  cases r with
  | ok v h' => obtain ⟨c, w', rfl, hs⟩ := h; exact ⟨c, w', .inl rfl, hs⟩
  | need q v h' => exact fun hq => by obtain ⟨c, w', rfl, hs⟩ := h hq; exact ⟨c, w', .inl rfl, hs⟩
  | stuck => trivial
theorem ARok.skip {e : Env} {r : AR} {s : Result Unit} {n : Result Next} (h : ARok e r (s.andThen fun _ w => .ok undef w)) (hn : n = s.andThen fun _ w => .ok .skip w) : ARokN e r n := by
  subst hn
  cases s with
  | ok u w =>
    cases r with
    | ok v h' =>
      obtain ⟨c, w', h1, hs⟩ := h
      obtain ⟨rfl, rfl⟩ := Result.ok.inj h1
      exact ⟨_, _, .inr ⟨rfl, rfl⟩, hs⟩
    | need q v h' =>
      exact fun hq => by
        obtain ⟨c, w', h1, hs⟩ := h hq
        obtain ⟨rfl, rfl⟩ := Result.ok.inj h1
        exact ⟨_, _, .inr ⟨rfl, rfl⟩, hs⟩
    | stuck => trivial
  | halt x w =>
    cases r with
    | ok v h' => obtain ⟨c, w', h1, hs⟩ := h; cases h1
    | need q v h' => exact fun hq => by obtain ⟨c, w', h1, hs⟩ := h hq; cases h1
    | stuck => trivial
theorem VR.const {e : Env} (v : Value) : VR e (evc v) v := by
  unfold evc
  split
  · exact .bool
  · exact .int
  · exact .str' rfl
  · exact .pure _ _ (.lsnil .nl .nil rfl trivial (.inr rfl))
  · exact .pure _ _ .nilf
  · exact .pure _ _ .nili
  · exact .pure _ _ .nilp
  · exact .pure _ _ (.junk _)
section
variable {e : Env} {P : Program} {T : Tab} (hT : TabOK P T) (hg : Good e) {p : Pr} (hp : DataOK p) {tm : Nat → AVal} {a : Act} (hr : ∀ t, VR e (tm t) (a.tmps.getD t undef))
include hr
theorem VR.ev (x : Operand) : VR e (ev tm x) (a.eval x) := by
  cases x with
  | tmp t => exact hr t
  | const v => exact .const v
  | global g => exact .pure _ _ (.junk _)
  | func f => exact .pure _ _ (.clo f [] [] #[] #[] rfl rfl (fun i hi => by simp at hi) (fun i hi => by simp at hi))
theorem PR.ev : ∀ (l : List (Nat × Operand)), PR e (l.map fun x => (x.1, Go.AL.ev tm x.2)) (l.map fun x => (x.1, a.eval x.2))
  | [] => .nil
  | (i, x) :: r => .cons i _ _ _ _ (VR.ev hr x) (PR.ev r)
theorem OptR.ev (x : Option Operand) : OptR e (x.map (Go.AL.ev tm)) (x.map a.eval) := by
  cases x with
  | none => exact .inl ⟨rfl, rfl⟩
  | some x => exact .inr ⟨_, _, rfl, rfl, VR.ev hr x⟩
omit hr in
theorem cnat_spec {x : Operand} {n : Nat} (h : cnat x = some n) : ∃ k, a.eval x = .int k n := by
  unfold cnat at h
  split at h
  · rename_i k m; cases h; exact ⟨k, rfl⟩
  · cases h
theorem cells_map (l : List Operand) : ∀ i, i < (l.map (Go.AL.ev tm)).length → VR e ((l.map (Go.AL.ev tm)).getD i .junk) ((l.map a.eval).toArray.getD i undef) := fun i hi => by
  simp at hi
  have := VR.ev hr l[i]
  simpa [List.getD, hi] using this
include hT hg hp
theorem aop_ok (o : Oper) : ARokN e (aop p T tm e.h o.op) ((execOp a.eval o).run P e.w) := by
  unfold aop
  cases hop : o.op with
  | move x => exact ⟨a.eval x, e.w, .inl (by simp [execOp, hop]), .same hg (VR.ev hr x)⟩
  | assign x => exact ⟨a.eval x, e.w, .inl (by simp [execOp, hop]), .same hg (VR.ev hr x)⟩
  | pick c x y =>
    simp only
    split
    · rename_i b hb
      have := VR.ev hr c
      rw [hb] at this
      have := this.bool_inv
      split
      · exact ⟨a.eval x, e.w, .inl (by simp [execOp, hop, this, asBool]), .same hg (VR.ev hr x)⟩
      · exact ⟨a.eval y, e.w, .inl (by simp [execOp, hop, this, asBool]), .same hg (VR.ev hr y)⟩
    · trivial
  | alloc t => exact (aAlloc_ok hT hg).value (by simp [execOp, hop])
  | box t v => exact (aBox_ok hT hg (VR.ev hr v) t).value (by simp [execOp, hop])
  | build t ps => exact (aBuild_ok hT hg (qs := ps.map fun (i, x) => (i, a.eval x)) (by simpa using PR.ev hr ps.toList)).value (by simp [execOp, hop])
  | buildSlice t n ps => exact (aBuildSlice_ok hT hg (qs := ps.map fun (i, x) => (i, a.eval x)) (by simpa using PR.ev hr ps.toList)).value (by simp [execOp, hop])
  | load t x => exact (aLoad_ok hT hg hp (VR.ev hr x)).value (by simp [execOp, hop])
  | store t x v => exact (aStore_ok hT hg hp (VR.ev hr x) (VR.ev hr v)).skip (by simp [execOp, hop])
  | nilCheck x =>
    have := aNil_ok hg (VR.ev hr x) (o := o) (ρ := a.eval) (y := x) hop rfl (P := P)
    simp only
    revert this
    cases haN : aNil (Go.AL.ev tm x) e.h with
    | ok v h =>
      rintro ⟨rfl, rfl, hrun⟩
      exact ⟨a.eval x, e.w, .inl hrun, .same hg (VR.ev hr x)⟩
    | need => exact fun h => h.elim
    | stuck => exact fun _ => trivial
  | binOp op t x y ty => exact (aBin_ok hT hg hp (VR.ev hr x) (VR.ev hr y) x y).value (by
      simp only [execOp, hop, Sem.run_bind, Sem.run_pure]
      first | done | (generalize (eqGuard op t x y (a.eval x) (a.eval y)).run P e.w = r; cases r <;> rfl))
  | unOp op t x => exact (aUn_ok hT hg hp (VR.ev hr x)).value (by simp [execOp, hop])
  | convert s d x => exact (aConv_ok hT hg hp (VR.ev hr x)).value (by simp [execOp, hop])
  | makeInterface t x => exact (aMkI_ok hT hg hp (VR.ev hr x)).value (by simp [execOp, hop])
  | makeFunc fn first caps =>
    simp only
    split
    · rename_i f
      refine ⟨.func (.func f) (first.map a.eval) (caps.map a.eval), e.w, .inl (by simp [execOp, hop, Instr.makeFunc]), .same hg ?_⟩
      refine .clo f _ _ _ _ (by simp) (by simp) (fun i hi => ?_) (fun i hi => ?_)
      · have := cells_map hr first.toList i hi
        simpa using this
      · have := cells_map hr caps.toList i hi
        simpa using this
    · trivial
  | makeSlice t l c =>
    refine (aMkS_ok hT hg hp (VR.ev hr l) (VR.ev hr c) ?_).value (by simp [execOp, hop])
    intro h
    split at h
    · rw [Nat.eq_of_beq_eq_true h]
    · cases h
  | slice t x lo hi mx =>
    cases mx with
    | none => exact (aSlice_ok hT hg hp (VR.ev hr x) (OptR.ev hr lo) (OptR.ev hr hi) (.inl ⟨rfl, rfl⟩)).value (by simp [execOp, hop])
    | some m =>
      cases hi with
      | none => trivial
      | some b =>
        refine (aSlice3_ok hT hg hp (VR.ev hr x) (OptR.ev hr lo) (VR.ev hr b) (VR.ev hr m) (fun h => ?_)).value (by simp [execOp, hop])
        unfold sameOp at h
        split at h
        · rw [Nat.eq_of_beq_eq_true h]; exact .inl rfl
        · split at h
          · rename_i n hn
            split at h
            · rename_i m' hm
              rw [Nat.eq_of_beq_eq_true h] at hn
              obtain ⟨k1, e1⟩ := cnat_spec (a := a) hn
              obtain ⟨k2, e2⟩ := cnat_spec (a := a) hm
              exact .inr ⟨k1, k2, m', e1, e2⟩
            · cases h
          · cases h
  | fieldAddr s x f => exact (aFieldAddr_ok hT hg hp (VR.ev hr x)).value (by simp [execOp, hop])
  | field s x f => exact (aField_ok hT hg hp (VR.ev hr x)).value (by simp [execOp, hop])
  | indexAddr t x i => exact (aIndexAddr_ok hT hg hp (VR.ev hr x) (VR.ev hr i) (fun n h => cnat_spec h)).value (by simp [execOp, hop])
  | index t x i => exact (aIndex_ok hT hg hp (VR.ev hr x) (VR.ev hr i) (fun n h => cnat_spec h)).value (by simp [execOp, hop])
  | extract x i => exact (aExtract_ok hT hg hp (VR.ev hr x)).value (by simp [execOp, hop])
  | typeAssert x xt t ok => exact (aAssert_ok hT hg hp (t := xt) (VR.ev hr x)).value (by simp [execOp, hop])
  | call c =>
    obtain ⟨callee, args, ats⟩ := c
    simp only
    split
    · rename_i b
      have two : ∀ {x y : AVal}, args.toList.map (Go.AL.ev tm) = [x, y] → ∃ u v, args = #[u, v] ∧ Go.AL.ev tm u = x ∧ Go.AL.ev tm v = y := fun {x y} h => by
        match hl : args.toList, h with
        | [u, v], h =>
          simp only [List.map_cons, List.map_nil, List.cons.injEq, and_true] at h
          exact ⟨u, v, by rw [← Array.toArray_toList (xs := args), hl], h.1, h.2⟩
      have one : ∀ {x : AVal}, args.toList.map (Go.AL.ev tm) = [x] → ∃ u, args = #[u] ∧ Go.AL.ev tm u = x := fun {x} h => by
        match hl : args.toList, h with
        | [u], h =>
          simp only [List.map_cons, List.map_nil, List.cons.injEq, and_true] at h
          exact ⟨u, by rw [← Array.toArray_toList (xs := args), hl], h⟩
      unfold aBuiltin
      split
      · split
        · rename_i t x h1 h2
          have h1 : ats = #[t] := by rw [← Array.toArray_toList (xs := ats), h1]
          obtain ⟨u, h2', rfl⟩ := one h2
          clear h2
          have h2 := h2'
          subst h1; subst h2
          exact (aLen_ok hT hg hp (VR.ev hr u) o.type).value (by simp [execOp, hop, resolve, invoke, builtin])
        · trivial
      · split
        · rename_i x y h2
          obtain ⟨u, v, h2', rfl, rfl⟩ := two h2
          clear h2
          have h2 := h2'
          subst h2
          exact (aMax_ok hT hg hp (VR.ev hr u) (VR.ev hr v) ats o.type).value (by simp [execOp, hop, resolve, invoke, builtin])
        · trivial
      · split
        · rename_i x y h2
          obtain ⟨u, v, h2', rfl, rfl⟩ := two h2
          clear h2
          have h2 := h2'
          subst h2
          exact (aMin_ok hT hg hp (VR.ev hr u) (VR.ev hr v) ats o.type).value (by simp [execOp, hop, resolve, invoke, builtin])
        · trivial
      · split
        · rename_i t t2 x y h1 h2
          have h1 : ats = #[t, t2] := by rw [← Array.toArray_toList (xs := ats), h1]
          obtain ⟨u, v, h2', rfl, rfl⟩ := two h2
          clear h2
          have h2 := h2'
          subst h1; subst h2
          exact (aCopy_ok hT hg hp (t2 := t2) o.type (VR.ev hr u) (VR.ev hr v)).value (by simp [execOp, hop, resolve, invoke, builtin])
        · trivial
      · split
        · rename_i t x h1 h2
          have h1 : ats = #[t] := by rw [← Array.toArray_toList (xs := ats), h1]
          obtain ⟨u, h2', rfl⟩ := one h2
          clear h2
          have h2 := h2'
          subst h1; subst h2
          exact (aClear_ok hT hg hp o.type (VR.ev hr u)).value (by simp [execOp, hop, resolve, invoke, builtin])
        · trivial
      · split
        · rename_i t t2 x y h1 h2
          have h1 : ats = #[t, t2] := by rw [← Array.toArray_toList (xs := ats), h1]
          obtain ⟨u, v, h2', rfl, rfl⟩ := two h2
          clear h2
          have h2 := h2'
          subst h1; subst h2
          exact (aAppend_tok_ok hT hg hp o.type (VR.ev hr u) (VR.ev hr v)).value (by simp [execOp, hop, resolve, invoke, builtin])
        · trivial
      · trivial
    · trivial
  | _ => trivial
end
end Go.AL
