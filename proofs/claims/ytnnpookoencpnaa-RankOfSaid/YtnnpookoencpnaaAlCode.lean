/-
  AL: contracts; one operation with its guard; regions in the order of the text; code.
-/
import Derived.Test.YtnnpookoencpnaaAlOp
import Derived.RangeFuncLeaves
set_option linter.unusedSectionVars false
set_option linter.unusedVariables false
set_option linter.unusedSimpArgs false
namespace Go.AL
open Go

/-- Arguments, one by one. -/
structure ArgsR (e : Env) (l : List AVal) (cs : Array Value) : Prop where
  len : l.length = cs.size
  rel : ∀ i, i < l.length → VR e (l.getD i .junk) (cs.getD i undef)
theorem ArgsR.append {e : Env} {l l' : List AVal} {cs cs' : Array Value} (h : ArgsR e l cs) (h' : ArgsR e l' cs') : ArgsR e (l ++ l') (cs ++ cs') := by
  refine ⟨by simp [h.len, h'.len], fun i hi => ?_⟩
  rw [List.length_append] at hi
  have e1 := h.len
  simp only [List.getD, Array.getD_eq_getD_getElem?, List.getElem?_append, Array.getElem?_append]
  by_cases i1 : i < l.length
  · rw [if_pos i1, if_pos (by omega)]
    have := h.rel i i1
    simpa [List.getD, Array.getD_eq_getD_getElem?] using this
  · rw [if_neg i1, if_neg (by omega), ← e1]
    have := h'.rel (i - l.length) (by omega)
    simpa [List.getD, Array.getD_eq_getD_getElem?] using this
theorem VR.clo_inv {e : Env} {g : FuncId} {fs cs : List AVal} {c : Value} (h : VR e (.clo (.func g) fs cs) c) : ∃ gs ds, c = .func (.func g) gs ds ∧ ArgsR e fs gs ∧ ArgsR e cs ds := by
  cases h with
  | pure _ _ hf => cases hf with
    | clo _ _ _ gs ds h1 h2 h3 h4 => exact ⟨gs, ds, rfl, ⟨h1, fun i hi => .pure _ _ (h3 i hi)⟩, ⟨h2, fun i hi => .pure _ _ (h4 i hi)⟩⟩
  | clo _ _ _ gs ds h1 h2 h3 h4 => exact ⟨gs, ds, rfl, ⟨h1, h3⟩, ⟨h2, h4⟩⟩
/-- What a call's end says. -/
def Post (e : Env) (R : AVal → Heap → Prop) : Ending → World → Prop
  | .returned c, w' => ∃ r e', R r e'.h ∧ e'.w = w' ∧ Good e' ∧ VR e' r c ∧ Upd e e' ∧ Ext e.h.length e e'
  | _, _ => False
def Enters (P : Program) (f : FuncId) : Prop := ∃ fn, P.funcs[f]? = some fn ∧ (fn.name == "runtime.NumGoroutine") = false ∧ fn.body.isNone = false
/-- A CONTRACT: called with these, over this heap, it returns what R takes. -/
def Does (P : Program) (f : FuncId) (args : List AVal) (h : Heap) (R : AVal → Heap → Prop) : Prop :=
  Enters P f ∧ ∀ (e : Env) (cs : Array Value), Good e → e.h = h → ArgsR e args cs → Calls P f cs e.w (Post e R)
theorem Post.mono {e : Env} {R R' : AVal → Heap → Prop} (h : ∀ r h', R r h' → R' r h') : ∀ en w, Post e R en w → Post e R' en w
  | .returned c, w, ⟨r, e', h1, h2⟩ => ⟨r, e', h _ _ h1, h2⟩
theorem Does.mono {P : Program} {f : FuncId} {args : List AVal} {h : Heap} {R R' : AVal → Heap → Prop} (hs : Does P f args h R) (hr : ∀ r h', R r h' → R' r h') : Does P f args h R' :=
  ⟨hs.1, fun e cs hg he ha => (hs.2 e cs hg he ha).mono (Post.mono hr)⟩
/-- What a function value's call comes to. -/
def InvV (P : Program) (c : Value) (cs : Array Value) (w : World) (R : Ending → World → Prop) : Prop :=
  ∃ nx w', (do let d ← Deferred.ofValue c cs; invoke d.target d.args : Sem Next).run P w = .ok nx w' ∧ (match nx with
    | .enter f as_ => Calls P f as_ w' R
    | .round l f tmps assign body => RoundIn Fence.wide 0 P l f tmps assign body w' R
    | _ => False)
def DoesV (P : Program) (v : AVal) (args : List AVal) (h : Heap) (R : AVal → Heap → Prop) : Prop :=
  ∀ (e : Env) (c : Value) (cs : Array Value), Good e → e.h = h → VR e v c → ArgsR e args cs → InvV P c cs e.w (Post e R)
theorem InvV.mono {P : Program} {c : Value} {cs : Array Value} {w : World} {R R' : Ending → World → Prop} (h : InvV P c cs w R) (hr : ∀ en w, R en w → R' en w) : InvV P c cs w R' := by
  obtain ⟨nx, w', h1, h2⟩ := h
  refine ⟨nx, w', h1, ?_⟩
  cases nx <;> simp only at h2 ⊢
  · exact Calls.mono h2 hr
  · exact RoundIn.mono h2 hr
theorem DoesV.mono {P : Program} {v : AVal} {args : List AVal} {h : Heap} {R R' : AVal → Heap → Prop} (hs : DoesV P v args h R) (hr : ∀ r h', R r h' → R' r h') : DoesV P v args h R' :=
  fun e c cs hg he hv ha => (hs e c cs hg he hv ha).mono (Post.mono hr)
theorem run_callFunc {P : Program} {f : FuncId} (h : Enters P f) (as_ : Array Value) (w : World) : (callFunc f as_).run P w = .ok (.enter f as_) w := by
  obtain ⟨fn, h1, h2, h3⟩ := h
  simp only [callFunc, Sem.run_bind, run_program, Result.andThen_ok, h1, h2, h3, Bool.false_eq_true, if_false, Sem.run_pure]

/-! ### The state of an activation -/
def mark_ (D : Nat) : Deferred := { target := .collected D, args := #[] }
/-- The marks of loops over functions that have ended. -/
structure Marks (e0 e : Env) (a : Act) : Prop where
  ex : ∃ dl : List Nat, a.defers = dl.map mark_ ∧ dl.Nodup ∧ ∀ D ∈ dl, e0.w.heap.size ≤ D ∧ e.w.heap[D]? = some (.deferred (some [])) ∧ ¬ Owned e D
structure SR (e0 : Env) (nt : Nat) (s : St) (e : Env) (a : Act) : Prop where
  good : Good e
  heap : e.h = s.h
  tm : ∀ t, VR e (s.tm t) (a.tmps.getD t undef)
  size : a.tmps.size = nt
  marks : Marks e0 e a
  upd : Upd e0 e
  ext : Ext e0.h.length e0 e
theorem Marks.step {e0 e e' : Env} {a a' : Act} (h : Marks e0 e a) (hd : a'.defers = a.defers) (hu : Upd e e') : Marks e0 e' a' := by
  obtain ⟨dl, h1, h2, h3⟩ := h.ex
  refine ⟨dl, hd.trans h1, h2, fun D hD => ?_⟩
  obtain ⟨k1, k2, k3⟩ := h3 D hD
  have hlt : D < e.w.heap.size := (Array.getElem?_eq_some_iff.1 k2).1
  refine ⟨k1, ((hu.frame D hlt k3).1).trans k2, fun ho => ?_⟩
  rcases hu.own D ho with h | h
  · exact k3 h
  · omega
theorem Ext0 {e0 e e' : Env} (h : Ext e0.h.length e0 e) (k : Ext e.h.length e e') : Ext e0.h.length e0 e' where
  obj := fun i o hi ho => by
    obtain ⟨o1, h1, m1⟩ := h.obj i o hi ho
    have : i < e.h.length := (List.getElem?_eq_some_iff.1 h1).1
    obtain ⟨o2, h2, m2⟩ := k.obj i o1 this h1
    exact ⟨o2, h2, m1.trans m2⟩
  ps := fun b => Nat.le_trans (h.ps b) (k.ps b)
  cell := fun b o ho => (k.cell b o (Nat.lt_of_lt_of_le ho (h.ps b))).trans (h.cell b o ho)
  size := fun b => Nat.le_trans (h.size b) (k.size b)
theorem put_get {a : Act} {d : Nat} {c : Value} (hd : d < a.tmps.size) (t : Nat) : (a.put (some d) c).tmps.getD t undef = if t = d then c else a.tmps.getD t undef := by
  simp only [Act.put, Array.getD_eq_getD_getElem?, Array.getElem?_setIfInBounds]
  by_cases h : d = t
  · subst h; simp [hd]
  · rw [if_neg h, if_neg (fun e => h e.symm)]
theorem upd_get (tm : Nat → AVal) (d : Nat) (v : AVal) (t : Nat) : upd tm d v t = if t = d then v else tm t := by
  unfold upd
  cases h : Nat.beq t d
  · rw [if_neg (fun e => by subst e; simp at h)]
  · rw [if_pos (Nat.eq_of_beq_eq_true h)]
/-- An operation done, its value put. -/
theorem SR.put {e0 : Env} {nt : Nat} {s : St} {e : Env} {a : Act} (h : SR e0 nt s e a) {v : AVal} {h' : Heap} {c : Value} {w' : World} (hs : Step e v h' c w') {d : Option Nat} {K : St → Prop} (hk : putK nt s d v h' K) :
    ∃ s' e', K s' ∧ e'.w = w' ∧ SR e0 nt s' e' (a.put d c) := by
  obtain ⟨e', hg, hh, hw, hv, hu, hx⟩ := hs
  have htm : ∀ t, VR e' (s.tm t) (a.tmps.getD t undef) := fun t => (h.tm t).mono (Nat.le_refl _) hx
  cases d with
  | none => exact ⟨⟨s.tm, h'⟩, e', hk, hw, hg, hh, htm, h.size, h.marks.step rfl hu, h.upd.trans hu, Ext0 h.ext hx⟩
  | some d =>
    unfold putK at hk
    simp only at hk
    split at hk
    · rename_i hlt
      have hlt : d < nt := by simpa using hlt
      refine ⟨_, e', hk, hw, hg, hh, fun t => ?_, ?_, h.marks.step rfl hu, h.upd.trans hu, Ext0 h.ext hx⟩
      · show VR e' (Go.AL.upd s.tm d v t) _
        rw [upd_get, put_get (by rw [h.size]; exact hlt)]
        split
        · exact hv
        · exact htm t
      · simp [Act.put, h.size]
    · exact hk.elim
abbrev Fw (ro : Option Nat) : Fence := { Fence.wide with round := ro }
/-- What holds of a state, said of an activation. -/
def Lift (e0 : Env) (nt : Nat) (K : St → Prop) : Act → World → Prop := fun a w => ∃ s e, K s ∧ e.w = w ∧ SR e0 nt s e a
def LiftX (e0 : Env) (nt : Nat) (Q : Exit → St → Prop) : Exit → Act → World → Prop := fun x a w => ∃ s e, Q x s ∧ e.w = w ∧ SR e0 nt s e a

section
variable (P : Program)
def realCalld (f : FuncId) (args : List AVal) (h : Heap) (K : AVal → Prop) : Prop := ∃ r, Does P f args h (fun r' h' => r' = r ∧ h' = h) ∧ K r
def realCallvd (v : AVal) (args : List AVal) (h : Heap) (K : AVal → Prop) : Prop := ∃ r, DoesV P v args h (fun r' h' => r' = r ∧ h' = h) ∧ K r
end
/-- The call hooks are the real ones. -/
structure CallOK (P : Program) (p : Pr) : Prop where
  call : p.call = Does P
  calld : p.calld = realCalld P
  callv : p.callv = DoesV P
  callvd : p.callvd = realCallvd P
/-- The methods off the table. -/
def MTabOK (P : Program) (T : Tab) (M : MTab) : Prop := ∀ t m f d, M.get? t m = some (f, d) → ∀ (v : Value) (w : World), match d with
  | none => (method (P.types.size + Made.depth) t v m).run P w = .ok (f, v) w
  | some u => ∀ r, (Instr.loadAt u v).run P w = .ok r w → (method (P.types.size + Made.depth) t v m).run P w = .ok (f, r) w

section
variable {P : Program} {T : Tab} {M : MTab} (hT : TabOK P T) (hM : MTabOK P T M) {p : Pr} (hp : DataOK p) (hc : CallOK P p) {e0 : Env} {nt : Nat} {ro : Option Nat} {n : Nat}
include hT hM hp hc
theorem call_post {s : St} {e : Env} {a : Act} (h : SR e0 nt s e a) {d : Option Nat} {K : St → Prop} {R : AVal → Heap → Prop} (hR : ∀ r h', R r h' → putK nt s d r h' K) {Q : Exit → Act → World → Prop} :
    ∀ en w, Post e R en w → (match en, w with
      | .returned v, w'' => Lift e0 nt K (a.put d v) w''
      | .panicked chain, w'' => Q (.panic chain) a w''
      | .outgrown, _ => LetsOut Q)
  | .returned c, w, ⟨r, e', h1, h2, h3, h4, h5, h6⟩ => by
    obtain ⟨s', e2, k1, k2, k3⟩ := h.put (d := d) (K := K) (c := c) (w' := w) (v := r) (h' := e'.h) ⟨e', h3, rfl, h2, h4, h5, h6⟩ (hR _ _ h1)
    exact ⟨s', e2, k1, k2, k3⟩
theorem args_ok {s : St} {e : Env} {a : Act} (h : SR e0 nt s e a) (l : Array Operand) : ArgsR e (l.toList.map (ev s.tm)) (l.map a.eval) :=
  ⟨by simp, fun i hi => by have := cells_map h.tm l.toList i hi; simpa using this⟩
theorem spec_calls {f : FuncId} {args : List AVal} {hh : Heap} {R : AVal → Heap → Prop} (hs : Does P f args hh R) {e : Env} {cs : Array Value} (hg : Good e) (he : e.h = hh) (ha : ArgsR e args cs) : CallsIn (Fw ro) (n - 1) P f cs e.w (Post e R) :=
  callsIn_wide.2 (hs.2 e cs hg he ha)
/-- A call of a function, as the machine makes it. -/
theorem enter_ok {s : St} {e : Env} {a : Act} (h : SR e0 nt s e a) {o : Oper} {f : FuncId} {cs : Array Value} (hrun : (o.semAt ro a.eval).run P e.w = .ok (.enter f cs) e.w) {args : List AVal} (ha : ArgsR e args cs) {R : AVal → Heap → Prop} (hs : Does P f args s.h R)
    {K : St → Prop} (hR : ∀ r h', R r h' → putK nt s o.dst r h' K) {Q : Exit → Act → World → Prop} : o.wpIn (Fw ro) n P a e.w (Lift e0 nt K) Q := by
  refine ⟨fun _ _ => trivial, ?_⟩
  show o.uponIn _ _ _ _ _ _ ((o.semAt ro a.eval).run P e.w)
  rw [hrun]
  refine ⟨fun hd => by simp [Fence.wide] at hd, ?_⟩
  refine (spec_calls hT hM hp hc hs h.good h.heap ha).mono ?_
  exact call_post hT hM hp hc h hR
theorem invV_ok {s : St} {e : Env} {a : Act} (h : SR e0 nt s e a) {o : Oper} {c : Value} {cs : Array Value} (hrun : (o.semAt ro a.eval).run P e.w = (do let d ← Deferred.ofValue c cs; invoke d.target d.args : Sem Next).run P e.w)
    {R : AVal → Heap → Prop} (hs : InvV P c cs e.w (Post e R)) {K : St → Prop} (hR : ∀ r h', R r h' → putK nt s o.dst r h' K) {Q : Exit → Act → World → Prop} : o.wpIn (Fw ro) n P a e.w (Lift e0 nt K) Q := by
  refine ⟨fun _ _ => trivial, ?_⟩
  show o.uponIn _ _ _ _ _ _ ((o.semAt ro a.eval).run P e.w)
  rw [hrun]
  obtain ⟨nx, w', h1, h2⟩ := hs
  rw [h1]
  cases nx <;> simp only at h2 <;> try exact h2.elim
  · refine ⟨fun hd => by simp [Fence.wide] at hd, ?_⟩
    have h3 : CallsIn (Fw ro) (n - 1) P _ _ w' (Post e R) := callsIn_wide.2 h2
    exact h3.mono (call_post hT hM hp hc h hR)
  · refine ⟨fun hd => by simp [Fence.wide] at hd, ?_⟩
    have h3 : RoundIn (Fw ro) (n - 1) P _ _ _ _ _ w' (Post e R) := ⟨trivial, fun c cs _ => h2.2 c cs (room_wide _)⟩
    exact h3.mono (call_post hT hM hp hc h hR)
theorem semAt_call {a : Act} {o : Oper} {c : Call} (ho : o.op = .call c) : o.semAt ro a.eval = (do let d ← resolve a.eval c o.type; invoke d.target d.args : Sem Next) := by
  rw [Oper.semAt_eq _ _ _ (fun c' h => by rw [ho] at h; cases h)]
  simp only [execOp, ho]
/-- ONE OPERATION. -/
theorem wpo_ok {dr : Bool} {s : St} {e : Env} {a : Act} (h : SR e0 nt s e a) {o : Oper} {K : St → Prop} (hw : wpo p T M nt dr s o K) {Q : Exit → Act → World → Prop} : o.wpIn (Fw ro) n P a e.w (Lift e0 nt K) Q := by
  have plain : (match aop p T s.tm s.h o.op with
      | .ok v h => putK nt s o.dst v h K
      | .need q v h => p.nd q ∧ putK nt s o.dst v h K
      | .stuck => False) → (∀ c, o.op ≠ .defer c) → o.wpIn (Fw ro) n P a e.w (Lift e0 nt K) Q := fun hw hnd => by
    have hop := aop_ok hT h.good hp h.tm o
    rw [h.heap] at hop
    refine ⟨fun _ _ => trivial, ?_⟩
    show o.uponIn _ _ _ _ _ _ ((o.semAt ro a.eval).run P e.w)
    rw [Oper.semAt_eq _ _ _ hnd]
    have fin : ∀ v h', putK nt s o.dst v h' K → (∃ c w', ((execOp a.eval o).run P e.w = .ok (.value c) w' ∨ ((execOp a.eval o).run P e.w = .ok .skip w' ∧ c = undef)) ∧ Step e v h' c w') →
        o.uponIn (Fw ro) n P a (Lift e0 nt K) Q ((execOp a.eval o).run P e.w) := fun v h' hk ⟨c, w', hr, hs⟩ => by
      obtain ⟨s', e', k1, k2, k3⟩ := h.put hs hk
      rcases hr with hr | ⟨hr, rfl⟩ <;> rw [hr] <;> exact ⟨s', e', k1, k2, k3⟩
    revert hw hop
    cases aop p T s.tm s.h o.op with
    | ok v h' => exact fun hw hop => fin v h' hw hop
    | need q v h' => exact fun hw hop => fin v h' hw.2 (hop (by have := hw.1; rwa [hp.nd] at this))
    | stuck => exact fun hw => hw.elim
  unfold wpo at hw
  split at hw
  · rename_i c ho
    split at hw
    · rename_i f hcal
      have hrun := semAt_call hT hM hp hc (ro := ro) (a := a) ho
      have hf := VR.ev h.tm f
      split at hw
      · -- a function that is known
        rename_i g first caps hev
        rw [hev] at hf
        obtain ⟨gs, ds, hval, r1, r2⟩ := hf.clo_inv
        have hargs := args_ok hT hM hp hc h c.args
        have hall : ArgsR e (first ++ c.args.toList.map (ev s.tm) ++ caps) (gs ++ c.args.map a.eval ++ ds) := (r1.append hargs).append r2
        have hent : Enters P g → (o.semAt ro a.eval).run P e.w = .ok (.enter g (gs ++ c.args.map a.eval ++ ds)) e.w := fun hE => by
          rw [hrun]
          obtain ⟨callee, as_, ats⟩ := c
          simp only at hcal
          subst hcal
          simp only [resolve, hval, Deferred.ofValue, Sem.run_bind, Sem.run_pure, Result.andThen_ok, invoke, run_callFunc hE]
        split at hw
        · rw [hc.call] at hw
          exact enter_ok hT hM hp hc h (hent hw.1) hall hw (fun r h' hr => hr)
        · rw [hc.calld] at hw
          obtain ⟨r, hs, hk⟩ := hw
          exact enter_ok hT hM hp hc h (hent hs.1) hall hs (fun r' h' hr => by obtain ⟨rfl, rfl⟩ := hr; exact hk)
      · -- a function value
        rename_i v hne
        have hinv : (o.semAt ro a.eval).run P e.w = (do let d ← Deferred.ofValue (a.eval f) (c.args.map a.eval); invoke d.target d.args : Sem Next).run P e.w := by
          rw [hrun]
          obtain ⟨callee, as_, ats⟩ := c
          simp only at hcal
          subst hcal
          rfl
        have hargs := args_ok hT hM hp hc h c.args
        split at hw
        · rw [hc.callv] at hw
          exact invV_ok hT hM hp hc h hinv (hw e _ _ h.good h.heap hf hargs) (fun r h' hr => hr)
        · rw [hc.callvd] at hw
          obtain ⟨r, hs, hk⟩ := hw
          exact invV_ok hT hM hp hc h hinv (hs e _ _ h.good h.heap hf hargs) (fun r' h' hr => by obtain ⟨rfl, rfl⟩ := hr; exact hk)
    · -- a method, through an interface
      rename_i r name hcal
      have hrun := semAt_call hT hM hp hc (ro := ro) (a := a) ho
      have hf := VR.ev h.tm r
      split at hw
      · rename_i f x hrec
        have hshape : ∃ t v c' y, ev s.tm r = .iface t v ∧ a.eval r = .iface t c' ∧ VR e x y ∧ (method (P.types.size + Made.depth) t c' name).run P e.w = .ok (f, y) e.w := by
          cases hev : ev s.tm r <;> rw [hev] at hrec <;> simp only [recvA] at hrec <;> try cases hrec
          rename_i t v
          rw [hev] at hf
          obtain ⟨c', hc', hv⟩ := hf.iface_inv
          cases hm : MTab.get? M t name with
          | none => rw [hm] at hrec; cases hrec
          | some fd =>
            obtain ⟨f', d⟩ := fd
            rw [hm] at hrec
            have hm2 := hM _ _ _ _ hm c' e.w
            cases d with
            | none =>
              cases hrec
              exact ⟨t, _, c', c', rfl, hc', hv, hm2⟩
            | some u =>
              simp only at hrec hm2
              have hl := aLoad_keep hT h.good hp (t := u) hv
              rw [h.heap] at hl
              split at hrec
              · rename_i x' hx hld
                cases hrec
                rw [hld] at hl
                obtain ⟨_, y, hr, hy⟩ := hl
                exact ⟨t, _, c', y, rfl, hc', hy, hm2 y hr⟩
              · cases hrec
        obtain ⟨t, v, c', y, hev, hval, hxy, hmeth⟩ := hshape
        have hargs := args_ok hT hM hp hc h c.args
        have hone : ArgsR e [x] #[y] := ⟨rfl, fun i hi => by
          have : i = 0 := by simp at hi; omega
          subst this; exact hxy⟩
        have hall : ArgsR e (x :: c.args.toList.map (ev s.tm)) (#[y] ++ c.args.map a.eval) := hone.append hargs
        have hent : Enters P f → (o.semAt ro a.eval).run P e.w = .ok (.enter f (#[y] ++ c.args.map a.eval)) e.w := fun hE => by
          rw [hrun]
          obtain ⟨callee, as_, ats⟩ := c
          simp only at hcal
          subst hcal
          simp only [resolve, hval, Sem.run_bind, Sem.run_pure, Result.andThen_ok, invoke]
          generalize has : as_.map a.eval = ar
          have e1 : #[Value.iface t c'] ++ ar = ((Value.iface t c') :: ar.toList).toArray := by simp
          rw [e1]
          simp [callMethod, hmeth, run_callFunc hE]
          exact List.take_of_length_le (by simp)
        split at hw
        · rw [hc.call] at hw
          exact enter_ok hT hM hp hc h (hent hw.1) hall hw (fun r h' hr => hr)
        · rw [hc.calld] at hw
          obtain ⟨r, hs, hk⟩ := hw
          exact enter_ok hT hM hp hc h (hent hs.1) hall hs (fun r' h' hr => by obtain ⟨rfl, rfl⟩ := hr; exact hk)
      · exact hw.elim
    · exact plain hw (fun c' h => by rw [ho] at h; cases h)
  · rename_i op hnc
    refine plain hw (fun c' h => ?_)
    rw [h] at hw
    simp [aop] at hw
omit hT hM hp hc in
theorem VR.und_inv {e : Env} {c : Value} (h : VR e .und c) : c = undef := by
  cases h with | pure _ _ h => cases h; rfl
omit hT hM hp hc in
theorem upd_self (tm : Nat → AVal) (d : Nat) (v : AVal) (h : tm d = v) : upd tm d v = tm := by
  funext t
  rw [upd_get]
  split
  · rename_i e; rw [e, h]
  · rfl
/-- What one operation of a region comes to, wanted or not. -/
def GuardIn (F : Fence) (n : Nat) (P : Program) (ops : Array Oper) (o : Oper) (K : Act → World → Prop) (Q : Exit → Act → World → Prop) (a : Act) (w : World) : Prop :=
  if Region.wanted o (yielded ops a.tmps) then o.wpIn F n P a w K Q else (∀ f, o.about P w a.eval = some f → F.fn f) ∧ K (a.put o.dst undef) w
theorem wpg_ok {dr : Bool} {ops : Array Oper} {s : St} {e : Env} {a : Act} (h : SR e0 nt s e a) {o : Oper} {K : St → Prop} (hw : wpg p T M nt dr ops.toList o s K) {Q : Exit → Act → World → Prop} :
    GuardIn (Fw ro) n P ops o (Lift e0 nt K) Q a e.w := by
  unfold GuardIn
  have skip : ∀ tm, tm = s.tm → putK nt ⟨tm, s.h⟩ o.dst .und s.h K → (∀ f, o.about P e.w a.eval = some f → (Fw ro).fn f) ∧ Lift e0 nt K (a.put o.dst undef) e.w := fun tm htm hk => by
    subst htm
    refine ⟨fun _ _ => trivial, ?_⟩
    obtain ⟨s', e', k1, k2, k3⟩ := h.put (c := undef) (w' := e.w) (v := .und) (h' := s.h) (by rw [← h.heap]; exact Step.same h.good (.pure _ _ .und)) hk
    exact ⟨s', e', k1, k2, k3⟩
  unfold wpg at hw
  split at hw
  · rename_i hg
    have : Region.wanted o (yielded ops a.tmps) = true := by simp [Region.wanted, hg]
    rw [if_pos this]
    exact wpo_ok hT hM hp hc h hw
  · rename_i j b hg
    split at hw
    · exact hw.elim
    · rename_i d hd
      have hd : (ops[j]?).bind (·.dst) = some d := by simpa using hd
      have hv := h.tm d
      have yb : ∀ t, s.tm d = .bool t → yielded ops a.tmps j = some t := fun t ht => by
        rw [ht] at hv
        have := hv.bool_inv
        unfold yielded
        rw [hd]
        show (match a.tmps[d]? with | some (.bool b) => some b | _ => none) = _
        have h2 : a.tmps[d]? = some (.bool t) := by
          rw [Array.getD_eq_getD_getElem?] at this
          cases hx : a.tmps[d]? with
          | none => rw [hx] at this; cases this
          | some y => rw [hx] at this; simp at this; rw [this]
        rw [h2]
      split at hw
      · rename_i t ht
        have y := yb t ht
        have hwant : Region.wanted o (yielded ops a.tmps) = (t == b) := by simp [Region.wanted, hg, y]
        rw [hwant]
        cases t <;> cases b <;> simp only at hw
        · rw [if_pos (by rfl)]
          rw [upd_self _ _ _ ht] at hw
          exact wpo_ok hT hM hp hc h hw
        · rw [if_neg (by decide)]
          exact skip _ (upd_self _ _ _ ht) hw
        · rw [if_neg (by decide)]
          exact skip _ (upd_self _ _ _ ht) hw
        · rw [if_pos (by rfl)]
          rw [upd_self _ _ _ ht] at hw
          exact wpo_ok hT hM hp hc h hw
      · rename_i hu
        have y : yielded ops a.tmps j = none := by
          rw [hu] at hv
          have := hv.und_inv
          unfold yielded
          rw [hd]
          show (match a.tmps[d]? with | some (.bool b) => some b | _ => none) = _
          rw [Array.getD_eq_getD_getElem?] at this
          cases hx : a.tmps[d]? with
          | none => rfl
          | some y => rw [hx] at this; simp at this; rw [this]; rfl
        have hwant : Region.wanted o (yielded ops a.tmps) = false := by simp [Region.wanted, hg, y]
        rw [hwant, if_neg (by decide)]
        exact skip _ rfl hw
      · exact hw.elim
/-- A REGION IN THE ORDER OF THE TEXT. -/
theorem wpr_ok {ops : Array Oper} {Q : Exit → Act → World → Prop} {K : St → Prop} (hK : ∀ s e a, SR e0 nt s e a → K s → Q .normal a e.w) :
    ∀ (l : List Oper) (k : Nat), (∀ j, l[j]? = ops[k + j]?) → ∀ {s : St} {e : Env} {a : Act}, SR e0 nt s e a → wpr p T M nt false ops.toList l s K →
      wpOpsIn (Fw ro) n P ops Q ((List.range l.length).map (k + ·)) a e.w
  | [], k, _, s, e, a, h, hw => by
    simp only [List.length_nil, List.range_zero, List.map_nil, wpOpsIn]
    exact hK _ _ _ h hw
  | o :: l, k, hl, s, e, a, h, hw => by
    have h0 : ops[k]? = some o := by simpa using (hl 0).symm
    have hl' : ∀ j, l[j]? = ops[k + 1 + j]? := fun j => by have := hl (j + 1); simpa [Nat.add_assoc, Nat.add_comm 1 j] using this
    rw [List.length_cons, List.range_succ_eq_map, List.map_cons, List.map_map]
    have e1 : (List.map ((fun x => k + x) ∘ Nat.succ) (List.range l.length)) = (List.range l.length).map (k + 1 + ·) := by
      apply List.map_congr_left; intro x _; simp; omega
    rw [e1, Nat.add_zero, wpOpsIn, h0]
    simp only
    have := wpg_ok hT hM hp hc (ro := ro) (n := n) h (hw : wpg p T M nt false ops.toList o s fun s' => wpr p T M nt false ops.toList l s' K) (Q := Q)
    unfold GuardIn at this
    have up : ∀ a w, Lift e0 nt (fun s' => wpr p T M nt false ops.toList l s' K) a w → wpOpsIn (Fw ro) n P ops Q ((List.range l.length).map (k + 1 + ·)) a w := fun a w ⟨s', e', k1, k2, k3⟩ => by
      subst k2
      exact wpr_ok hK l (k + 1) hl' k3 k1
    split at this
    · rename_i hwant
      rw [if_pos hwant]
      exact Oper.wpIn_mono up this
    · rename_i hwant
      rw [if_neg hwant]
      exact ⟨this.1, up _ _ this.2⟩
end
end Go.AL
