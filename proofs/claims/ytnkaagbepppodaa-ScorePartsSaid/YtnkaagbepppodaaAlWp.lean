/-
  AL: code; loops; a function's contract from its body.
-/
import Derived.Test.YtnkaagbepppodaaAlDraw
set_option linter.unusedSectionVars false
set_option linter.unusedVariables false
set_option linter.unusedSimpArgs false
namespace Go.AL
open Go

/-- A STATE TURNED without a step of the program: what is known of a world is said otherwise. -/
def Gh (n0 nt : Nat) (s s2 : St) : Prop := ∀ e0 e a, e0.h.length = n0 → SR e0 nt s e a → ∃ e2, e2.w = e.w ∧ SR e0 nt s2 e2 a
/-- A loop: an invariant with a measure. -/
def rLoop (n0 nt : Nat) (body : St → (Exit → St → Prop) → Prop) (s : St) (Q : Exit → St → Prop) : Prop :=
  ∃ I : Nat → St → Prop, (∃ m s2, Gh n0 nt s s2 ∧ I m s2) ∧ ∀ m s, I m s → body s fun e s' => match e with
    | .normal => ∃ m' s2, m' < m ∧ Gh n0 nt s' s2 ∧ I m' s2
    | e => Q e s'
/-- The end: the result, told otherwise. -/
def rFin (n0 : Nat) (R : AVal → Heap → Prop) (r : AVal) (h : Heap) : Prop := ∀ e0 e c, e0.h.length = n0 → Good e → e.h = h → VR e r c → Upd e0 e → Ext n0 e0 e →
  ∃ r' e', R r' e'.h ∧ e'.w = e.w ∧ Good e' ∧ VR e' r' c ∧ Upd e0 e' ∧ Ext n0 e0 e'
/-- A range over a function, whatever it is. -/
def RfunOK (P : Program) (p : Pr) (T : Tab) (M : MTab) (n0 nt : Nat) : Prop := ∀ (f : Operand) (ps : Array Tmp) (assign body : Code) (s : St) (e0 e : Env) (a : Act) (Q : Exit → St → Prop) (ro : Option Nat) (n : Nat),
  e0.h.length = n0 → SR e0 nt s e a → (∀ (ro : Option Nat) (n : Nat) (s : St) (e0 e : Env) (a : Act) (Q : Exit → St → Prop), SR e0 nt s e a → e0.h.length = n0 → wpc p T M nt assign s Q → assign.wpIn (Fw ro) n P (LiftX e0 nt Q) a e.w) →
  (∀ (ro : Option Nat) (n : Nat) (s : St) (e0 e : Env) (a : Act) (Q : Exit → St → Prop), SR e0 nt s e a → e0.h.length = n0 → wpc p T M nt body s Q → body.wpIn (Fw ro) n P (LiftX e0 nt Q) a e.w) →
  wpc p T M nt (.rangeFunc f ps assign body) s Q → (Code.rangeFunc f ps assign body).wpIn (Fw ro) n P (LiftX e0 nt Q) a e.w
/-- Every region that draws is one whose orders all come to the same. -/
def lexAll : Code → Bool
  | .region _ ops dr => !dr || lexA ops
  | .seq a b => lexAll a && lexAll b
  | .cond _ a b => lexAll a && lexAll b
  | .block _ b => lexAll b
  | .loop b => lexAll b
  | .rangeFunc _ _ a b => lexAll a && lexAll b
  | _ => true
theorem OMono.kept {e e' : Env} (hs : e'.sg = e.sg) (hp : e'.ps = e.ps) (i : Nat) (o : AObj) : OMono e e' i o o := by
  cases o <;> simp [OMono, hs, hp]
theorem ObjOK.moved {e e' : Env} {i : Nat} {o : AObj} (hs : e'.sg = e.sg) (hh : ∀ b, o.live = true → e.sg i = some b → e'.w.heap[b]? = e.w.heap[b]?) (hp : e'.ps = e.ps)
    (hv : ∀ v c, VR e v c → VR e' v c) (h : ObjOK e i o) : ObjOK e' i o := by
  cases o with
  | box vs =>
    obtain ⟨b, cs, el, h1, h2, h3, h4, h5⟩ := h
    exact ⟨b, cs, el, by rw [hs]; exact h1, by rw [hh b rfl h1]; exact h2, h3, by rw [hp]; exact h4, fun j hj => hv _ _ (h5 j hj)⟩
  | rw g q =>
    rcases h with ⟨h1, h2⟩ | ⟨b, cs, el, h1, h2, h3, h4, h5, h6, h7⟩
    · exact .inl ⟨h1, by rw [hs]; exact h2⟩
    · exact .inr ⟨b, cs, el, by rw [hs]; exact h1, by rw [hh b rfl h1]; exact h2, h3, by rw [hp]; exact h4, h5, h6, fun i j hi hj => ⟨hv _ _ (h7 i j hi hj).1, (h7 i j hi hj).2⟩⟩
  | tok n =>
    intro b hb
    rw [hs] at hb
    obtain ⟨cs, el, h1⟩ := h b hb
    exact ⟨cs, el, by rw [hh b rfl hb]; exact h1⟩
  | loop r =>
    obtain ⟨b, h1, h2⟩ := h
    exact ⟨b, by rw [hs]; exact h1, by rw [hh b rfl h1]; exact h2⟩
  | dead g => trivial
theorem nat_min {p : Nat → Prop} (h : ∃ n, p n) : ∃ n, p n ∧ ∀ m, p m → n ≤ m := by
  obtain ⟨n, hn⟩ := h
  induction n using Nat.strongRecOn with
  | _ n ih =>
    by_cases h : ∃ m, m < n ∧ p m
    · obtain ⟨m, h1, h2⟩ := h; exact ih m h1 h2
    · exact ⟨n, hn, fun m hm => Nat.not_lt.1 fun hl => h ⟨m, hl, hm⟩⟩
open Classical in
/-- The least. -/
noncomputable def least (p : Nat → Prop) : Nat := if h : ∃ n, p n then Classical.choose (nat_min h) else 0
theorem least_spec {p : Nat → Prop} {n : Nat} (h : p n) : p (least p) ∧ least p ≤ n := by
  have h' : ∃ n, p n := ⟨n, h⟩
  have := Classical.choose_spec (nat_min h')
  unfold least
  rw [dif_pos h']
  exact ⟨this.1, this.2 n h⟩
theorem SR.drawn {e0 : Env} {nt : Nat} {s : St} {e : Env} {a : Act} (h : SR e0 nt s e a) : ∃ e', e'.w = { e.w with drawn := e.w.drawn + 1 } ∧ SR e0 nt s e' a := by
  have hx : Ext e.h.length e { e with w := { e.w with drawn := e.w.drawn + 1 } } := ⟨fun i o _ ho => ⟨o, ho, OMono.kept rfl rfl i o⟩, fun _ => Nat.le_refl _, fun _ _ _ => rfl, fun _ => Nat.le_refl _⟩
  have hu : Upd e { e with w := { e.w with drawn := e.w.drawn + 1 } } := ⟨rfl, rfl, rfl, Nat.le_refl _, fun _ _ _ => ⟨rfl, rfl⟩, fun _ h => .inl h⟩
  refine ⟨{ e with w := { e.w with drawn := e.w.drawn + 1 } }, rfl, ⟨?_, h.good.inj, h.good.ps⟩, h.heap, fun t => (h.tm t).mono (Nat.le_refl _) hx, h.size, h.marks.step rfl hu, h.upd.trans hu, Ext0 h.ext hx⟩
  intro i o ho
  exact ObjOK.moved (e := e) rfl (fun _ _ _ => rfl) rfl (fun v c hv => hv.mono (Nat.le_refl _) hx) (h.good.obj i o ho)
section
variable {P : Program} {T : Tab} {M : MTab} (hT : TabOK P T) (hM : MTabOK P T M) {p : Pr} (hp : DataOK p) (hc : CallOK P p) (hm : P.follows .mixedOrders = true) {n0 nt : Nat}
  (hloop : p.loop = rLoop n0 nt) (hrf : RfunOK P p T M n0 nt)
include hT hM hp hc hm hloop hrf
theorem wpc_ok : ∀ (c : Code) (hl : lexAll c = true) (ro : Option Nat) (n : Nat) (s : St) (e0 e : Env) (a : Act) (Q : Exit → St → Prop), SR e0 nt s e a → e0.h.length = n0 → wpc p T M nt c s Q →
    c.wpIn (Fw ro) n P (LiftX e0 nt Q) a e.w
  | .skip, _, ro, n, s, e0, e, a, Q, h, hn, hw => wpIn_skip ⟨s, e, hw, rfl, h⟩
  | .label _, _, ro, n, s, e0, e, a, Q, h, hn, hw => wpIn_label ⟨s, e, hw, rfl, h⟩
  | .exit id, _, ro, n, s, e0, e, a, Q, h, hn, hw => wpIn_exit ⟨s, e, hw, rfl, h⟩
  | .ret, _, ro, n, s, e0, e, a, Q, h, hn, hw => wpIn_ret ⟨s, e, hw, rfl, h⟩
  | .region id ops false, _, ro, n, s, e0, e, a, Q, h, hn, hw => by
    have := wpr_ok hT hM hp hc (e0 := e0) (nt := nt) (ro := ro) (n := n) (ops := ops) (Q := LiftX e0 nt Q) (K := fun s' => Q .normal s') (fun s e a h hk => ⟨s, e, hk, rfl, h⟩) ops.toList 0 (fun j => by simp) h hw
    refine wpIn_region ?_
    simpa using this
  | .region id ops true, hl, ro, n, s, e0, e, a, Q, h, hn, hw => by
    obtain ⟨e', he', h'⟩ := h.drawn
    refine wpIn_region_any hm ?_
    rw [← he']
    have h1 := wpAnyA_lex hc (K := fun s' => Q .normal s') ops.toList 0 (Array.replicate ops.size false) s (fun j => by simp) (by simpa [lexAll, lexA] using hl) hw
    have h2 := wpAnyA_sound hT hM hp hc (e0 := e0) (nt := nt) (ro_ := ro) (n := n) (ops := ops) (Q := LiftX e0 nt Q) (K := fun s' => Q .normal s') (fun s e a h hk => ⟨s, e, hk, rfl, h⟩) ops.toList.length _ h' h1
    simpa using h2
  | .seq x y, hl, ro, n, s, e0, e, a, Q, h, hn, hw => by
    simp only [lexAll, Bool.and_eq_true] at hl
    refine wpIn_seq ?_
    refine wpIn_mono (wpc_ok x hl.1 ro n s e0 e a _ h hn hw) fun ex a' w' ⟨s', e', k1, k2, k3⟩ => ?_
    subst k2
    cases ex with
    | normal => exact wpc_ok y hl.2 ro n s' e0 e' a' Q k3 hn k1
    | _ => exact ⟨s', e', k1, rfl, k3⟩
  | .cond c x y, hl, ro, n, s, e0, e, a, Q, h, hn, hw => by
    simp only [lexAll, Bool.and_eq_true] at hl
    simp only [wpc] at hw
    split at hw
    · rename_i t hev
      have hv := VR.ev h.tm c
      rw [hev] at hv
      refine wpIn_cond hv.bool_inv ?_
      cases t
      · exact wpc_ok y hl.2 ro n s e0 e a Q h hn hw
      · exact wpc_ok x hl.1 ro n s e0 e a Q h hn hw
    · exact hw.elim
  | .block id b, hl, ro, n, s, e0, e, a, Q, h, hn, hw => by
    refine wpIn_block ?_
    refine wpIn_mono (wpc_ok b hl ro n s e0 e a _ h hn hw) fun ex a' w' ⟨s', e', k1, k2, k3⟩ => ?_
    subst k2
    cases ex with
    | exit id' =>
      simp only at k1
      simp only [Exit.inBlock]
      split at k1
      · rename_i hb
        rw [if_pos (Nat.eq_of_beq_eq_true hb)]
        exact ⟨s', e', k1, rfl, k3⟩
      · rename_i hb
        rw [if_neg (fun e => by subst e; simp at hb)]
        exact ⟨s', e', k1, rfl, k3⟩
    | _ => exact ⟨s', e', k1, rfl, k3⟩
  | .loop b, hl, ro, n, s, e0, e, a, Q, h, hn, hw => by
    have hw : p.loop (wpc p T M nt b) s Q := hw
    rw [hloop] at hw
    obtain ⟨I, ⟨m, s2, hg, hI⟩, hbody⟩ := hw
    obtain ⟨e2, he2, h2⟩ := hg e0 e a hn h
    let J : Nat → Act → World → Prop := fun m a w => ∃ s e, I m s ∧ e.w = w ∧ SR e0 nt s e a
    let μ : Act → World → Nat := fun a w => least fun m => J m a w
    have hμ : ∀ m a w, J m a w → μ a w ≤ m := fun m a w hJ => (least_spec (p := fun m => J m a w) hJ).2
    have hμ2 : ∀ m a w, J m a w → J (μ a w) a w := fun m a w hJ => (least_spec (p := fun m => J m a w) hJ).1
    refine wpIn_loop (fun a w => J (μ a w) a w) μ (hμ2 m a e.w ⟨s2, e2, hI, he2, h2⟩) fun a w hJ => ?_
    obtain ⟨s', e', k1, k2, k3⟩ := hJ
    subst k2
    refine wpIn_mono (wpc_ok b hl ro n s' e0 e' a _ k3 hn (hbody _ s' k1)) fun ex a' w' ⟨s3, e3, j1, j2, j3⟩ => ?_
    subst j2
    cases ex with
    | normal =>
      obtain ⟨m', s4, hlt, hg', hI'⟩ := j1
      obtain ⟨e4, he4, h4⟩ := hg' e0 e3 a' hn j3
      have hJ' : J m' a' e3.w := ⟨s4, e4, hI', he4, h4⟩
      exact ⟨hμ2 _ _ _ hJ', Nat.lt_of_le_of_lt (hμ _ _ _ hJ') hlt⟩
    | _ => exact ⟨s3, e3, j1, rfl, j3⟩
  | .rangeFunc f ps x y, hl, ro, n, s, e0, e, a, Q, h, hn, hw => by
    simp only [lexAll, Bool.and_eq_true] at hl
    exact hrf f ps x y s e0 e a Q ro n hn h (fun ro n s e0 e a Q h hn hw => wpc_ok x hl.1 ro n s e0 e a Q h hn hw) (fun ro n s e0 e a Q h hn hw => wpc_ok y hl.2 ro n s e0 e a Q h hn hw) hw
  | .goto _, _, ro, n, s, e0, e, a, Q, h, hn, hw => by simp [wpc] at hw
end
end Go.AL
