/-
  AL: code; loops; a function's contract from its body.
-/
import Derived.Test.YtnnpookoencpnaaAlDraw
import Derived.RangeFuncRecord
set_option linter.unusedSectionVars false
set_option linter.unusedVariables false
set_option linter.unusedSimpArgs false
namespace Go.AL
open Go

/-- A STATE TURNED without a step of the program: what is known of a world is said otherwise. -/
def Gh (n0 nt : Nat) (s s2 : St) : Prop := ∀ e0 e a, e0.h.length = n0 → SR e0 nt s e a → ∃ e2, e2.w = e.w ∧ SR e0 nt s2 e2 a
/-- A loop: an invariant with a measure. -/
def rLoop (n0 nt : Nat) (body : St → (Exit → St → Prop) → Prop) (s : St) (Q : Exit → St → Prop) : Prop :=
  ∃ I : Nat → St → Prop, (∃ m s2, Gh n0 nt s s2 ∧ I m s2) ∧ ∀ m s, I m s → body s fun e s' => match e with
    | .normal => ∃ m' s2, m' < m ∧ Gh n0 nt s' s2 ∧ I m' s2
    | e => Q e s'
/-- The end: the result, told otherwise. -/
def rFin (n0 : Nat) (R : AVal → Heap → Prop) (r : AVal) (h : Heap) : Prop := ∀ e0 e c, e0.h.length = n0 → Good e → e.h = h → VR e r c → Upd e0 e → Ext n0 e0 e →
  ∃ r' e', R r' e'.h ∧ e'.w = e.w ∧ Good e' ∧ VR e' r' c ∧ Upd e0 e' ∧ Ext n0 e0 e'
/-- What a range over a function comes to, behind it. -/
def rAfter (idx : Nat) (l : List (Nat × AVal)) (Q : Exit → St → Prop) (h' : Heap) : Prop := match h'[idx]? with
  | some (.loop L) => L.st ≠ .busy ∧ (match L.pend with
    | none => Q .normal ⟨tmL l, h'.set idx (.dead 0)⟩
    | some .ret => Q .ret ⟨tmL l, h'.set idx (.dead 0)⟩
    | some (.exit id) => Q (.exit id) ⟨tmL l, h'.set idx (.dead 0)⟩
    | _ => False)
  | _ => False
/-- A range over a function: its contract, called with a yield whose rounds are the body's. -/
def rRfun (P : Program) (nt : Nat) (f : AVal) (ps : Array Tmp) (assign body : Code) (s : St) (Q : Exit → St → Prop) : Prop :=
  ∃ fid first caps l, f = .clo (.func fid) first caps ∧ (∀ t e c, Good e → e.h = s.h → VR e (s.tm t) c → VR e (tmL l t) c) ∧
    Does P fid (first ++ [.yld s.h.length] ++ caps) (s.h ++ [.loop ⟨.ready, none, ps, assign, body, nt, l⟩]) fun _ h' => rAfter s.h.length l Q h'
def noRange : Code → Bool
  | .seq a b => noRange a && noRange b
  | .cond _ a b => noRange a && noRange b
  | .block _ b => noRange b
  | .loop b => noRange b
  | .rangeFunc .. => false
  | _ => true
/-- Every region that draws is one whose orders all come to the same. -/
def lexAll : Code → Bool
  | .region _ ops dr => !dr || lexA ops
  | .seq a b => lexAll a && lexAll b
  | .cond _ a b => lexAll a && lexAll b
  | .block _ b => lexAll b
  | .loop b => lexAll b
  | .rangeFunc _ _ a b => lexAll a && lexAll b
  | _ => true
theorem OMono.kept {e e' : Env} (hs : e'.sg = e.sg) (hp : e'.ps = e.ps) (i : Nat) (o : AObj) : OMono e e' i o o := by
  cases o <;> simp [OMono, hs, hp]
theorem ObjOK.moved {e e' : Env} {i : Nat} {o : AObj} (hs : e'.sg = e.sg) (hh : ∀ b, o.live = true → e.sg i = some b → e'.w.heap[b]? = e.w.heap[b]?) (hp : e'.ps = e.ps)
    (hv : ∀ v c, VR e v c → VR e' v c) (h : ObjOK e i o) : ObjOK e' i o := by
  cases o with
  | box vs =>
    obtain ⟨b, cs, el, h1, h2, h3, h4, h5⟩ := h
    exact ⟨b, cs, el, by rw [hs]; exact h1, by rw [hh b rfl h1]; exact h2, h3, by rw [hp]; exact h4, fun j hj => hv _ _ (h5 j hj)⟩
  | rw g q =>
    rcases h with ⟨h1, h2⟩ | ⟨b, cs, el, h1, h2, h3, h4, h5, h6, h7⟩
    · exact .inl ⟨h1, by rw [hs]; exact h2⟩
    · exact .inr ⟨b, cs, el, by rw [hs]; exact h1, by rw [hh b rfl h1]; exact h2, h3, by rw [hp]; exact h4, h5, h6, fun i j hi hj => ⟨hv _ _ (h7 i j hi hj).1, (h7 i j hi hj).2⟩⟩
  | tok n =>
    intro b hb
    rw [hs] at hb
    obtain ⟨cs, el, h1⟩ := h b hb
    exact ⟨cs, el, by rw [hh b rfl hb]; exact h1⟩
  | loop r =>
    obtain ⟨b, r2, h1, h2, h3, h4⟩ := h
    exact ⟨b, r2, by rw [hs]; exact h1, by rw [hh b rfl h1]; exact h2, h3, fun t => hv _ _ (h4 t)⟩
  | dead g => trivial
theorem nat_min {p : Nat → Prop} (h : ∃ n, p n) : ∃ n, p n ∧ ∀ m, p m → n ≤ m := by
  obtain ⟨n, hn⟩ := h
  induction n using Nat.strongRecOn with
  | _ n ih =>
    by_cases h : ∃ m, m < n ∧ p m
    · obtain ⟨m, h1, h2⟩ := h; exact ih m h1 h2
    · exact ⟨n, hn, fun m hm => Nat.not_lt.1 fun hl => h ⟨m, hl, hm⟩⟩
open Classical in
/-- The least. -/
noncomputable def least (p : Nat → Prop) : Nat := if h : ∃ n, p n then Classical.choose (nat_min h) else 0
theorem least_spec {p : Nat → Prop} {n : Nat} (h : p n) : p (least p) ∧ least p ≤ n := by
  have h' : ∃ n, p n := ⟨n, h⟩
  have := Classical.choose_spec (nat_min h')
  unfold least
  rw [dif_pos h']
  exact ⟨this.1, this.2 n h⟩
theorem SR.drawn {e0 : Env} {nt : Nat} {s : St} {e : Env} {a : Act} (h : SR e0 nt s e a) : ∃ e', e'.w = { e.w with drawn := e.w.drawn + 1 } ∧ SR e0 nt s e' a := by
  have hx : Ext e.h.length e { e with w := { e.w with drawn := e.w.drawn + 1 } } := ⟨fun i o _ ho => ⟨o, ho, OMono.kept rfl rfl i o⟩, fun _ => Nat.le_refl _, fun _ _ _ => rfl, fun _ => Nat.le_refl _⟩
  have hu : Upd e { e with w := { e.w with drawn := e.w.drawn + 1 } } := ⟨rfl, rfl, rfl, Nat.le_refl _, fun _ _ _ => ⟨rfl, rfl⟩, fun _ h => .inl h⟩
  refine ⟨{ e with w := { e.w with drawn := e.w.drawn + 1 } }, rfl, ⟨?_, h.good.inj, h.good.ps⟩, h.heap, fun t => (h.tm t).mono (Nat.le_refl _) hx, h.size, h.marks.step rfl hu, h.upd.trans hu, Ext0 h.ext hx⟩
  intro i o ho
  exact ObjOK.moved (e := e) rfl (fun _ _ _ => rfl) rfl (fun v c hv => hv.mono (Nat.le_refl _) hx) (h.good.obj i o ho)
theorem alloc_quiet {e : Env} (hg : Good e) {o : Obj} : Good { e with w := e.w.alloc o } ∧ Upd e { e with w := e.w.alloc o } ∧ ∀ n, Ext n e { e with w := e.w.alloc o } := by
  have hh : ∀ b, b < e.w.heap.size → (e.w.alloc o).heap[b]? = e.w.heap[b]? := fun b hb => by
    show (e.w.heap.push o)[b]? = _
    rw [Array.getElem?_push, if_neg (by omega)]
  have hcs : ∀ b, cellsSize e.w b ≤ cellsSize (e.w.alloc o) b := fun b => by
    by_cases hb : b < e.w.heap.size
    · unfold cellsSize; rw [hh b hb]; exact Nat.le_refl _
    · unfold cellsSize; rw [Array.getElem?_eq_none (show e.w.heap.size ≤ b by omega)]; exact Nat.zero_le _
  have hx : ∀ n, Ext n e { e with w := e.w.alloc o } := fun n => ⟨fun i o _ ho => ⟨o, ho, OMono.kept rfl rfl i o⟩, fun _ => Nat.le_refl _, fun b o' ho => by
    have hb := lt_of_ps hg ho
    show (e.w.alloc o).cell? _ = _
    unfold World.cell?
    rw [hh b hb], hcs⟩
  refine ⟨⟨fun i o' ho => ?_, hg.inj, fun b => Nat.le_trans (hg.ps b) (hcs b)⟩, ⟨rfl, rfl, rfl, ?_, fun b hb _ => ⟨hh b hb, rfl⟩, fun b hb => .inl hb⟩, hx⟩
  · refine ObjOK.moved (e := e) rfl (fun b hl hb => ?_) rfl (fun v c h => h.mono (Nat.le_refl _) (hx _)) (hg.obj i o' ho)
    obtain ⟨ob, hob⟩ : ∃ ob, e.w.heap[b]? = some ob := by
      have h4 := hg.obj i o' ho
      cases o' with
      | box vs => obtain ⟨b', cs, el, k1, k2, _⟩ := h4; obtain rfl : b = b' := by rw [hb] at k1; exact Option.some.inj k1
                  exact ⟨_, k2⟩
      | rw g q =>
        rcases h4 with ⟨_, k1⟩ | ⟨b', cs, el, k1, k2, _⟩
        · rw [hb] at k1; cases k1
        · obtain rfl : b = b' := by rw [hb] at k1; exact Option.some.inj k1
          exact ⟨_, k2⟩
      | tok n => obtain ⟨cs, el, k2⟩ := h4 b hb; exact ⟨_, k2⟩
      | loop r => obtain ⟨b', r', k1, k2, _⟩ := h4; obtain rfl : b = b' := by rw [hb] at k1; exact Option.some.inj k1
                  exact ⟨_, k2⟩
      | dead g => cases hl
    exact hh b (Array.getElem?_eq_some_iff.1 hob).1
  · show e.w.heap.size ≤ (e.w.heap.push o).size
    simp
theorem heap_putObj_ne' {w : World} {D b : Nat} {o : Obj} (h : b ≠ D) : (w.putObj D o).heap[b]? = w.heap[b]? := by
  simp only [World.putObj]
  rw [Array.getElem?_setIfInBounds_ne (Ne.symm h)]
/-- A loop's record written. -/
theorem loop_put {e : Env} (hg : Good e) {i b : Nat} {L : LoopA} {r r' : Loop} {o' : AObj} (hi : e.h[i]? = some (.loop L)) (hs : e.sg i = some b) (hb : e.w.heap[b]? = some (.loop r))
    (ho : o' = .dead 0 ∨ ∃ L', o' = .loop L' ∧ L'.of r' ∧ L'.l = L.l ∧ r'.tmps = r.tmps) (htm : ∀ t, VR e (tmL L.l t) (r.tmps.getD t undef)) :
    let e' : Env := ⟨e.w.putObj b (.loop r'), e.sg, e.h.set i o', e.ps⟩
    Good e' ∧ Upd e e' ∧ Ext e.h.length e e' := by
  intro e'
  have hil : i < e.h.length := (List.getElem?_eq_some_iff.1 hi).1
  have hbl : b < e.w.heap.size := (Array.getElem?_eq_some_iff.1 hb).1
  have hcs : ∀ x, cellsSize e.w x ≤ cellsSize e'.w x := fun x => by
    by_cases hx : x = b
    · subst hx; unfold cellsSize; rw [hb]; exact Nat.zero_le _
    · unfold cellsSize
      rw [show e'.w.heap[x]? = e.w.heap[x]? from heap_putObj_ne' hx]
      exact Nat.le_refl _
  have hps0 : e.ps b = 0 := by
    have := hg.ps b
    unfold cellsSize at this
    rw [hb] at this
    exact Nat.le_zero.1 this
  have hat : e'.h[i]? = some o' := by
    show (e.h.set i o')[i]? = _
    rw [List.getElem?_set, if_pos rfl, if_pos hil]
  have hne : ∀ j, j ≠ i → e'.h[j]? = e.h[j]? := fun j hj => List.getElem?_set_ne (Ne.symm hj)
  have hx : Ext e.h.length e e' := by
    refine ⟨fun j o hj hoj => ?_, fun _ => Nat.le_refl _, fun x y hy => ?_, hcs⟩
    · by_cases hji : j = i
      · subst hji
        rw [hi] at hoj
        cases hoj
        refine ⟨o', hat, ?_⟩
        rcases ho with rfl | ⟨L', rfl, _⟩
        · trivial
        · exact rfl
      · exact ⟨o, (hne j hji).trans hoj, OMono.kept rfl rfl j o⟩
    · have hxb : x ≠ b := fun h => by subst h; omega
      unfold World.cell?
      rw [show e'.w.heap[x]? = e.w.heap[x]? from heap_putObj_ne' hxb]
  have vr : ∀ v c, VR e v c → VR e' v c := fun v c h => h.mono (Nat.le_refl _) hx
  have live : ∀ (j : Nat) (o : AObj), e'.h[j]? = some o → o.live = true → ∃ o2, e.h[j]? = some o2 ∧ o2.live = true := fun j o hj hl => by
    by_cases hji : j = i
    · subst hji; exact ⟨_, hi, rfl⟩
    · exact ⟨o, (hne j hji).symm.trans hj, hl⟩
  refine ⟨⟨fun j o hj => ?_, fun j k oj ok x h1 h2 h3 h4 h5 h6 => ?_, fun x => Nat.le_trans (hg.ps x) (hcs x)⟩, ⟨rfl, rfl, rfl, by simp [e', World.putObj], fun x hx' hno => ?_, fun x ⟨j, o, h1, h2, h3⟩ => ?_⟩, hx⟩
  · by_cases hji : j = i
    · subst hji
      rw [hat] at hj
      cases hj
      rcases ho with rfl | ⟨L', rfl, h1, h2, h3⟩
      · trivial
      · exact ⟨b, r', hs, by simp [e', World.putObj, hbl], h1, fun t => by rw [h2, h3]; exact vr _ _ (htm t)⟩
    · have hj' := (hne j hji).symm.trans hj
      refine ObjOK.moved (e := e) rfl (fun x hl hx' => heap_putObj_ne' fun hxb => ?_) rfl vr (hg.obj j o hj')
      subst hxb
      exact hji (hg.inj j i o _ x hj' hl hi rfl hx' hs)
  · obtain ⟨o1, a1, a2⟩ := live j oj h1 h2
    obtain ⟨o2, a3, a4⟩ := live k ok h3 h4
    exact hg.inj j k o1 o2 x a1 a2 a3 a4 h5 h6
  · have hxb : x ≠ b := fun h => hno (by subst h; exact ⟨i, _, hi, rfl, hs⟩)
    exact ⟨heap_putObj_ne' hxb, rfl⟩
  · obtain ⟨o1, a1, a2⟩ := live j o h1 h2
    exact .inl ⟨j, o1, a1, a2, h3⟩
section
variable {P : Program} {T : Tab} {M : MTab} (hT : TabOK P T) (hM : MTabOK P T M) {p : Pr} (hp : DataOK p) (hc : CallOK P p) (hm : P.follows .mixedOrders = true) {n0 nt : Nat}
  (hloop : p.loop = rLoop n0 nt) (hrf : p.rfun = rRfun P nt)
include hT hM hp hc hm hloop hrf
set_option maxHeartbeats 1600000 in
theorem wpc_ok : ∀ (c : Code) (hl : lexAll c = true) (ro : Option Nat) (hro : ro = none ∨ noRange c = true) (n : Nat) (s : St) (e0 e : Env) (a : Act) (Q : Exit → St → Prop), SR e0 nt s e a → e0.h.length = n0 → wpc p T M nt c s Q →
    c.wpIn (Fw ro) n P (LiftX e0 nt Q) a e.w
  | .skip, _, ro, _, n, s, e0, e, a, Q, h, hn, hw => wpIn_skip ⟨s, e, hw, rfl, h⟩
  | .label _, _, ro, _, n, s, e0, e, a, Q, h, hn, hw => wpIn_label ⟨s, e, hw, rfl, h⟩
  | .exit id, _, ro, _, n, s, e0, e, a, Q, h, hn, hw => wpIn_exit ⟨s, e, hw, rfl, h⟩
  | .ret, _, ro, _, n, s, e0, e, a, Q, h, hn, hw => wpIn_ret ⟨s, e, hw, rfl, h⟩
  | .region id ops false, _, ro, _, n, s, e0, e, a, Q, h, hn, hw => by
    have := wpr_ok hT hM hp hc (e0 := e0) (nt := nt) (ro := ro) (n := n) (ops := ops) (Q := LiftX e0 nt Q) (K := fun s' => Q .normal s') (fun s e a h hk => ⟨s, e, hk, rfl, h⟩) ops.toList 0 (fun j => by simp) h hw
    refine wpIn_region ?_
    simpa using this
  | .region id ops true, hl, ro, _, n, s, e0, e, a, Q, h, hn, hw => by
    obtain ⟨e', he', h'⟩ := h.drawn
    refine wpIn_region_any hm ?_
    rw [← he']
    have h1 := wpAnyA_lex hc (K := fun s' => Q .normal s') ops.toList 0 (Array.replicate ops.size false) s (fun j => by simp) (by simpa [lexAll, lexA] using hl) hw
    have h2 := wpAnyA_sound hT hM hp hc (e0 := e0) (nt := nt) (ro_ := ro) (n := n) (ops := ops) (Q := LiftX e0 nt Q) (K := fun s' => Q .normal s') (fun s e a h hk => ⟨s, e, hk, rfl, h⟩) ops.toList.length _ h' h1
    simpa using h2
  | .seq x y, hl, ro, hro, n, s, e0, e, a, Q, h, hn, hw => by
    simp only [lexAll, Bool.and_eq_true] at hl
    refine wpIn_seq ?_
    refine wpIn_mono (wpc_ok x hl.1 ro (hro.imp_right fun h => by simp only [noRange, Bool.and_eq_true] at h; exact h.1) n s e0 e a _ h hn hw) fun ex a' w' ⟨s', e', k1, k2, k3⟩ => ?_
    subst k2
    cases ex with
    | normal => exact wpc_ok y hl.2 ro (hro.imp_right fun h => by simp only [noRange, Bool.and_eq_true] at h; exact h.2) n s' e0 e' a' Q k3 hn k1
    | _ => exact ⟨s', e', k1, rfl, k3⟩
  | .cond c x y, hl, ro, hro, n, s, e0, e, a, Q, h, hn, hw => by
    simp only [lexAll, Bool.and_eq_true] at hl
    simp only [wpc] at hw
    split at hw
    · rename_i t hev
      have hv := VR.ev h.tm c
      rw [hev] at hv
      refine wpIn_cond hv.bool_inv ?_
      cases t
      · exact wpc_ok y hl.2 ro (hro.imp_right fun h => by simp only [noRange, Bool.and_eq_true] at h; exact h.2) n s e0 e a Q h hn hw
      · exact wpc_ok x hl.1 ro (hro.imp_right fun h => by simp only [noRange, Bool.and_eq_true] at h; exact h.1) n s e0 e a Q h hn hw
    · exact hw.elim
  | .block id b, hl, ro, hro, n, s, e0, e, a, Q, h, hn, hw => by
    refine wpIn_block ?_
    refine wpIn_mono (wpc_ok b hl ro (hro.imp_right fun h => by simpa only [noRange] using h) n s e0 e a _ h hn hw) fun ex a' w' ⟨s', e', k1, k2, k3⟩ => ?_
    subst k2
    cases ex with
    | exit id' =>
      simp only at k1
      simp only [Exit.inBlock]
      split at k1
      · rename_i hb
        rw [if_pos (Nat.eq_of_beq_eq_true hb)]
        exact ⟨s', e', k1, rfl, k3⟩
      · rename_i hb
        rw [if_neg (fun e => by subst e; simp at hb)]
        exact ⟨s', e', k1, rfl, k3⟩
    | _ => exact ⟨s', e', k1, rfl, k3⟩
  | .loop b, hl, ro, hro, n, s, e0, e, a, Q, h, hn, hw => by
    have hw : p.loop (wpc p T M nt b) s Q := hw
    rw [hloop] at hw
    obtain ⟨I, ⟨m, s2, hg, hI⟩, hbody⟩ := hw
    obtain ⟨e2, he2, h2⟩ := hg e0 e a hn h
    let J : Nat → Act → World → Prop := fun m a w => ∃ s e, I m s ∧ e.w = w ∧ SR e0 nt s e a
    let μ : Act → World → Nat := fun a w => least fun m => J m a w
    have hμ : ∀ m a w, J m a w → μ a w ≤ m := fun m a w hJ => (least_spec (p := fun m => J m a w) hJ).2
    have hμ2 : ∀ m a w, J m a w → J (μ a w) a w := fun m a w hJ => (least_spec (p := fun m => J m a w) hJ).1
    refine wpIn_loop (fun a w => J (μ a w) a w) μ (hμ2 m a e.w ⟨s2, e2, hI, he2, h2⟩) fun a w hJ => ?_
    obtain ⟨s', e', k1, k2, k3⟩ := hJ
    subst k2
    refine wpIn_mono (wpc_ok b hl ro (hro.imp_right fun h => by simpa only [noRange] using h) n s' e0 e' a _ k3 hn (hbody _ s' k1)) fun ex a' w' ⟨s3, e3, j1, j2, j3⟩ => ?_
    subst j2
    cases ex with
    | normal =>
      obtain ⟨m', s4, hlt, hg', hI'⟩ := j1
      obtain ⟨e4, he4, h4⟩ := hg' e0 e3 a' hn j3
      have hJ' : J m' a' e3.w := ⟨s4, e4, hI', he4, h4⟩
      exact ⟨hμ2 _ _ _ hJ', Nat.lt_of_le_of_lt (hμ _ _ _ hJ') hlt⟩
    | _ => exact ⟨s3, e3, j1, rfl, j3⟩
  | .rangeFunc f ps x y, hl, ro, hro, n, s, e0, e, a, Q, h, hn, hw => by
    have hw : p.rfun (ev s.tm f) ps x y s Q := hw
    rw [hrf] at hw
    obtain ⟨fid, first, caps, l, hev, hwk, hdoes⟩ := hw
    have hro : ro = none := by
      rcases hro with h | h
      · exact h
      · simp [noRange] at h
    subst hro
    have hf := VR.ev h.tm f
    rw [hev] at hf
    obtain ⟨gs, ds, hval, r1, r2⟩ := hf.clo_inv
    have hheap := h.heap
    have htm : ∀ t, VR e (tmL l t) (a.tmps.getD t undef) := fun t => hwk t e _ h.good h.heap (h.tm t)
    refine wpIn_rangeFunc fun fn _ => ?_
    obtain ⟨gA, uA, xA⟩ := alloc_quiet h.good (o := .deferred (some []))
    let L : LoopA := ⟨.ready, none, ps, x, y, nt, l⟩
    let rec_ : Loop := { state := .ready, pending := none, fn, tmps := a.tmps, params := ps, assign := x, body := y, defers := e.w.heap.size }
    let eA : Env := { e with w := e.w.alloc (.deferred (some [])) }
    let w1 : World := (e.w.alloc (.deferred (some []))).alloc (.loop rec_)
    have hsz : eA.w.heap.size = e.w.heap.size + 1 := by show (e.w.heap.push _).size = _; simp
    have hh1 : ∀ j, j ≠ e.h.length → (e.h ++ [AObj.loop L])[j]? = eA.h[j]? := fun j hj => by
      show _ = e.h[j]?
      rcases Nat.lt_or_ge j e.h.length with h | h
      · rw [List.getElem?_append_left h]
      · rw [List.getElem?_eq_none (by simp; omega), List.getElem?_eq_none h]
    have hi1 : (e.h ++ [AObj.loop L])[e.h.length]? = some (.loop L) := by simp
    have hm1 : ∀ o, eA.h[e.h.length]? = some o → OMono eA (eA.fresh w1 e.h.length (e.h ++ [.loop L]) 0) e.h.length o (.loop L) := fun o ho => by
      have ho : e.h[e.h.length]? = some o := ho
      simp at ho
    have hw1 : w1.heap = eA.w.heap.push (.loop rec_) := rfl
    have xB := fresh_ext (m := 0) gA hw1 hh1 hi1 hm1
    have hnew : w1.heap[eA.w.heap.size]? = some (.loop rec_) := by rw [hw1]; simp
    have hvB : ∀ v c, VR e v c → VR (eA.fresh w1 e.h.length (e.h ++ [.loop L]) 0) v c := fun v c hv => ((hv.mono (Nat.le_refl _) (xA _)).mono (Nat.le_refl _) xB)
    have gB := fresh_good (m := 0) gA hw1 (Nat.zero_le _) hh1 hi1 hm1 ⟨eA.w.heap.size, rec_, by simp [Env.fresh]; exact hsz.symm, hnew, ⟨rfl, rfl, rfl, rfl, rfl, h.size⟩, fun t => hvB _ _ (htm t)⟩
    have uB := fresh_upd (m := 0) gA hw1 hh1 hi1 rfl rfl rfl
    let e1 := eA.fresh w1 e.h.length (e.h ++ [.loop L]) 0
    have hyld : VR e1 (.yld e.h.length) (.func (.yield (e.w.heap.size + 1)) #[] #[]) := by
      refine .yld _ _ rfl ?_
      show loopAt (e.h ++ [AObj.loop L])[e.h.length]? _
      rw [hi1]
      exact ⟨e.w.heap.size + 1, by simp [e1, Env.fresh, hsz], rfl⟩
    have hargs : ArgsR e1 (first ++ [.yld e.h.length] ++ caps) (gs ++ #[.func (.yield (e.w.heap.size + 1)) #[] #[]] ++ ds) := by
      have h1 : ArgsR e1 first gs := ⟨r1.len, fun i hi => hvB _ _ (r1.rel i hi)⟩
      have h2 : ArgsR e1 caps ds := ⟨r2.len, fun i hi => hvB _ _ (r2.rel i hi)⟩
      have h3 : ArgsR e1 [.yld e.h.length] #[.func (.yield (e.w.heap.size + 1)) #[] #[]] := ⟨rfl, fun i hi => by
        have : i = 0 := by simp at hi; omega
        subst this; exact hyld⟩
      exact (h1.append h3).append h2
    have hcall := hdoes.2 e1 _ gB (by show e.h ++ [AObj.loop L] = _; rw [hheap]) (by rw [← hheap]; exact hargs)
    refine ⟨e.w.heap.size + 1, [{ target := .collected e.w.heap.size, args := #[] }], w1, { target := .fn (.func fid) ds, args := gs ++ #[.func (.yield (e.w.heap.size + 1)) #[] #[]] }, w1, fid, gs ++ #[.func (.yield (e.w.heap.size + 1)) #[] #[]] ++ ds, w1, ?_, ?_, fun _ _ => trivial, ?_, fun hd => by simp [Fence.wide] at hd, ?_⟩
    · exact run_enterLoop_outer fn a.tmps ps x y
    · simp only [resolve, rangeCall, hval, Deferred.ofValue, Sem.run_pure]
      rw [List.map_toArray]
      rfl
    · simp only [invoke, run_callFunc hdoes.1]
    · refine (callsIn_wide.2 hcall : CallsIn (Fw none) (n - 1) P fid _ w1 _).mono fun en w3 hp3 => ?_
      cases en with
      | returned c =>
        obtain ⟨r, e3, hR, hw3, g3, hv3, u3, x3⟩ := hp3
        rw [← hheap] at hR
        unfold rAfter at hR
        split at hR
        · rename_i L' hL'
          obtain ⟨hbusy, hjump⟩ := hR
          obtain ⟨b, r', hsg, hb, hof, htm3⟩ := g3.obj _ _ hL'
          have hsg1 : e1.sg e.h.length = some (e.w.heap.size + 1) := by simp [e1, Env.fresh, hsz]
          have hbeq : b = e.w.heap.size + 1 := by
            obtain ⟨o', ho', hm⟩ := x3.obj e.h.length (.loop L) (by show e.h.length < (e.h ++ [AObj.loop L]).length; simp) hi1
            rw [hL'] at ho'
            cases ho'
            have hm : e3.sg e.h.length = e1.sg e.h.length := hm
            rw [hsg, hsg1] at hm
            exact Option.some.inj hm
          subst hbeq
          obtain ⟨g4, u4, x4⟩ := loop_put g3 (r' := { r' with state := .exhausted }) hL' hsg hb (.inl rfl) htm3
          have hend := run_endLoop (P := P) hb (by rw [hof.1]; exact hbusy)
          obtain ⟨pd, hpd0⟩ : ∃ pd, r'.pending = pd := ⟨_, rfl⟩
          have hpd : L'.pend = pd := by rw [← hof.2.1]; exact hpd0
          refine ⟨pd, e3.w.putObj (e.w.heap.size + 1) (.loop { r' with state := .exhausted }), by rw [← hw3, ← hpd0]; exact hend, ?_⟩
          have hil3 : e.h.length < e3.h.length := (List.getElem?_eq_some_iff.1 hL').1
          have x1 : Ext e.h.length e e1 := (xA _).trans xB
          have x14 : Ext e.h.length e ⟨e3.w.putObj (e.w.heap.size + 1) (.loop { r' with state := .exhausted }), e3.sg, e3.h.set e.h.length (.dead 0), e3.ps⟩ :=
            (x1.trans (x3.le (by show e.h.length ≤ (e.h ++ [AObj.loop L]).length; simp))).trans (x4.le (by omega))
          have u1 : Upd e e1 := uA.trans uB
          have u14 := (u1.trans u3).trans u4
          have hD1 : e1.w.heap[e.w.heap.size]? = some (.deferred (some [])) := by
            show ((e.w.heap.push _).push _)[e.w.heap.size]? = _
            rw [Array.getElem?_push, if_neg (by simp), Array.getElem?_push, if_pos rfl]
          have hDlt : e.w.heap.size < e1.w.heap.size := (Array.getElem?_eq_some_iff.1 hD1).1
          have hno1 : ¬ Owned e1 e.w.heap.size := fun ⟨j, o, h1, h2, h3⟩ => by
            have h1 : (e.h ++ [AObj.loop L])[j]? = some o := h1
            by_cases hj : j = e.h.length
            · subst hj
              rw [hsg1] at h3
              have := Option.some.inj h3
              omega
            · rw [hh1 j hj] at h1
              have h3' : e.sg j = some e.w.heap.size := by simpa [e1, Env.fresh, hj] using h3
              obtain ⟨ob, hob⟩ := fresh_sg (e := e) (w' := e.w.alloc (.deferred (some []))) (ob := .deferred (some [])) (i := e.h.length) (o' := .loop L) (h' := e.h ++ [.loop L]) (m := 0) h.good rfl hh1 hi1 (fun o ho => by simp at ho) h1 h2 h3'
              have := (Array.getElem?_eq_some_iff.1 hob).1
              omega
          have hD3 := (u3.frame _ hDlt hno1).1.trans hD1
          have hno3 : ¬ Owned e3 e.w.heap.size := fun ho => by
            rcases u3.own _ ho with h | h
            · exact hno1 h
            · omega
          have hmk := h.marks.step (a' := a) rfl u14
          have hsr : SR e0 nt ⟨tmL l, e3.h.set e.h.length (.dead 0)⟩ ⟨e3.w.putObj (e.w.heap.size + 1) (.loop { r' with state := .exhausted }), e3.sg, e3.h.set e.h.length (.dead 0), e3.ps⟩ { a with defers := [{ target := .collected e.w.heap.size, args := #[] }] ++ a.defers } := by
            refine ⟨g4, rfl, fun t => (htm t).mono (Nat.le_refl _) x14, h.size, ?_, h.upd.trans u14, Ext0 h.ext x14⟩
            obtain ⟨dl, d1, d2, d3⟩ := hmk.ex
            obtain ⟨dl0, c1, c2, c3⟩ := h.marks.ex
            refine ⟨e.w.heap.size :: dl, by rw [show ({ a with defers := [{ target := .collected e.w.heap.size, args := #[] }] ++ a.defers } : Act).defers = _ from rfl, d1]; rfl, ?_, fun D hD => ?_⟩
            · rw [List.nodup_cons]
              refine ⟨fun hm => ?_, d2⟩
              have hmm : dl.map mark_ = dl0.map mark_ := d1.symm.trans c1
              have hinj : ∀ (u v : List Nat), u.map mark_ = v.map mark_ → u = v := fun u => by
                induction u with
                | nil => intro v h; cases v <;> simp at h ⊢
                | cons x u ih =>
                  intro v h
                  cases v with
                  | nil => simp at h
                  | cons y v =>
                    simp only [List.map_cons, List.cons.injEq, mark_] at h
                    have h1 : x = y := by simpa using h.1
                    rw [h1, ih v h.2]
              rw [hinj _ _ hmm] at hm
              have := (Array.getElem?_eq_some_iff.1 (c3 _ hm).2.1).1
              omega
            · rcases List.mem_cons.1 hD with rfl | hD
              · refine ⟨h.upd.size, ?_, fun ho => ?_⟩
                · rw [show (⟨e3.w.putObj (e.w.heap.size + 1) (.loop { r' with state := .exhausted }), e3.sg, e3.h.set e.h.length (.dead 0), e3.ps⟩ : Env).w = e3.w.putObj (e.w.heap.size + 1) (.loop { r' with state := .exhausted }) from rfl, heap_putObj_ne' (by omega)]
                  exact hD3
                · rcases u4.own _ ho with h | h
                  · exact hno3 h
                  · have := u3.size; omega
              · exact d3 D hD
          cases pd with
          | none =>
            rw [hpd] at hjump
            exact ⟨_, _, hjump, rfl, hsr⟩
          | some cd =>
            rw [hpd] at hjump
            cases cd with
            | ret => exact wpIn_ret ⟨_, _, hjump, rfl, hsr⟩
            | exit id => exact wpIn_exit ⟨_, _, hjump, rfl, hsr⟩
            | _ => exact hjump.elim
        · exact hR.elim
      | _ => exact hp3.elim
  | .goto _, _, ro, _, n, s, e0, e, a, Q, h, hn, hw => by simp [wpc] at hw
end
end Go.AL
