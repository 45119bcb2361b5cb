/-
  AL: what one proves a contract with: the hooks told, loops, the end.
-/
import Derived.Test.YtnnpookoencpnaaAlSpec
set_option linter.unusedSectionVars false
set_option linter.unusedVariables false
set_option linter.unusedSimpArgs false
namespace Go.AL
open Go

theorem hooks_real (P : Program) (T : Tab) (M : MTab) (n0 nt : Nat) (ρ : Nat → Bool) : HooksOK P T M n0 nt (rPr (Does P) (realCalld P) (DoesV P) (realCallvd P) (rLoop n0 nt) (rRfun P nt) (rFin n0) ρ) where
  data := by constructor <;> rfl
  calls := ⟨rfl, rfl, rfl, rfl⟩
  loop := rfl
  rfun := rfl
  fin := rfl
/-- What a program's facts are. -/
structure ProgOK (P : Program) (T : Tab) (M : MTab) : Prop where
  tab : TabOK P T
  mtab : MTabOK P T M
  mixed : P.follows .mixedOrders = true
/-- A CONTRACT, for whatever hooks are real. -/
theorem spec_by {P : Program} {T : Tab} {M : MTab} (ρ : Nat → Bool) (hP : ProgOK P T M) {f : FuncId} {fn : Func} {c : Code} {args : List AVal} {h : Heap} {R : AVal → Heap → Prop}
    (hf : P.funcs[f]? = some fn) (hb : fn.body = some c) (hname : (fn.name == "runtime.NumGoroutine") = false) (hlex : lexAll c = true) (hargs : args.length ≤ fn.ntmps)
    (hw : ∀ p, HooksOK P T M h.length fn.ntmps p → p.rowq = ρ → wpc p T M fn.ntmps c ⟨args0 args, h⟩ (endPost p T fn.results.toList R)) : Does P f args h R :=
  spec_of hP.tab hP.mtab hP.mixed (hooks_real P T M h.length fn.ntmps ρ) hf hb hname hlex hargs (hw _ (hooks_real P T M h.length fn.ntmps ρ) rfl)

def okB (fn : Func) (n : Nat) : Bool := match fn.body with
  | some c => match fn.name == "runtime.NumGoroutine" with
    | true => false
    | false => match lexAll c with
      | true => Nat.ble n fn.ntmps
      | false => false
  | none => false
/-- The same, its conditions looked over at once. -/
theorem does {P : Program} {T : Tab} {M : MTab} (ρ : Nat → Bool) (hP : ProgOK P T M) {f : FuncId} (fn : Func) {args : List AVal} {h : Heap} {R : AVal → Heap → Prop}
    (hf : P.funcs[f]? = some fn) (hB : okB fn args.length = true)
    (hw : ∀ p, HooksOK P T M h.length fn.ntmps p → p.rowq = ρ → wpc p T M fn.ntmps (fn.body.getD .skip) ⟨args0 args, h⟩ (endPost p T fn.results.toList R)) : Does P f args h R := by
  unfold okB at hB
  split at hB
  · rename_i c hb
    split at hB
    · cases hB
    · rename_i hn
      split at hB
      · rename_i hl
        exact spec_by ρ hP hf hb hn hl (Nat.le_of_ble_eq_true hB) (fun p hk hr => by have := hw p hk hr; rwa [hb] at this)
      · cases hB
  · cases hB
section
variable {P : Program} {T : Tab} {M : MTab} {n0 nt : Nat} {p : Pr} (hk : HooksOK P T M n0 nt p)
include hk
theorem HooksOK.finI {R : AVal → Heap → Prop} {r : AVal} {h : Heap} (hh : rFin n0 R r h) : p.fin R r h := by rw [hk.fin]; exact hh
theorem HooksOK.callI {f : FuncId} {args : List AVal} {h : Heap} {K : AVal → Heap → Prop} {R : AVal → Heap → Prop} (hs : Does P f args h R) (hK : ∀ r h', R r h' → K r h') : p.call f args h K := by
  rw [hk.calls.call]; exact hs.mono hK
theorem HooksOK.calldI {f : FuncId} {args : List AVal} {h : Heap} {K : AVal → Prop} {r : AVal} (hs : Does P f args h fun r' h' => r' = r ∧ h' = h) (hK : K r) : p.calld f args h K := by
  rw [hk.calls.calld]; exact ⟨r, hs, hK⟩
theorem HooksOK.call1 {f : FuncId} {args : List AVal} {h : Heap} {K : AVal → Heap → Prop} {r : AVal} (hs : Does P f args h fun r' h' => r' = r ∧ h' = h) (hK : K r h) : p.call f args h K :=
  hk.callI hs fun r' h' ⟨e1, e2⟩ => by subst e1; subst e2; exact hK
theorem HooksOK.loopI {body : St → (Exit → St → Prop) → Prop} {s : St} {Q : Exit → St → Prop} (hh : rLoop n0 nt body s Q) : p.loop body s Q := by rw [hk.loop]; exact hh
theorem HooksOK.ndI {q : Need} (hh : rNd q) : p.nd q := by rw [hk.data.nd]; exact hh
end
/-! ### Values told otherwise -/
/-- v' says less than v, over this heap. -/
def Wk (h : Heap) (v v' : AVal) : Prop := ∀ e c, Good e → e.h = h → VR e v c → VR e v' c
theorem Wk.refl (h : Heap) (v : AVal) : Wk h v v := fun _ _ _ _ hv => hv
theorem Wk.of_eq {h : Heap} {v v' : AVal} (e : v = v') : Wk h v v' := e ▸ .refl h v
theorem Wk.junk (h : Heap) (v : AVal) : Wk h v .junk := fun _ _ _ _ _ => .pure _ _ (.junk _)
theorem Wk.trans {h : Heap} {v v' v'' : AVal} (h1 : Wk h v v') (h2 : Wk h v' v'') : Wk h v v'' := fun e c hg he hv => h2 e c hg he (h1 e c hg he hv)
theorem Wk.any (h : Heap) (q : LX) (c : Cap) : Wk h (.ls q c) (.ls q .any) := fun e v hg he hv => by
  cases hv with
  | pure _ _ hp => cases hp with
    | lsnil _ _ hq hf hc => exact .pure _ _ (.lsnil q .any hq hf (.inl rfl))
    | lse _ a hq hf => exact .pure _ _ (.lse q a hq hf)
    | ls _ b off cap cv h1 h2 h3 h4 h5 h6 h7 => exact .pure _ _ (.ls q b off cap cv h1 h2 h3 h4 h5 h6 h7)
  | tok _ i n _ hp ht => exact .pure _ _ hp
/-- An empty list is an empty list. -/
theorem Wk.empty (h : Heap) {q q' : LX} {c : Cap} (hq : q.n = 0) (hq' : q'.n = 0) (hf : q'.fit) (hc : c = .any ∨ c = .nil) : Wk h (.ls q c) (.ls q' c) := fun e v hg he hv => by
  have e1 : q'.n = q.n := by rw [hq, hq']
  cases hv with
  | pure _ _ hp => cases hp with
    | lsnil _ _ h1 h2 h3 => exact .pure _ _ (.lsnil q' c hq' hf hc)
    | lse _ a h1 h2 => exact .pure _ _ (.lse q' a hq' hf)
    | ls _ b off cap cv h1 h2 h3 h4 h5 h6 h7 =>
      refine .pure _ _ ?_
      rw [← e1]
      exact .ls q' b off cap cv (by omega) hf (fun i hi => by omega) (fun h => by omega) (fun i j hi => by omega) (fun i j hi => by omega) (fun i j hi => by omega)
  | tok _ i n _ hp ht => rcases hc with h | h <;> cases h
def Holds (h : Heap) (tm : Nat → AVal) : List (Nat × AVal) → Prop
  | [] => True
  | (d, v) :: r => Wk h (tm d) v ∧ Holds h tm r
theorem Holds.get {h : Heap} {tm : Nat → AVal} : ∀ {l : List (Nat × AVal)}, Holds h tm l → ∀ t, Wk h (tm t) (tmL l t)
  | [], _, t => .junk _ _
  | (d, v) :: r, hh, t => by
    unfold tmL
    split
    · rename_i hb
      rw [Nat.eq_of_beq_eq_true hb]
      exact hh.1
    · exact hh.2.get t
theorem Holds.nil (h : Heap) (tm : Nat → AVal) : Holds h tm [] := trivial
theorem Holds.cons {h : Heap} {tm : Nat → AVal} {d : Nat} {v : AVal} {r : List (Nat × AVal)} (h1 : Wk h (tm d) v) (h2 : Holds h tm r) : Holds h tm ((d, v) :: r) := ⟨h1, h2⟩
theorem Gh.refl (n0 nt : Nat) (s : St) : Gh n0 nt s s := fun e0 e a _ h => ⟨e, rfl, h⟩
theorem Gh.trans {n0 nt : Nat} {s s1 s2 : St} (h : Gh n0 nt s s1) (k : Gh n0 nt s1 s2) : Gh n0 nt s s2 := fun e0 e a hn hs => by
  obtain ⟨e1, w1, h1⟩ := h e0 e a hn hs
  obtain ⟨e2, w2, h2⟩ := k e0 e1 a hn h1
  exact ⟨e2, w2.trans w1, h2⟩
/-- Less is said of the temporaries. -/
theorem Gh.tm {n0 nt : Nat} {tm : Nat → AVal} {h : Heap} {l : List (Nat × AVal)} (hh : Holds h tm l) : Gh n0 nt ⟨tm, h⟩ ⟨tmL l, h⟩ := fun e0 e a _ hs =>
  ⟨e, rfl, hs.good, hs.heap, fun t => hh.get t e _ hs.good hs.heap (hs.tm t), hs.size, hs.marks, hs.upd, hs.ext⟩
theorem Gh.wk {n0 nt : Nat} {tm tm' : Nat → AVal} {h : Heap} (hh : ∀ t, Wk h (tm t) (tm' t)) : Gh n0 nt ⟨tm, h⟩ ⟨tm', h⟩ := fun e0 e a _ hs =>
  ⟨e, rfl, hs.good, hs.heap, fun t => hh t e _ hs.good hs.heap (hs.tm t), hs.size, hs.marks, hs.upd, hs.ext⟩

/-! ### Loops -/
/-- A LOOP: an invariant over what varies, a measure. -/
theorem loop_rule {n0 nt : Nat} {body : St → (Exit → St → Prop) → Prop} {s : St} {Q : Exit → St → Prop} {α : Type} (fr : α → List (Nat × AVal)) (hp : α → Heap) (J : α → Prop) (μ : α → Nat) (x0 : α)
    (hJ : J x0) (h0 : Gh n0 nt s ⟨tmL (fr x0), hp x0⟩)
    (hb : ∀ x, J x → ∀ Q' : Exit → St → Prop, (∀ y s', J y → μ y < μ x → Gh n0 nt s' ⟨tmL (fr y), hp y⟩ → Q' .normal s') → (∀ id s', Q (.exit id) s' → Q' (.exit id) s') → (∀ s', Q .ret s' → Q' .ret s') →
      body ⟨tmL (fr x), hp x⟩ Q') : rLoop n0 nt body s Q := by
  refine ⟨fun m s => ∃ x, J x ∧ μ x = m ∧ s = ⟨tmL (fr x), hp x⟩, ⟨_, _, h0, x0, hJ, rfl, rfl⟩, fun m s ⟨x, hx, hm, hs⟩ => ?_⟩
  subst hs
  exact hb x hx _ (fun y s' hy hlt hg => ⟨_, _, by rw [← hm]; exact hlt, hg, y, hy, rfl, rfl⟩) (fun id s' h => h) (fun s' h => h)

/-! ### The end -/
mutual
/-- It leads to none but the first n objects. -/
def low (n : Nat) : AVal → Bool
  | .bool _ | .int _ _ | .str _ | .ls _ .any | .ls _ .nil | .pp _ | .nilp | .nilf | .nili | .und | .junk => true
  | .ls _ (.tok i _) | .sl i _ _ _ | .ptr i _ | .pe i _ _ _ | .yld i => Nat.blt i n
  | .agg vs | .tup vs => lows n vs
  | .clo _ a b => match lows n a with
    | true => lows n b
    | false => false
  | .iface _ v => low n v
def lows (n : Nat) : List AVal → Bool
  | [] => true
  | v :: r => match low n v with
    | true => lows n r
    | false => false
end
mutual
def shPure : Sh → Bool
  | .rc l => shPures l
  | .any => false
  | _ => true
def shPures : List Sh → Bool
  | [] => true
  | s :: r => match shPure s with
    | true => shPures r
    | false => false
end
def lowL (m : Nat) : List (Nat × AVal) → Bool
  | [] => true
  | (_, v) :: r => match low m v with
    | true => lowL m r
    | false => false
theorem lowL_get {m : Nat} : ∀ {l : List (Nat × AVal)}, lowL m l = true → ∀ t, low m (tmL l t) = true
  | [], _, t => rfl
  | (d, v) :: r, h, t => by
    unfold lowL at h
    split at h
    · rename_i hv
      unfold tmL
      split
      · exact hv
      · exact lowL_get h t
    · cases h
def lowO (n : Nat) : AObj → Bool
  | .box vs => lows n vs
  | .rw _ (.gl s _) => shPure s
  | .loop L => lowL n L.l
  | _ => true
def lowOs (n : Nat) : List AObj → Bool
  | [] => true
  | o :: r => match lowO n o with
    | true => lowOs n r
    | false => false
theorem lows_get {n : Nat} : ∀ {l : List AVal}, lows n l = true → ∀ i, i < l.length → low n (l.getD i .junk) = true
  | [], _, i, hi => by simp at hi
  | v :: r, h, i, hi => by
    unfold lows at h
    split at h
    · rename_i hv
      cases i with
      | zero => exact hv
      | succ i => simpa using lows_get h i (by simpa using hi)
    · cases h
theorem lowOs_get {n : Nat} : ∀ {l : List AObj}, lowOs n l = true → ∀ (i : Nat) o, l[i]? = some o → lowO n o = true
  | [], _, i, o, hi => by simp at hi
  | v :: r, h, i, o, hi => by
    unfold lowOs at h
    split at h
    · rename_i hv
      cases i with
      | zero => simp at hi; subst hi; exact hv
      | succ i => exact lowOs_get h i o (by simpa using hi)
    · cases h
mutual
theorem eta_low (n : Nat) : ∀ (s : Sh) (x : AVal), shPure s = true → low n (etaR s x) = true
  | .int k, x, h => by simp only [etaR, low]
  | .bool, x, h => by simp only [etaR, low]
  | .str, x, h => by simp only [etaR, low]
  | .li k, x, h => by simp only [etaR, low]
  | .lg s, x, h => by simp only [etaR, low]
  | .rc l, x, h => by simp only [etaR, low]; exact etas_low n l 0 x (by simpa [shPure] using h)
  | .any, x, h => by simp [shPure] at h
theorem etas_low (n : Nat) : ∀ (l : List Sh) (j : Nat) (x : AVal), shPures l = true → lows n (etasR l j x) = true
  | [], _, _, _ => by simp only [etasR, lows]
  | s :: r, j, x, h => by
    unfold shPures at h
    split at h
    · rename_i hs
      simp only [etasR, lows]
      rw [eta_low n s (rFc x j) hs]
      exact etas_low n r (j + 1) x h
    · cases h
end
theorem low_cells {n : Nat} {v : AVal} (h : low n v = true) : lows n v.cells = true := by
  cases v <;> simp only [AVal.cells, lows, h]
  simpa [low] using h
section
variable {e : Env} {n : Nat}
theorem take_get {i : Nat} {o : Option AObj} (hi : i < n) : (e.h.take n)[i]? = e.h[i]? := by
  rw [List.getElem?_take, if_pos hi]
theorem VR.low {v : AVal} {c : Value} (h : VR e v c) : Go.AL.low n v = true → VR { e with h := e.h.take n } v c := by
  induction h with
  | pure v c h => exact fun _ => .pure v c h
  | tok q i m c h ht =>
    intro hp
    have hi : i < n := by simpa [Go.AL.low] using hp
    refine .tok q i m c h ?_
    show tokAt (e.h.take n)[i]? m _
    rw [take_get (o := none) hi]
    exact ht
  | sl i g lo hi c h1 h =>
    intro hp
    have hi : i < n := by simpa [Go.AL.low] using hp
    refine .sl i g lo _ c h1 ?_
    show rwAt (e.h.take n)[i]? g _
    rw [take_get (o := none) hi]
    exact h
  | ptr i off c h1 h =>
    intro hp
    have hi : i < n := by simpa [Go.AL.low] using hp
    refine .ptr i off c h1 ?_
    show boxAt (e.h.take n)[i]? _
    rw [take_get (o := none) hi]
    exact h
  | pe i g ix off c h1 h =>
    intro hp
    have hi : i < n := by simpa [Go.AL.low] using hp
    refine .pe i g ix off c h1 ?_
    show rwAt (e.h.take n)[i]? g _
    rw [take_get (o := none) hi]
    exact h
  | agg vs cs hl hv ih =>
    intro hp
    exact .agg vs cs hl fun i hi => ih i hi (lows_get (by simpa [Go.AL.low] using hp) i hi)
  | tup vs cs hl hv ih =>
    intro hp
    exact .tup vs cs hl fun i hi => ih i hi (lows_get (by simpa [Go.AL.low] using hp) i hi)
  | clo f fs cs gs ds h1 h2 hf hc ih1 ih2 =>
    intro hp
    unfold Go.AL.low at hp
    split at hp
    · rename_i ha
      exact .clo f fs cs gs ds h1 h2 (fun i hi => ih1 i hi (lows_get ha i hi)) (fun i hi => ih2 i hi (lows_get hp i hi))
    · cases hp
  | yld i c h1 h =>
    intro hp
    have hi : i < n := by simpa [Go.AL.low] using hp
    refine .yld i c h1 ?_
    show loopAt (e.h.take n)[i]? _
    rw [take_get (o := none) hi]
    exact h
  | iface t v c h ih =>
    intro hp
    exact .iface t v c (ih (by simpa [Go.AL.low] using hp))
theorem ObjOK.low {i : Nat} {o : AObj} (h : ObjOK e i o) (hl : lowO n o = true) : ObjOK { e with h := e.h.take n } i o := by
  cases o with
  | box vs =>
    obtain ⟨b, cs, el, h1, h2, h3, h4, h5⟩ := h
    exact ⟨b, cs, el, h1, h2, h3, h4, fun j hj => (h5 j hj).low (lows_get hl j hj)⟩
  | rw g q =>
    rcases h with ⟨h1, h2⟩ | ⟨b, cs, el, h1, h2, h3, h4, h5, h6, h7⟩
    · exact .inl ⟨h1, h2⟩
    · refine .inr ⟨b, cs, el, h1, h2, h3, h4, h5, h6, fun i j hi hj => ⟨(h7 i j hi hj).1.low ?_, (h7 i j hi hj).2⟩⟩
      have hc := h6 i hi
      cases q with
      | nl => simp [LX.n, LX.toL] at hi
      | il k l =>
        simp only [LX.n, LX.toL, List.length_map] at hi
        simp only [LX.k] at hj
        have : j = 0 := by omega
        subst this
        simp [LX.at_, LX.toL, List.getD, hi, AVal.cells, Go.AL.low]
      | gl s xs =>
        simp only [LX.n, LX.toL] at hi
        have hx : (LX.gl s xs).at_ i ∈ xs := by simp [LX.at_, LX.toL, List.getD, hi]
        have he := h5 _ hx
        have : Go.AL.low n ((LX.gl s xs).at_ i) = true := by rw [← he]; exact eta_low n s _ hl
        exact lows_get (low_cells this) j (by rw [hc]; exact hj)
  | tok m => exact h
  | loop r =>
    obtain ⟨b, r2, h1, h2, h3, h4⟩ := h
    exact ⟨b, r2, h1, h2, h3, fun t => (h4 t).low (lowL_get hl t)⟩
  | dead g => trivial
end
/-- THE END: what was made on the way is forgotten, where nothing that stays leads to it. -/
theorem fin_low {n0 : Nat} {R : AVal → Heap → Prop} {r r' : AVal} {h : Heap} (hw : Wk h r r') (hp : low n0 r' = true) (ho : lowOs n0 (h.take n0) = true) (hR : R r' (h.take n0)) : rFin n0 R r h := fun e0 e c hn hg he hv hu hx => by
  subst he
  have look : ∀ {i : Nat} {o : AObj}, (e.h.take n0)[i]? = some o → i < n0 ∧ e.h[i]? = some o := fun {i o} ho => by
    rw [List.getElem?_take] at ho
    split at ho
    · exact ⟨by assumption, ho⟩
    · cases ho
  have own : ∀ b, Owned { e with h := e.h.take n0 } b → Owned e b := fun b ⟨i, o, h1, h2, h3⟩ => ⟨i, o, (look h1).2, h2, h3⟩
  refine ⟨r', { e with h := e.h.take n0 }, hR, rfl, ⟨fun i o h1 => ?_, fun i j oi oj b h1 h2 h3 h4 h5 h6 => hg.inj i j oi oj b (look h1).2 h2 (look h3).2 h4 h5 h6, hg.ps⟩, (hw e c hg rfl hv).low hp, ?_, ?_⟩
  · exact ObjOK.low (hg.obj i o (look h1).2) (lowOs_get ho i o h1)
  · exact ⟨hu.os, hu.tape, hu.output, hu.size, hu.frame, fun b hb => hu.own b (own b hb)⟩
  · refine ⟨fun i o hi h1 => ?_, hx.ps, hx.cell, hx.size⟩
    obtain ⟨o', h2, h3⟩ := hx.obj i o hi h1
    refine ⟨o', ?_, h3⟩
    show (e.h.take n0)[i]? = some o'
    rw [take_get (o := none) hi]; exact h2
theorem fin_keep {n0 : Nat} {R : AVal → Heap → Prop} {r r' : AVal} {h : Heap} (hw : Wk h r r') (hR : R r' h) : rFin n0 R r h := fun e0 e c hn hg he hv hu hx => by
  subst he
  exact ⟨r', e, hR, rfl, hg, hw e c hg rfl hv, hu, hx⟩
theorem fin_same {n0 : Nat} {R : AVal → Heap → Prop} {r : AVal} {h : Heap} (hR : R r h) : rFin n0 R r h := fin_keep (.refl h r) hR
/-- THE END over the empty heap. -/
theorem fin_nil {R : AVal → Heap → Prop} {r r' : AVal} {h : Heap} (hw : Wk h r r') (hp : low 0 r' = true) (hR : R r' []) : rFin 0 R r h := fin_low hw hp rfl hR
/-- Over an empty heap everything is pure. -/
theorem VR.pureOf {e : Env} {v : AVal} {c : Value} (h : VR e v c) (he : e.h = []) : PVR e.w e.ps v c := by
  have no : ∀ i : Nat, e.h[i]? = none := fun i => by rw [he]; simp
  induction h with
  | pure v c h => exact h
  | tok q i n c h ht => rw [no] at ht; exact ht.elim
  | sl i g lo hi c h1 h => rw [no] at h; exact h.elim
  | ptr i off c h1 h => rw [no] at h; exact h.elim
  | pe i g ix off c h1 h => rw [no] at h; exact h.elim
  | agg vs cs hl hv ih => exact .agg vs cs hl ih
  | tup vs cs hl hv ih => exact .tup vs cs hl ih
  | clo f fs cs gs ds h1 h2 hf hc ih1 ih2 => exact .clo f fs cs gs ds h1 h2 ih1 ih2
  | yld i c h1 h => rw [no] at h; exact h.elim
  | iface t v c h ih => exact .iface t v c ih
/-- A CONTRACT OVER THE EMPTY HEAP IS ONE OVER ANY. -/
theorem frame0 {P : Program} {f : FuncId} {args : List AVal} {v : AVal} (hd : Does P f args [] fun r h' => r = v ∧ h' = []) (ha : lows 0 args = true) (hv : low 0 v = true) (h : Heap) :
    Does P f args h fun r h' => r = v ∧ h' = h := by
  refine ⟨hd.1, fun e cs hg he hargs => ?_⟩
  have hg1 : Good { e with h := e.h.take 0 } := ⟨fun i o h1 => by simp at h1, fun i j oi oj b h1 => by simp at h1, hg.ps⟩
  have ha1 : ArgsR { e with h := e.h.take 0 } args cs := ⟨hargs.len, fun i hi => (hargs.rel i hi).low (lows_get ha i hi)⟩
  have h1 := hd.2 { e with h := e.h.take 0 } cs hg1 (by simp) ha1
  refine Calls.mono h1 fun en w' hp => ?_
  cases en with
  | returned c =>
    obtain ⟨r, e1, ⟨e2, e3⟩, hw, hg2, hv2, hu, hx⟩ := hp
    subst e2
    have no : ∀ b, ¬ Owned { e with h := e.h.take 0 } b := fun b ⟨i, o, h1, _⟩ => by simp at h1
    have fr : ∀ i o b, e.h[i]? = some o → o.live = true → e.sg i = some b → e1.w.heap[b]? = e.w.heap[b]? ∧ e1.ps b = e.ps b := fun i o b h1 h2 h3 => by
      refine hu.frame b ?_ (no b)
      have h4 := hg.obj i o h1
      cases o with
      | box vs => obtain ⟨b', cs, el, k1, k2, _⟩ := h4; obtain rfl : b = b' := by rw [h3] at k1; exact Option.some.inj k1
                  exact (Array.getElem?_eq_some_iff.1 k2).1
      | rw g q =>
        rcases h4 with ⟨_, k1⟩ | ⟨b', cs, el, k1, k2, _⟩
        · rw [h3] at k1; cases k1
        · obtain rfl : b = b' := by rw [h3] at k1; exact Option.some.inj k1
          exact (Array.getElem?_eq_some_iff.1 k2).1
      | tok n => obtain ⟨cs, el, k2⟩ := h4 b h3; exact (Array.getElem?_eq_some_iff.1 k2).1
      | loop r => obtain ⟨b', r2, k1, k2, _⟩ := h4; obtain rfl : b = b' := by rw [h3] at k1; exact Option.some.inj k1
                  exact (Array.getElem?_eq_some_iff.1 k2).1
      | dead g => cases h2
    have hext : ∀ n, Ext n e { e with w := e1.w, ps := e1.ps } := fun n => by
      refine ⟨fun i o hi ho => ⟨o, ho, ?_⟩, hx.ps, hx.cell, hx.size⟩
      cases o with
      | tok n => exact ⟨Nat.le_refl _, fun _ => ⟨rfl, fun b hb => (fr i _ b ho rfl hb).2⟩⟩
      | box vs => exact ⟨rfl, rfl⟩
      | rw g q => exact ⟨Nat.le_refl _, fun _ => ⟨rfl, rfl, rfl⟩⟩
      | loop r => exact rfl
      | dead g => exact Nat.le_refl _
    have vr : ∀ v c, VR e v c → VR { e with w := e1.w, ps := e1.ps } v c := fun v c h => h.mono (Nat.le_refl _) (hext _)
    refine ⟨r, { e with w := e1.w, ps := e1.ps }, ⟨rfl, he⟩, hw, ⟨fun i o ho => ?_, hg.inj, hg2.ps⟩, ?_, ?_, hext _⟩
    · have h4 := hg.obj i o ho
      cases o with
      | box vs =>
        obtain ⟨b, cs, el, k1, k2, k3, k4, k5⟩ := h4
        obtain ⟨f1, f2⟩ := fr i _ b ho rfl k1
        exact ⟨b, cs, el, k1, f1.trans k2, k3, f2.trans k4, fun j hj => vr _ _ (k5 j hj)⟩
      | rw g q =>
        rcases h4 with k | ⟨b, cs, el, k1, k2, k3, k4, k5, k6, k7⟩
        · exact .inl k
        · obtain ⟨f1, f2⟩ := fr i _ b ho rfl k1
          exact .inr ⟨b, cs, el, k1, f1.trans k2, k3, f2.trans k4, k5, k6, fun i j hi hj => ⟨vr _ _ (k7 i j hi hj).1, (k7 i j hi hj).2⟩⟩
      | tok n =>
        intro b hb
        obtain ⟨cs, el, k2⟩ := h4 b hb
        exact ⟨cs, el, (fr i _ b ho rfl hb).1.trans k2⟩
      | loop r =>
        obtain ⟨b, r2, k1, k2, k3, k4⟩ := h4
        exact ⟨b, r2, k1, (fr i _ b ho rfl k1).1.trans k2, k3, fun t => vr _ _ (k4 t)⟩
      | dead g => trivial
    · have h5 := hv2.low (n := 0) hv
      have e4 : ({ e1 with h := e1.h.take 0 } : Env).w = e1.w := rfl
      have h6 : PVR e1.w e1.ps r c := VR.pureOf (e := { e1 with h := e1.h.take 0 }) h5 (by simp)
      exact .pure _ _ h6
    · exact ⟨hu.os, hu.tape, hu.output, hu.size, fun b hb ho => hu.frame b hb (no b), fun b ⟨i, o, h1, h2, h3⟩ => .inl ⟨i, o, h1, h2, h3⟩⟩
  | _ => exact hp.elim
end Go.AL
