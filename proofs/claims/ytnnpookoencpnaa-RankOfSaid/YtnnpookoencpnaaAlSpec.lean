/-
  AL: a function's contract from its body.
-/
import Derived.Test.YtnnpookoencpnaaAlWp
import Derived.RangeFuncRecord
set_option linter.unusedSectionVars false
set_option linter.unusedVariables false
set_option linter.unusedSimpArgs false
namespace Go.AL
open Go

theorem heap_putObj_ne {w : World} {D b : Nat} {o : Obj} (h : b ≠ D) : (w.putObj D o).heap[b]? = w.heap[b]? := by
  simp only [World.putObj]
  rw [Array.getElem?_setIfInBounds_ne (Ne.symm h)]
/-- A mark's block shut. -/
theorem shut {e0 e : Env} {n : Nat} {D : Nat} {x : Option (List Deferred)} (hg : Good e) (hD : e.w.heap[D]? = some (.deferred x)) (hno : ¬ Owned e D) (h0 : e0.w.heap.size ≤ D) (hu : Upd e0 e) (hx : Ext n e0 e) :
    let e' : Env := { e with w := e.w.putObj D (.deferred none) }
    Good e' ∧ Upd e0 e' ∧ Ext n e0 e' ∧ ∀ v c, VR e v c → VR e' v c := by
  intro e'
  have hcs : ∀ b, cellsSize e.w b ≤ cellsSize e'.w b := fun b => by
    by_cases hb : b = D
    · subst hb; unfold cellsSize; rw [hD]; exact Nat.zero_le _
    · unfold cellsSize
      rw [show e'.w.heap[b]? = e.w.heap[b]? from heap_putObj_ne hb]
      exact Nat.le_refl _
  have hps0 : e.ps D = 0 := by
    have := hg.ps D
    unfold cellsSize at this
    rw [hD] at this
    exact Nat.le_zero.1 this
  have hcell : ∀ b o, o < e.ps b → e'.w.cell? ⟨b, o, none⟩ = e.w.cell? ⟨b, o, none⟩ := fun b o ho => by
    have hb : b ≠ D := fun e => by subst e; omega
    have := heap_putObj_ne (w := e.w) (o := .deferred none) hb
    unfold World.cell?
    rw [show e'.w.heap[b]? = e.w.heap[b]? from this]
  have hx1 : ∀ m, Ext m e e' := fun m => ⟨fun i o _ ho => ⟨o, ho, OMono.kept rfl rfl i o⟩, fun _ => Nat.le_refl _, hcell, hcs⟩
  have hv : ∀ v c, VR e v c → VR e' v c := fun v c h => h.mono (Nat.le_refl _) (hx1 _)
  have hgood : Good e' := by
    refine ⟨fun i o ho => ?_, hg.inj, fun b => Nat.le_trans (hg.ps b) (hcs b)⟩
    refine ObjOK.moved (e := e) rfl (fun b hl hb => heap_putObj_ne fun hbD => ?_) rfl hv (hg.obj i o ho)
    subst hbD
    exact hno ⟨i, o, ho, hl, hb⟩
  refine ⟨hgood, ?_, hx.trans (hx1 n), hv⟩
  refine ⟨hu.os, hu.tape, hu.output, by simpa [e', World.putObj] using hu.size, fun b hb ho => ?_, fun b hb => ?_⟩
  · have h1 := hu.frame b hb ho
    exact ⟨(heap_putObj_ne (by omega)).trans h1.1, h1.2⟩
  · exact hu.own b hb
def resF (tmps : Array Value) : ResultVar → Sem Value
  | .tmp t => pure (tmps.getD t undef)
  | .cell a t => do loadVar t (← asAddr (tmps.getD a undef))
theorem results_resF (fn : Func) (tmps : Array Value) : results fn tmps = (do
    let vs ← fn.results.mapM (resF tmps)
    pure (if h : vs.size = 1 then vs[0] else .tuple vs)) := by
  unfold results
  congr 2
section
variable {P : Program} {T : Tab} {M : MTab} (hT : TabOK P T) {p : Pr} (hp : DataOK p) {e0 : Env} {nt : Nat} {s : St}
include hT hp
theorem res_ok {e : Env} {tmps : Array Value} (hg : Good e) (hh : e.h = s.h) (ht : ∀ t, VR e (s.tm t) (tmps.getD t undef)) :
    ∀ (l : List ResultVar) (vs : List AVal), resAs p T s l = some vs → ∃ cs : List Value, (l.mapM (resF tmps)).run P e.w = .ok cs e.w ∧ vs.length = cs.length ∧ ∀ i, i < vs.length → VR e (vs.getD i .junk) (cs.getD i undef)
  | [], vs, h => by
    cases h
    exact ⟨[], by simp, rfl, fun i hi => by simp at hi⟩
  | r :: rs, vs, h => by
    simp only [resAs] at h
    cases h1 : resA p T s r with
    | none => rw [h1] at h; cases h
    | some v =>
      rw [h1] at h
      simp only at h
      cases h2 : resAs p T s rs with
      | none => rw [h2] at h; cases h
      | some us =>
        rw [h2] at h
        cases h
        obtain ⟨cs, k1, k2, k3⟩ := res_ok hg hh ht rs us h2
        have one : ∃ c, (resF tmps r).run P e.w = .ok c e.w ∧ VR e v c := by
          cases r with
          | tmp t =>
            cases h1
            exact ⟨_, by simp only [resF, Sem.run_pure], ht t⟩
          | cell a t =>
            simp only [resA] at h1
            have hl := aLoad_keep hT hg hp (t := t) (ht a)
            rw [hh] at hl
            cases hld : aLoad p T t (s.tm a) s.h with
            | ok x hx =>
              rw [hld] at h1 hl
              cases h1
              obtain ⟨_, c, hr, hv⟩ := hl
              refine ⟨c, ?_, hv⟩
              simp only [Instr.loadAt] at hr
              simp only [resF]
              generalize tmps.getD a undef = y at hr ⊢
              cases y with
              | pointer o =>
                cases o with
                | none => simp [Instr.sureAddr, stuck, Sem.run_bind] at hr
                | some a => simpa [Instr.sureAddr, asAddr, Sem.run_bind] using hr
              | _ => simp [Instr.sureAddr, stuck, Sem.run_bind] at hr
            | need => rw [hld] at h1; cases h1
            | stuck => rw [hld] at h1; cases h1
        obtain ⟨c, j1, j2⟩ := one
        refine ⟨c :: cs, ?_, by simp [k2], fun i hi => ?_⟩
        · rw [List.mapM_cons, Sem.run_bind, j1, Result.andThen_ok, Sem.run_bind, k1, Result.andThen_ok, Sem.run_pure]
        · cases i with
          | zero => exact j2
          | succ i => simpa using k3 i (by simpa using hi)
theorem results_ok {fn : Func} {e : Env} {tmps : Array Value} (hg : Good e) (hh : e.h = s.h) (ht : ∀ t, VR e (s.tm t) (tmps.getD t undef)) {vs : List AVal} (h : resAs p T s fn.results.toList = some vs) :
    ∃ c, (results fn tmps).run P e.w = .ok c e.w ∧ VR e (one1 vs) c := by
  obtain ⟨cs, k1, k2, k3⟩ := res_ok hT hp hg hh ht _ _ h
  refine ⟨if h : cs.toArray.size = 1 then cs.toArray[0] else .tuple cs.toArray, ?_, ?_⟩
  · rw [results_resF]
    rw [Array.mapM_eq_mapM_toList, Sem.run_bind, Sem.run_map]
    rw [k1]
    rfl
  · by_cases h1 : cs.length = 1
    · obtain ⟨c, rfl⟩ := List.length_eq_one_iff.1 h1
      obtain ⟨v, rfl⟩ := List.length_eq_one_iff.1 (k2.trans h1)
      have := k3 0 (by simp)
      simpa [one1] using this
    · rw [dif_neg (by simpa using h1)]
      have e1 : one1 vs = .tup vs := by
        unfold one1
        split
        · rename_i v; simp at k2; omega
        · rfl
      rw [e1]
      exact .tup vs cs.toArray (by simpa using k2) (fun i hi => by simpa using k3 i hi)
theorem leaves_ok {fn : Func} {R : AVal → Heap → Prop} {n : Nat} {tmps : Array Value} {vs : List AVal} (hvs : resAs p T s fn.results.toList = some vs) (hfin : rFin e0.h.length R (one1 vs) s.h) :
    ∀ (dl : List Nat) (e : Env), Good e → e.h = s.h → (∀ t, VR e (s.tm t) (tmps.getD t undef)) → Upd e0 e → Ext e0.h.length e0 e → dl.Nodup →
      (∀ D ∈ dl, e0.w.heap.size ≤ D ∧ e.w.heap[D]? = some (.deferred (some [])) ∧ ¬ Owned e D) → LeavesInM (Fw none) n P fn tmps (Post e0 R) (dl.map mark_) .returning e.w
  | [], e, hg, hh, ht, hu, hx, hnd, hD => by
    obtain ⟨c, k1, k2⟩ := results_ok hT hp hg hh ht hvs
    refine ⟨c, k1, ?_⟩
    obtain ⟨r', e', j1, j2, j3, j4, j5, j6⟩ := hfin e0 e c rfl hg hh k2 hu hx
    exact ⟨r', e', j1, j2, j3, j4, j5, j6⟩
  | D :: dl, e, hg, hh, ht, hu, hx, hnd, hD => by
    obtain ⟨d1, d2, d3⟩ := hD D (by simp)
    obtain ⟨g1, g2, g3, g4⟩ := shut hg d2 d3 d1 hu hx
    refine ⟨by simp, .inl ⟨D, _, rfl, run_takeDeferred d2, ?_⟩⟩
    rw [List.nodup_cons] at hnd
    refine leaves_ok hvs hfin dl { e with w := e.w.putObj D (.deferred none) } g1 hh (fun t => g4 _ _ (ht t)) g2 g3 hnd.2 fun D' hD' => ?_
    obtain ⟨f1, f2, f3⟩ := hD D' (by simp [hD'])
    exact ⟨f1, (heap_putObj_ne (fun e => hnd.1 (by rw [← e]; exact hD'))).trans f2, f3⟩
end
/-- All the hooks are the real ones. -/
structure HooksOK (P : Program) (T : Tab) (M : MTab) (n0 nt : Nat) (p : Pr) : Prop where
  data : DataOK p
  calls : CallOK P p
  loop : p.loop = rLoop n0 nt
  rfun : p.rfun = rRfun P nt
  fin : p.fin = rFin n0
/-- A FUNCTION's CONTRACT FROM ITS BODY. -/
theorem spec_of {P : Program} {T : Tab} {M : MTab} (hT : TabOK P T) (hM : MTabOK P T M) (hm : P.follows .mixedOrders = true) {p : Pr} {f : FuncId} {fn : Func} {c : Code} {args : List AVal} {h : Heap} {R : AVal → Heap → Prop}
    (hk : HooksOK P T M h.length fn.ntmps p)
    (hf : P.funcs[f]? = some fn) (hb : fn.body = some c) (hname : (fn.name == "runtime.NumGoroutine") = false) (hlex : lexAll c = true) (hargs : args.length ≤ fn.ntmps)
    (hw : wpc p T M fn.ntmps c ⟨args0 args, h⟩ (endPost p T fn.results.toList R)) : Does P f args h R := by
  refine ⟨⟨fn, hf, hname, by rw [hb]; rfl⟩, fun e cs hg he ha => ?_⟩
  refine callsIn_wide.1 (?_ : CallsIn Fence.wide 0 P f cs e.w (Post e R))
  refine callsIn_of_wp_marks hf hb trivial ?_
  have hsr : SR e fn.ntmps ⟨args0 args, h⟩ e { tmps := cs ++ Array.replicate (fn.ntmps - cs.size) undef, defers := [] } := by
    refine ⟨hg, he, fun t => ?_, ?_, ⟨[], rfl, List.nodup_nil, fun D hD => by simp at hD⟩, .refl e, .refl _ e⟩
    · have hl := ha.len
      simp only [args0]
      by_cases ht : t < args.length
      · have := ha.rel t ht
        have e1 : args.getD t .und = args.getD t .junk := by simp [List.getD, ht]
        have e2 : (cs ++ Array.replicate (fn.ntmps - cs.size) undef).getD t undef = cs.getD t undef := by
          simp only [Array.getD_eq_getD_getElem?]
          rw [Array.getElem?_append_left (by omega)]
        rw [e1, e2]; exact this
      · have e1 : args.getD t .und = .und := by simp [List.getD, ht]
        have e2 : (cs ++ Array.replicate (fn.ntmps - cs.size) undef).getD t undef = undef := by
          simp only [Array.getD_eq_getD_getElem?]
          rw [Array.getElem?_append_right (by omega)]
          by_cases h2 : t - cs.size < fn.ntmps - cs.size
          · simp [h2]
          · simp [h2]
        rw [e1, e2]; exact .pure _ _ .und
    · have := ha.len
      simp
      omega
  have hmain := wpc_ok hT hM hk.data hk.calls hm hk.loop hk.rfun c hlex none (.inl rfl) 0 ⟨args0 args, h⟩ e e _ (endPost p T fn.results.toList R) hsr (by rw [he]) hw
  refine wpIn_mono hmain fun ex a w ⟨s', e', k1, k2, k3⟩ => ?_
  subst k2
  have fin : endPost p T fn.results.toList R .ret s' → LeavesInM (Fw none) 0 P fn a.tmps (Post e R) a.defers .returning e'.w := fun k1 => by
    simp only [endPost] at k1
    split at k1
    · rename_i vs hvs
      rw [hk.fin] at k1
      obtain ⟨dl, d1, d2, d3⟩ := k3.marks.ex
      rw [d1]
      rw [← he] at k1
      exact leaves_ok hT hk.data hvs k1 dl e' k3.good k3.heap k3.tm k3.upd k3.ext d2 d3
    · exact k1.elim
  cases ex with
  | normal => exact fin k1
  | ret => exact fin k1
  | _ => exact k1.elim
end Go.AL
