/-
  AL: rounds: what a call of yield comes to, from the loop's body.
-/
import Derived.Test.YtnnpookoencpnaaAlK
set_option linter.unusedSectionVars false
set_option linter.unusedVariables false
set_option linter.unusedSimpArgs false
namespace Go.AL
open Go
/-- The temporaries that a round begins with. -/
def tmY (ps : List Tmp) (args : List AVal) (tm : Nat → AVal) : Nat → AVal := (ps.zip args).foldl (fun tm x => upd tm x.1 x.2) tm
theorem tmY_ok {e : Env} : ∀ (ps : List Tmp) (as : List AVal) (cs : List Value) (tm : Nat → AVal) (tmps : Array Value), as.length = cs.length → (∀ t ∈ ps, t < tmps.size) → (∀ i, i < as.length → VR e (as.getD i .junk) (cs.getD i undef)) →
    (∀ t, VR e (tm t) (tmps.getD t undef)) → (∀ t, VR e (tmY ps as tm t) (((ps.zip cs).foldl (fun tmps x => tmps.setIfInBounds x.1 x.2) tmps).getD t undef)) ∧ ((ps.zip cs).foldl (fun tmps x => tmps.setIfInBounds x.1 x.2) tmps).size = tmps.size
  | [], as, cs, tm, tmps, hl, hp, ha, ht => by simpa [tmY] using ht
  | p :: ps, [], [], tm, tmps, hl, hp, ha, ht => by simpa [tmY] using ht
  | p :: ps, [], c :: cs, tm, tmps, hl, hp, ha, ht => by simp at hl
  | p :: ps, a :: as, [], tm, tmps, hl, hp, ha, ht => by simp at hl
  | p :: ps, a :: as, c :: cs, tm, tmps, hl, hp, ha, ht => by
    have hps := hp p (by simp)
    have h1 := tmY_ok (e := e) ps as cs (upd tm p a) (tmps.setIfInBounds p c) (by simpa using hl) (fun t h => by rw [Array.size_setIfInBounds]; exact hp t (by simp [h])) (fun i hi => by simpa using ha (i + 1) (by simpa using hi)) (fun t => by
      rw [upd_get, Array.getD_eq_getD_getElem?, Array.getElem?_setIfInBounds]
      by_cases h : t = p
      · subst h
        rw [if_pos rfl, if_pos rfl, if_pos hps]
        exact ha 0 (by simp)
      · rw [if_neg h, if_neg (fun e => h e.symm)]
        have := ht t
        rwa [Array.getD_eq_getD_getElem?] at this)
    rw [Array.size_setIfInBounds] at h1
    exact h1
/-- What a round's end says. -/
def rRound (i : Nat) (R : AVal → Heap → Prop) (x : Exit) (s : St) : Prop := match s.h[i]? with
  | some (.loop L) => match x with
    | .normal => R (.bool true) (s.h.set i (.loop ⟨.ready, none, L.ps, L.assign, L.body, L.nt, L.l⟩))
    | .ret => R (.bool false) (s.h.set i (.loop ⟨.done, some .ret, L.ps, L.assign, L.body, L.nt, L.l⟩))
    | .exit id => R (.bool false) (s.h.set i (.loop ⟨.done, some (.exit id), L.ps, L.assign, L.body, L.nt, L.l⟩))
    | _ => False
  | _ => False
/-- The round begins, behind the assignments. -/
def rBegin (i : Nat) (body : St → (Exit → St → Prop) → Prop) (R : AVal → Heap → Prop) (x : Exit) (s : St) : Prop := match x with
  | .normal => match s.h[i]? with
    | some (.loop L) => L.st = .ready ∧ body ⟨s.tm, s.h.set i (.loop ⟨.busy, L.pend, L.ps, L.assign, L.body, L.nt, L.l⟩)⟩ (rRound i R)
    | _ => False
  | _ => False
section
variable {P : Program} {T : Tab} {M : MTab} (hP : ProgOK P T M)
include hP
/-- WHAT A CALL OF YIELD COMES TO. -/
theorem yld_does {p : Pr} {h : Heap} {i : Nat} {L : LoopA} (hk : HooksOK P T M h.length L.nt p) {args : List AVal} {R : AVal → Heap → Prop} (hi : h[i]? = some (.loop L)) (hlen : args.length = L.ps.size)
    (hlt : L.ps.toList.all (fun t => Nat.blt t L.nt) = true) (hla : lexAll L.assign = true) (hlb : lexAll L.body = true) (hna : noRange L.assign = true) (hnb : noRange L.body = true)
    (hw : wpc p T M L.nt L.assign ⟨tmY L.ps.toList args (tmL L.l), h⟩ (rBegin i (wpc p T M L.nt L.body) R)) : DoesV P (.yld i) args h R := by
  intro e c cs hg he hv ha
  subst he
  obtain ⟨b, r, hs, hb, ⟨of1, of2, of3, of4, of5, of6⟩, htm⟩ := hg.obj i _ hi
  have hc : c = .func (.yield b) #[] #[] := by
    cases hv with
    | pure _ _ h => cases h
    | yld _ _ h1 h =>
      rw [hi] at h
      obtain ⟨l, h2, h3⟩ := h
      rw [hs] at h2
      cases h2
      exact h3
  subst hc
  have hsz : cs.size = r.params.size := by rw [of3, ← hlen, ha.len]
  have hrun := run_yield (P := P) hb hsz
  refine ⟨.round b r.fn ((r.params.zip cs).foldl (fun tmps (x : Tmp × Value) => tmps.setIfInBounds x.1 x.2) r.tmps) r.assign r.body, e.w, ?_, ?_⟩
  · simp only [Deferred.ofValue, Sem.run_bind, Sem.run_pure, Result.andThen_ok, invoke]
    rw [show (#[] : Array Value) ++ cs = cs by simp]
    exact hrun
  · have hall : ∀ t ∈ L.ps.toList, t < r.tmps.size := fun t ht => by
      have := List.all_eq_true.1 hlt t ht
      rw [of6]; simpa [Nat.blt_eq] using this
    obtain ⟨ht, hts⟩ := tmY_ok (e := e) L.ps.toList args cs.toList (tmL L.l) r.tmps (by simpa using ha.len) hall (fun j hj => by
      have := ha.rel j hj
      simpa using this) htm
    have hfold : (r.params.zip cs).foldl (fun tmps x => tmps.setIfInBounds x.1 x.2) r.tmps = (L.ps.toList.zip cs.toList).foldl (fun tmps x => tmps.setIfInBounds x.1 x.2) r.tmps := by
      rw [of3, ← Array.foldl_toList, Array.toList_zip]
    refine roundIn_of_wpIn trivial ?_
    have hsr : SR e L.nt ⟨tmY L.ps.toList args (tmL L.l), e.h⟩ e { tmps := (r.params.zip cs).foldl (fun tmps (x : Tmp × Value) => tmps.setIfInBounds x.1 x.2) r.tmps, defers := [] } := by
      refine ⟨hg, rfl, fun t => ?_, ?_, ⟨[], rfl, List.nodup_nil, fun D hD => by simp at hD⟩, .refl e, .refl _ e⟩
      · show VR e _ (((r.params.zip cs).foldl (fun tmps (x : Tmp × Value) => tmps.setIfInBounds x.1 x.2) r.tmps).getD t undef)
        rw [hfold]; exact ht t
      · show ((r.params.zip cs).foldl (fun tmps (x : Tmp × Value) => tmps.setIfInBounds x.1 x.2) r.tmps).size = _
        rw [hfold, hts, of6]
    have h1 := wpc_ok hP.tab hP.mtab hk.data hk.calls hP.mixed hk.loop hk.rfun L.assign hla (some b) (.inr hna) 0 _ e e _ _ hsr rfl hw
    rw [of4, of5]
    refine wpIn_mono h1 fun x a1 w1 ⟨s1, e1, k1, k2, k3⟩ => ?_
    subst k2
    cases x with
    | normal =>
      unfold rBegin at k1
      simp only at k1
      split at k1
      · rename_i L1 hi1
        obtain ⟨hst, hbody⟩ := k1
        have hi1' : e1.h[i]? = some (.loop L1) := by rw [k3.heap]; exact hi1
        obtain ⟨b1, r1, hs1, hb1, of', htm1⟩ := k3.good.obj i _ hi1'
        have hil : i < e.h.length := (List.getElem?_eq_some_iff.1 hi).1
        have hbb : b1 = b := by
          obtain ⟨o', ho', hm⟩ := k3.ext.obj i _ hil hi
          rw [hi1'] at ho'
          cases ho'
          have hm : e1.sg i = e.sg i := hm
          rw [hs1, hs] at hm
          exact Option.some.inj hm
        subst hbb
        obtain ⟨g2, u2, x2⟩ := loop_put k3.good (r' := { r1 with state := .busy }) (o' := .loop ⟨.busy, L1.pend, L1.ps, L1.assign, L1.body, L1.nt, L1.l⟩) hi1' hs1 hb1 (.inr ⟨_, rfl, ⟨rfl, of'.2.1, of'.2.2.1, of'.2.2.2.1, of'.2.2.2.2.1, of'.2.2.2.2.2⟩, rfl, rfl⟩) htm1
        refine ⟨_, run_beginRound (P := P) hb1 (by rw [of'.1]; exact hst), ?_⟩
        have hsr2 : SR e L.nt ⟨s1.tm, s1.h.set i (.loop ⟨.busy, L1.pend, L1.ps, L1.assign, L1.body, L1.nt, L1.l⟩)⟩ ⟨e1.w.putObj b1 (.loop { r1 with state := .busy }), e1.sg, e1.h.set i (.loop ⟨.busy, L1.pend, L1.ps, L1.assign, L1.body, L1.nt, L1.l⟩), e1.ps⟩ a1 :=
          ⟨g2, by show e1.h.set i _ = _; rw [k3.heap], fun t => (k3.tm t).mono (Nat.le_refl _) x2, k3.size, k3.marks.step rfl u2, k3.upd.trans u2, Ext0 k3.ext x2⟩
        have h2 := wpc_ok hP.tab hP.mtab hk.data hk.calls hP.mixed hk.loop hk.rfun L.body hlb (some b1) (.inr hnb) 0 _ e _ a1 _ hsr2 rfl hbody
        refine wpIn_mono h2 fun x2' a2 w2 ⟨s3, e3, j1, j2, j3⟩ => ?_
        subst j2
        unfold rRound at j1
        split at j1
        · rename_i L3 hi3
          have hi3' : e3.h[i]? = some (.loop L3) := by rw [j3.heap]; exact hi3
          obtain ⟨b3, r3, hs3, hb3, of3', htm3⟩ := j3.good.obj i _ hi3'
          have hb31 : b3 = b1 := by
            obtain ⟨o', ho', hm⟩ := j3.ext.obj i _ hil hi
            rw [hi3'] at ho'
            cases ho'
            have hm : e3.sg i = e.sg i := hm
            rw [hs3, hs] at hm
            exact Option.some.inj hm
          subst hb31
          have fin : ∀ (st : LoopState) (pend : Option Code) (v : Bool), R (.bool v) (s3.h.set i (.loop ⟨st, pend, L3.ps, L3.assign, L3.body, L3.nt, L3.l⟩)) → Post e R (.returned (.bool v)) (e3.w.putObj b3 (.loop { r3 with state := st, pending := pend })) := fun st pend v hR => by
            obtain ⟨g4, u4, x4⟩ := loop_put j3.good (r' := { r3 with state := st, pending := pend }) (o' := .loop ⟨st, pend, L3.ps, L3.assign, L3.body, L3.nt, L3.l⟩) hi3' hs3 hb3 (.inr ⟨_, rfl, ⟨rfl, rfl, of3'.2.2.1, of3'.2.2.2.1, of3'.2.2.2.2.1, of3'.2.2.2.2.2⟩, rfl, rfl⟩) htm3
            refine ⟨.bool v, _, ?_, rfl, g4, .pure _ _ (.bool _), j3.upd.trans u4, Ext0 j3.ext x4⟩
            show R (.bool v) (e3.h.set i _)
            rw [j3.heap]; exact hR
          cases x2' with
          | normal => exact ⟨_, _, run_endRound (P := P) none hb3, fin .ready none true j1⟩
          | ret => exact ⟨_, _, run_endRound (P := P) (some .ret) hb3, fin .done (some .ret) false j1⟩
          | exit id => exact ⟨_, _, run_endRound (P := P) (some (.exit id)) hb3, fin .done (some (.exit id)) false j1⟩
          | _ => exact j1.elim
        · exact j1.elim
      · exact k1.elim
    | _ => exact k1.elim
/-- .. for whatever hooks are real. -/
theorem doesYr (ρ : Nat → Bool) {h : Heap} (i : Nat) (L : LoopA) {args : List AVal} {R : AVal → Heap → Prop} (hi : h[i]? = some (.loop L)) (hlen : args.length = L.ps.size)
    (hB : (L.ps.toList.all (fun t => Nat.blt t L.nt) && (lexAll L.assign && lexAll L.body && (noRange L.assign && noRange L.body))) = true)
    (hw : ∀ i2 c2 u1 cv mx mn ad sbt bn bq ba lnI gtI apI sbI stI rpI lnG gtG apG sbG stG rpG fi fb fs fl fg fc sln sgt sap ssb sc b2s s2b nd call calld callv callvd loop rfun fin,
      HK P h.length L.nt i2 c2 u1 cv mx mn ad sbt bn bq ba lnI gtI apI sbI stI rpI lnG gtG apG sbG stG rpG fi fb fs fl fg fc sln sgt sap ssb sc b2s nd call calld callv callvd loop rfun fin →
      wpc ⟨i2, c2, u1, cv, mx, mn, ad, sbt, bn, bq, ba, lnI, gtI, apI, sbI, stI, rpI, lnG, gtG, apG, sbG, stG, rpG, fi, fb, fs, fl, fg, fc, sln, sgt, sap, ssb, sc, b2s, s2b, nd, call, calld, callv, callvd, loop, rfun, fin, ρ⟩ T M L.nt L.assign ⟨tmY L.ps.toList args (tmL L.l), h⟩
        (rBegin i (wpc ⟨i2, c2, u1, cv, mx, mn, ad, sbt, bn, bq, ba, lnI, gtI, apI, sbI, stI, rpI, lnG, gtG, apG, sbG, stG, rpG, fi, fb, fs, fl, fg, fc, sln, sgt, sap, ssb, sc, b2s, s2b, nd, call, calld, callv, callvd, loop, rfun, fin, ρ⟩ T M L.nt L.body) R)) : DoesV P (.yld i) args h R := by
  simp only [Bool.and_eq_true] at hB
  have hk := hooks_real P T M h.length L.nt ρ
  exact yld_does hP hk hi hlen hB.1 hB.2.1.1 hB.2.1.2 hB.2.2.1 hB.2.2.2 (hw _ _ _ _ _ _ _ _ _ _ _ _ _ _ _ _ _ _ _ _ _ _ _ _ _ _ _ _ _ _ _ _ _ _ _ _ _ _ _ _ _ _ _ _ (hk_of hk))
/-- .. for whatever hooks are real. -/
theorem doesY {h : Heap} (i : Nat) (L : LoopA) {args : List AVal} {R : AVal → Heap → Prop} (hi : h[i]? = some (.loop L)) (hlen : args.length = L.ps.size)
    (hB : (L.ps.toList.all (fun t => Nat.blt t L.nt) && (lexAll L.assign && lexAll L.body && (noRange L.assign && noRange L.body))) = true)
    (hw : ∀ i2 c2 u1 cv mx mn ad sbt bn bq ba lnI gtI apI sbI stI rpI lnG gtG apG sbG stG rpG fi fb fs fl fg fc sln sgt sap ssb sc b2s s2b nd call calld callv callvd loop rfun fin,
      HK P h.length L.nt i2 c2 u1 cv mx mn ad sbt bn bq ba lnI gtI apI sbI stI rpI lnG gtG apG sbG stG rpG fi fb fs fl fg fc sln sgt sap ssb sc b2s nd call calld callv callvd loop rfun fin →
      wpc ⟨i2, c2, u1, cv, mx, mn, ad, sbt, bn, bq, ba, lnI, gtI, apI, sbI, stI, rpI, lnG, gtG, apG, sbG, stG, rpG, fi, fb, fs, fl, fg, fc, sln, sgt, sap, ssb, sc, b2s, s2b, nd, call, calld, callv, callvd, loop, rfun, fin, fun _ => false⟩ T M L.nt L.assign ⟨tmY L.ps.toList args (tmL L.l), h⟩
        (rBegin i (wpc ⟨i2, c2, u1, cv, mx, mn, ad, sbt, bn, bq, ba, lnI, gtI, apI, sbI, stI, rpI, lnG, gtG, apG, sbG, stG, rpG, fi, fb, fs, fl, fg, fc, sln, sgt, sap, ssb, sc, b2s, s2b, nd, call, calld, callv, callvd, loop, rfun, fin, fun _ => false⟩ T M L.nt L.body) R)) : DoesV P (.yld i) args h R :=
  doesYr hP (fun _ => false) i L hi hlen hB hw
end
end Go.AL
