/-
  AL: the operations, seventh part: structs, arrays and slices that are built.
-/
import Derived.Test.YtnnpookoencpnaaAlOps6
set_option linter.unusedSectionVars false
set_option linter.unusedVariables false
set_option linter.unusedSimpArgs false
namespace Go.AL
open Go

theorem foldl_set (off : Nat) : ∀ (l : List Value) (s : Nat) (X : Array Value), off + s + l.length ≤ X.size →
    ((l.zipIdx s).foldl (fun cs (p : Value × Nat) => cs.setIfInBounds (off + p.2) p.1) X).size = X.size ∧
    ∀ m, ((l.zipIdx s).foldl (fun cs (p : Value × Nat) => cs.setIfInBounds (off + p.2) p.1) X).getD m undef = if off + s ≤ m ∧ m < off + s + l.length then l.getD (m - off - s) undef else X.getD m undef
  | [], s, X, _ => ⟨rfl, fun m => by simp; omega⟩
  | c :: r, s, X, h => by
    simp only [List.zipIdx_cons, List.foldl_cons]
    simp at h
    obtain ⟨h1, h2⟩ := foldl_set off r (s + 1) (X.setIfInBounds (off + s) c) (by simp; omega)
    refine ⟨by rw [h1]; simp, fun m => ?_⟩
    rw [h2]
    simp only [List.length_cons]
    by_cases a1 : off + (s + 1) ≤ m ∧ m < off + (s + 1) + r.length
    · rw [if_pos a1, if_pos (by omega), show m - off - s = (m - off - (s + 1)) + 1 by omega, List.getD_cons_succ]
    · rw [if_neg a1]
      by_cases a2 : m = off + s
      · subst a2
        rw [if_pos (by omega)]
        have : off + s < X.size := by omega
        simp [this, show off + s - off - s = 0 by omega]
      · rw [if_neg (by omega)]
        simp [Array.getElem?_setIfInBounds_ne (show off + s ≠ m by omega)]
/-- Lists of cells, one by one. -/
structure LR (e : Env) (cs : List AVal) (X : Array Value) : Prop where
  len : cs.length = X.size
  rel : ∀ i, i < cs.length → VR e (cs.getD i .junk) (X.getD i undef)
/-- Parts, one by one. -/
inductive PR (e : Env) : List (Nat × AVal) → List (Nat × Value) → Prop
  | nil : PR e [] []
  | cons (i : Nat) (v : AVal) (c : Value) (r : List (Nat × AVal)) (s : List (Nat × Value)) (h : VR e v c) (hr : PR e r s) : PR e ((i, v) :: r) ((i, c) :: s)
theorem allOne_mono {l : List AVal} (h : allOne l = true) {i : Nat} (hi : i < l.length) : oneA (l.getD i .junk) = true := allOne_iff.1 h i hi
theorem PVR.not_agg {w : World} {ps : Nat → Nat} {v : AVal} {c : Value} (h : PVR w ps v c) (hv : ∀ vs, v ≠ .agg vs) (hj : v ≠ .junk) : ∀ cs, c ≠ .agg cs := by
  cases h <;> first | (intro cs e; cases e; done) | exact absurd rfl (hv _) | exact absurd rfl hj
theorem noJunk_spec : ∀ {l : List (Nat × AVal)}, noJunk l = true → ∀ x ∈ l, x.2 ≠ .junk
  | [], _, x, hx => by cases hx
  | (i, v) :: r, h, x, hx => by
    have : v ≠ .junk ∧ noJunk r = true := by cases v <;> simp_all [noJunk]
    rcases List.mem_cons.1 hx with rfl | hx
    · exact this.1
    · exact noJunk_spec this.2 x hx
theorem VR.cells' {e : Env} {v : AVal} {c : Value} (h : VR e v c) (hj : v ≠ .junk) : v.cells.length = c.cells.size ∧ ∀ i, i < v.cells.length → VR e (v.cells.getD i .junk) (c.cells.getD i undef) := by
  by_cases hv : ∃ vs, v = .agg vs
  · obtain ⟨vs, rfl⟩ := hv
    obtain ⟨cs, rfl, h1, h2⟩ := h.agg_inv
    exact ⟨h1, h2⟩
  · have hv' : ∀ vs, v ≠ .agg vs := fun vs e => hv ⟨vs, e⟩
    have e1 : v.cells = [v] := by cases v <;> first | rfl | exact absurd rfl (hv' _)
    have e2 : c.cells = #[c] := by
      have : ∀ cs, c ≠ .agg cs := by
        intro cs hc
        subst hc
        cases h with
        | pure _ _ h => exact h.not_agg hv' hj cs rfl
        | tok _ _ _ _ h _ => exact h.not_agg (by simp) (by simp) cs rfl
        | sl _ _ _ _ _ h1 => simp [Value.oneCell'] at h1
        | ptr _ _ _ h1 => simp [Value.oneCell'] at h1
        | pe _ _ _ _ _ h1 => simp [Value.oneCell'] at h1
        | agg vs => exact hv' vs rfl
        | yld _ _ h1 => simp [Value.oneCell'] at h1
      cases c <;> first | rfl | exact absurd rfl (this _)
    rw [e1, e2]
    refine ⟨rfl, fun i hi => ?_⟩
    have : i = 0 := by simp at hi; omega
    subst this
    exact h
theorem fill_ok {e : Env} {place : Nat → Option (Nat × Nat)} : ∀ {ps : List (Nat × AVal)} {qs : List (Nat × Value)} {cs cs' : List AVal} {X : Array Value}, PR e ps qs → (∀ x ∈ ps, x.2 ≠ .junk) → LR e cs X → fillA place ps cs = some cs' →
    ∃ Y, Instr.fill place X qs = some Y ∧ LR e cs' Y
  | [], _, cs, cs', X, .nil, _, h, hf => by cases hf; exact ⟨X, rfl, h⟩
  | (i, v) :: r, _, cs, cs', X, .cons _ _ c _ s hv hr, hj, h, hf => by
    unfold fillA at hf
    unfold Instr.fill
    split at hf
    · cases hf
    · rename_i off size hpl
      rw [hpl]
      split at hf
      · rename_i hsz
        have hsz := Nat.eq_of_beq_eq_true hsz
        split at hf
        · rename_i hle
          have hle := Nat.le_of_ble_eq_true hle
          obtain ⟨c1, c2⟩ := hv.cells' (hj _ (List.mem_cons_self))
          have hlen := h.len
          simp only
          rw [if_neg (by simp; omega)]
          have hfold := foldl_set off c.cells.toList 0 X (by simp; omega)
          rw [Array.toList_zipIdx.symm] at hfold
          simp only [Array.foldl_toList, Nat.add_zero, Nat.sub_zero] at hfold
          refine fill_ok hr (fun x hx => hj x (List.mem_cons_of_mem _ hx)) ⟨?_, fun m hm => ?_⟩ hf
          · rw [putCells_length _ _ _ (by omega)]
            exact hlen.trans hfold.1.symm
          · rw [putCells_length _ _ _ (by omega)] at hm
            have h2 := hfold.2 m
            rw [putCells_get _ _ _ _ (by omega)]
            have : (c.cells.zipIdx.foldl (fun cs (x : Value × Nat) => cs.setIfInBounds (off + x.2) x.1) X).getD m undef = _ := h2
            refine this ▸ ?_
            by_cases hin : off ≤ m ∧ m < off + v.cells.length
            · rw [if_pos hin, if_pos (by simp; omega)]
              have := c2 (m - off) (by omega)
              simpa [List.getD] using this
            · rw [if_neg hin, if_neg (by simp; omega)]
              exact h.rel m hm
        · cases hf
      · cases hf
theorem LR.zero {e : Env} {P : Program} {t : Nat} {ti : TI} (h : TIOK P t ti) {z : Value} (hz : (zeroValue t).run P e.w = .ok z e.w) : LR e ti.zero.cells z.cells ∧ (∀ c ∈ z.cells, c.oneCell' = true) := by
  obtain ⟨z', hz', hz1, hz2, hz3⟩ := h.run_zero
  have : z = z' := by have := hz' e.w; rw [hz] at this; exact (Result.ok.inj this).1
  subst this
  refine ⟨⟨by rw [h.zl, hz1], fun i hi => ?_⟩, hz2⟩
  have hv := hz3 e.w e.ps
  by_cases hj : ti.zero = .junk
  · rw [hj] at hi ⊢
    have : i = 0 := by simp [AVal.cells] at hi; omega
    subst this
    exact .pure _ _ (.junk _)
  · exact ((VR.pure _ _ hv).cells' hj).2 i hi
theorem allIn_spec {T : Tab} : ∀ {l : List (Nat × Nat)}, allIn T l = true → ∀ x ∈ l, ∃ ti, T.get? x.2 = some ti
  | [], _, x, hx => by cases hx
  | (o, t) :: r, h, x, hx => by
    unfold allIn at h
    split at h
    · rename_i ti hti
      rcases List.mem_cons.1 hx with rfl | hx
      · exact ⟨ti, hti⟩
      · exact allIn_spec h x hx
    · cases h
theorem mapM_places {P : Program} {w : World} {T : Tab} (hT : TabOK P T) : ∀ (l : List Field), (∀ f ∈ l, ∃ ti, T.get? f.type = some ti) →
    (l.mapM fun f => (do pure (f.offset, ← sizeOf f.type) : Sem (Nat × Nat))).run P w = .ok (l.map fun f => (f.offset, ((T.get? f.type).map (·.sz)).getD 0)) w
  | [], _ => by simp
  | f :: r, h => by
    obtain ⟨ti, hti⟩ := h f (by simp)
    have ih := mapM_places hT (w := w) r (fun f hf => h f (by simp [hf]))
    simp only [List.mapM_cons, Sem.run_bind, (hT _ _ hti).run_sizeOf, Result.andThen_ok, Sem.run_pure, ih, List.map_cons, hti, Option.map_some, Option.getD_some]
theorem run_places {P : Program} {w : World} {T : Tab} (hT : TabOK P T) (fields : Array Field) (h : ∀ f ∈ fields.toList, ∃ ti, T.get? f.type = some ti) :
    (fields.mapM fun f => (do pure (f.offset, ← sizeOf f.type) : Sem (Nat × Nat))).run P w = .ok (fields.toList.map fun f => (f.offset, ((T.get? f.type).map (·.sz)).getD 0)).toArray w := by
  rw [Array.mapM_eq_mapM_toList, Sem.run_map, mapM_places hT _ h]
  rfl
section
variable {e : Env} {P : Program} {T : Tab} (hT : TabOK P T) (hg : Good e) {p : Pr} (hp : DataOK p)
include hT hg
theorem aBuild_ok {t : Nat} {ps : List (Nat × AVal)} {qs : Array (Nat × Value)} (hps : PR e ps qs.toList) : ARok e (aBuild T t ps e.h) ((Instr.build t qs).run P e.w) := by
  unfold aBuild
  cases hnj : noJunk ps
  · trivial
  have hnj := noJunk_spec hnj
  simp only
  cases hs : T.get? t with
  | none => trivial
  | some ti =>
  have hti := hT _ _ hs
  obtain ⟨dt, hu, hdt⟩ := hti.under
  obtain ⟨z, hz, _⟩ := hti.run_zero
  obtain ⟨hlr, _⟩ := LR.zero hti (hz e.w)
  simp only
  cases hk : ti.d <;> (try trivial) <;> rw [hk] at hdt <;> simp only [DOK] at hdt
  · subst hdt
    rename_i m el
    simp only
    cases hte : T.get? el with
    | none => trivial
    | some te =>
    have hte := hT _ _ hte
    simp only
    split
    · rename_i cs' hf
      obtain ⟨Y, hY, hLY⟩ := fill_ok hps hnj hlr hf
      refine ARok.same hg (c := .agg Y) (.agg _ _ hLY.len hLY.rel) ?_
      simp only [Instr.build, Sem.run_bind, hz, Result.andThen_ok, run_underlying hu, hte.run_sizeOf, hY, Sem.run_pure]
    · trivial
  · obtain ⟨fields, rfl, hfs⟩ := hdt
    rename_i fs
    simp only
    cases hin : allIn T fs
    · trivial
    simp only
    split
    · rename_i cs' hf
      have hall : ∀ f ∈ fields.toList, ∃ ti, T.get? f.type = some ti := fun f hf => by
        have := allIn_spec hin (f.offset, f.type) (by rw [← hfs]; exact List.mem_map.2 ⟨f, hf, rfl⟩)
        exact this
      have hpl : placeOf fs T = fun i => (fields.toList.map fun f => (f.offset, ((T.get? f.type).map (·.sz)).getD 0)).toArray[i]? := by
        funext i
        unfold placeOf
        rw [← hfs]
        simp only [List.getElem?_map, List.getElem?_toArray]
        cases hfi : fields.toList[i]? with
        | none => rfl
        | some f =>
          obtain ⟨tf, htf⟩ := hall f (List.mem_of_getElem? hfi)
          simp [htf]
      rw [hpl] at hf
      obtain ⟨Y, hY, hLY⟩ := fill_ok hps hnj hlr hf
      refine ARok.same hg (c := .agg Y) (.agg _ _ hLY.len hLY.rel) ?_
      simp only [Instr.build, Sem.run_bind, hz, Result.andThen_ok, run_underlying hu, run_places hT fields hall, hY, Sem.run_pure]
    · trivial
end
end Go.AL
