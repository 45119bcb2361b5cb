/-
  AL: the operations, eighth part: slices that are made.
-/
import Derived.Test.YtnnpookoencpnaaAlOps7
set_option linter.unusedSectionVars false
set_option linter.unusedVariables false
set_option linter.unusedSimpArgs false
namespace Go.AL
open Go

theorem wrap_i64_id {n : Int} (h0 : -9223372036854775808 ≤ n) (h1 : n ≤ 9223372036854775807) : IntKind.i64.wrap n = n := by
  have e : IntKind.i64.bits = 64 := rfl
  have s : IntKind.i64.signed = true := rfl
  simp only [IntKind.wrap, e, s, Bool.true_and, decide_eq_true_eq]
  rw [show (2 : Int) ^ 64 = 18446744073709551616 from rfl, show (2 : Int) ^ (64 - 1) = 9223372036854775808 from rfl]
  split <;> omega
theorem pure_ls_shape {v : AVal} (h : allPure.isPure v = true) : (∃ vs, v = .agg vs ∧ allPure vs = true) ∨ (∀ (e : Env) (c : Value), VR e v c → PVR e.w e.ps v c) := by
  cases v with
  | agg vs => exact .inl ⟨vs, rfl, by simpa [allPure.isPure] using h⟩
  | ls q c =>
    cases c with
    | tok i n => simp [allPure.isPure] at h
    | any => exact .inr fun e c h => by cases h with | pure _ _ h => exact h
    | nil => exact .inr fun e c h => by cases h with | pure _ _ h => exact h
  | _ => first | (simp [allPure.isPure] at h; done) | exact .inr fun e c h => by cases h with | pure _ _ h => exact h
theorem allPure_get : ∀ {l : List AVal}, allPure l = true → ∀ {i : Nat}, i < l.length → allPure.isPure (l.getD i .junk) = true
  | v :: r, h, i, hi => by
    unfold allPure at h
    split at h
    · rename_i hv
      cases i with
      | zero => simpa using hv
      | succ i => have := allPure_get h (i := i) (by simpa using hi); simpa using this
    · cases h
theorem VR.pured {e : Env} {v : AVal} {c : Value} (h : VR e v c) (hp : allPure.isPure v = true) : PVR e.w e.ps v c := by
  induction h with
  | pure _ _ h => exact h
  | tok => simp [allPure.isPure] at hp
  | sl => simp [allPure.isPure] at hp
  | ptr => simp [allPure.isPure] at hp
  | pe => simp [allPure.isPure] at hp
  | agg vs cs hl _ ih =>
    have hp : allPure vs = true := by simpa [allPure.isPure] using hp
    exact .agg vs cs hl fun i hi => ih i hi (allPure_get hp hi)
  | tup => simp [allPure.isPure] at hp
  | clo => simp [allPure.isPure] at hp
  | yld => simp [allPure.isPure] at hp
  | iface => simp [allPure.isPure] at hp
def zcells (z : Array Value) (n : Nat) : Array Value := (Array.range n).map (z[· % z.size]!)
theorem zcells_get (z : Array Value) (n m : Nat) (h : m < n) (hz : 0 < z.size) : (zcells z n).getD m undef = z.getD (m % z.size) undef := by
  have : m % z.size < z.size := Nat.mod_lt _ hz
  simp [zcells, h, this, getElem!_pos]
theorem zcells_size (z : Array Value) (n : Nat) : (zcells z n).size = n := by simp [zcells]
theorem zrep_get : ∀ (n : Nat) (z : List AVal) (m : Nat), m < n * z.length → (zrep n z).getD m .junk = z.getD (m % z.length) .junk
  | 0, z, m, h => by simp at h
  | n + 1, z, m, h => by
    simp only [zrep, List.replicate_succ, List.flatten_cons, List.getD, List.getElem?_append]
    by_cases hm : m < z.length
    · rw [if_pos hm, Nat.mod_eq_of_lt hm]
    · rw [if_neg hm]
      have h' : m - z.length < n * z.length := by rw [Nat.add_mul] at h; omega
      have := zrep_get n z (m - z.length) h'
      simp only [zrep, List.getD] at this
      rw [this, ← Nat.mod_eq_sub_mod (show m ≥ z.length by omega)]
theorem zrep_length (n : Nat) (z : List AVal) : (zrep n z).length = n * z.length := by
  simp [zrep]
theorem LR.zrep {e : Env} {z : List AVal} {Z : Array Value} (h : LR e z Z) (hz : 0 < Z.size) (n : Nat) : LR e (zrep n z) (zcells Z (n * Z.size)) := by
  refine ⟨by rw [zrep_length, zcells_size, h.len], fun i hi => ?_⟩
  rw [zrep_length] at hi
  rw [zrep_get _ _ _ hi, zcells_get _ _ _ (by rw [← h.len]; exact hi) hz, h.len]
  exact h.rel _ (by rw [h.len]; exact Nat.mod_lt _ hz)
theorem chunk_cells {k : Nat} (hk : 0 < k) {m : Nat} {cs : List AVal} (hl : cs.length = m * k) (h1 : allOne cs = true) {i : Nat} (hi : i < m) :
    ((chunk k m cs).getD i .junk).cells.length = k ∧ ∀ j, j < k → ((chunk k m cs).getD i .junk).cells.getD j .junk = cs.getD (i * k + j) .junk := by
  have hlt : (i + 1) * k ≤ m * k := Nat.mul_le_mul_right _ hi
  rw [Nat.add_mul] at hlt
  by_cases h : k = 1
  · subst h
    have : ∀ (m : Nat) (cs : List AVal) (i : Nat), i < m → (chunk 1 m cs).getD i .junk = cs.getD i .junk := by
      intro m
      induction m with
      | zero => intro cs i h; omega
      | succ m ih =>
        intro cs i h
        cases i with
        | zero => simp [chunk]
        | succ i =>
          simp only [chunk, List.getD_cons_succ]
          rw [ih _ _ (by omega), getD_drop]
          congr 1; omega
    rw [this m cs i hi]
    have ho := oneA_cells (allOne_mono h1 (i := i) (by omega))
    rw [ho]
    refine ⟨rfl, fun j hj => ?_⟩
    have : j = 0 := by omega
    subst this
    simp
  · have hb : Nat.beq k 1 = false := by
      cases hb : Nat.beq k 1
      · rfl
      · exact absurd (Nat.eq_of_beq_eq_true hb) h
    have := chunk_get k hb m cs i hi
    rw [List.getD, this]
    refine ⟨by simp [AVal.cells]; omega, fun j hj => ?_⟩
    simp [AVal.cells, List.getD, List.getElem?_take, hj, List.getElem?_drop]
section
variable {e : Env} {P : Program} {T : Tab} (hT : TabOK P T) (hg : Good e) {p : Pr} (hp : DataOK p)
include hT hg
theorem aBuildSlice_ok {t len : Nat} {ps : List (Nat × AVal)} {qs : Array (Nat × Value)} (hps : PR e ps qs.toList) : ARok e (aBuildSlice T t len ps e.h) ((Instr.buildSlice t len qs).run P e.w) := by
  unfold aBuildSlice
  cases hnj : noJunk ps
  · trivial
  have hnj := noJunk_spec hnj
  simp only
  cases hs : T.get? t with
  | none => trivial
  | some ti =>
  obtain ⟨dt, hu, hdt⟩ := (hT _ _ hs).under
  simp only
  cases hk : ti.d <;> (try trivial) <;> rw [hk] at hdt <;> simp only [DOK] at hdt
  subst hdt
  rename_i el
  simp only
  cases hte : T.get? el with
  | none => trivial
  | some te =>
  have hte := hT _ _ hte
  simp only
  cases h0 : Nat.blt 0 te.sz
  · trivial
  have h0 : 0 < te.sz := by simpa using h0
  cases hle : Nat.ble (len * te.sz) 10000
  · trivial
  have hle := Nat.le_of_ble_eq_true hle
  simp only
  split
  · rename_i cs' hf
    cases hpu : allPure cs'
    · trivial
    cases hon : allOne cs'
    · trivial
    simp only
    split
    · rename_i q hmk
      cases hko : q.kOK te.sz
      · trivial
      simp only
      obtain ⟨z, hz, hz1, _⟩ := hte.run_zero
      obtain ⟨hlr, _⟩ := LR.zero hte (hz e.w)
      have hzr := hlr.zrep (by omega) len
      rw [hz1] at hzr
      obtain ⟨Y, hY, hLY⟩ := fill_ok hps hnj hzr hf
      have hlen : cs'.length = len * te.sz := by
        have : ∀ {place : Nat → Option (Nat × Nat)} {ps : List (Nat × AVal)} {cs cs' : List AVal}, fillA place ps cs = some cs' → cs'.length = cs.length := by
          intro place ps
          induction ps with
          | nil => intro cs cs' h; cases h; rfl
          | cons x r ih =>
            intro cs cs' h
            obtain ⟨i, v⟩ := x
            unfold fillA at h
            split at h
            · cases h
            · split at h
              · rename_i hsz
                have hsz := Nat.eq_of_beq_eq_true hsz
                split at h
                · rename_i hle
                  have hle := Nat.le_of_ble_eq_true hle
                  rw [ih h, putCells_length _ _ _ (by omega)]
                · cases h
              · cases h
        rw [this hf, zrep_length, hte.zl]
      obtain ⟨s1, s2, s3⟩ := mkLX_spec hmk
      have hqn : q.n = len := by rw [LX.n, s1, chunk_length]
      have hrun : (Instr.buildSlice t len qs).run P e.w = .ok (.slice (some ⟨e.w.heap.size, 0, none⟩) len len) (e.w.alloc (.cells Y el)) := by
        simp only [Instr.buildSlice, Sem.run_bind, run_underlying hu, Result.andThen_ok, hte.run_sizeOf]
        rw [if_neg (by omega)]
        simp only [Sem.run_ite, Sem.run_pure]
        by_cases hl0 : len * te.sz = 0
        · rw [if_pos hl0]
          have hY0 : Instr.fill (fun i => some (i * te.sz, te.sz)) ((Array.range (len * te.sz)).map fun x => (#[] : Array Value)[x % (#[] : Array Value).size]!) qs.toList = some Y := by
            rw [← hY]
            congr 1
            rw [hl0]
            simp [zcells]
          simp only [Sem.run_bind, Sem.run_pure, Result.andThen_ok, hY0]
          simp [newRow]
        · rw [if_neg hl0]
          simp only [Sem.run_bind, hz, Result.andThen_ok, Sem.run_pure]
          have hY1 : Instr.fill (fun i => some (i * te.sz, te.sz)) ((Array.range (len * te.sz)).map fun x => z.cells[x % z.cells.size]!) qs.toList = some Y := hY
          split
          · rename_i cells hc
            obtain rfl : cells = Y := Option.some.inj (hc.symm.trans hY1)
            simp [newRow]
          · rename_i hc
            exact absurd hY1 (by rw [show Instr.fill _ _ _ = none from by
              cases hz9 : Instr.fill (fun i => some (i * te.sz, te.sz)) ((Array.range (len * te.sz)).map fun x => z.cells[x % z.cells.size]!) qs.toList with
              | none => rfl
              | some y => exact absurd hz9 (hc y)]; simp)
      refine ⟨_, _, hrun, ?_⟩
      have hYs : Y.size = len * te.sz := by rw [← hLY.len, hlen]
      refine fresh_end hg (w' := e.w.alloc (.cells Y el)) (cs := Y) (el := el) (m := Y.size) rfl rfl rfl rfl (Nat.le_refl _) (fun hx => ?_) (fun hx => ?_)
      · intro b hb
        simp only [Env.fresh, if_true] at hb
        obtain rfl := Option.some.inj hb
        exact ⟨Y, el, heap_alloc_new e.w _⟩
      · refine .tok _ _ _ _ ?_ ?_
        · rw [← hqn]
          have hcc := fun i (hi : i < len) => chunk_cells h0 hlen hon hi
          have hat : ∀ i, q.at_ i = (chunk te.sz len cs').getD i .junk := fun i => by rw [LX.at_, s1]
          have hk' : ∀ i, i < len → te.sz = q.k := fun i hi => by
            rcases kOK_k hko with h | h
            · rw [s1] at h
              have := chunk_length te.sz len cs'
              rw [h] at this; simp at this; omega
            · exact h.symm
          refine .ls q _ 0 _ (fun i j => Y.getD (i * te.sz + j) undef) (by omega) s2 (fun i hi => ?_) (fun h => ?_) (fun i j hi hj => ?_) (fun i j hi hj => ?_) (fun i j hi hj => ?_)
          · rw [hat, (hcc i (by omega)).1, hk' i (by omega)]
          · rw [← hk' 0 (by omega), hqn]
            simp [Env.fresh, hYs]
          · rw [← hk' i (by omega)]
            have hlt : (i + 1) * te.sz ≤ len * te.sz := Nat.mul_le_mul_right _ (by omega)
            rw [Nat.add_mul] at hlt
            have hj' : j < te.sz := by rw [hk' i (by omega)]; exact hj
            have : i * te.sz + j < Y.size := by omega
            show (e.w.alloc (.cells Y el)).cell? _ = _
            rw [cell_of_row _ _ _ _ _ _ (heap_alloc_new e.w _)]
            simp [this]
          · have hj' : j < te.sz := by rw [hk' i (by omega)]; exact hj
            have hlt : (i + 1) * te.sz ≤ len * te.sz := Nat.mul_le_mul_right _ (by omega)
            rw [Nat.add_mul] at hlt
            exact (hLY.rel (i * te.sz + j) (by omega)).one (allOne_mono hon (by omega))
          · have hj' : j < te.sz := by rw [hk' i (by omega)]; exact hj
            have hlt : (i + 1) * te.sz ≤ len * te.sz := Nat.mul_le_mul_right _ (by omega)
            rw [Nat.add_mul] at hlt
            rw [hat, (hcc i (by omega)).2 j hj']
            exact ((hLY.rel (i * te.sz + j) (by omega)).mono (Nat.le_refl _) hx).pured (allPure_get hpu (by omega))
        · simp only [Env.fresh, List.getElem?_append_right (Nat.le_refl _), Nat.sub_self]
          exact ⟨Nat.le_refl _, fun _ => .inl rfl⟩
    · trivial
  · trivial
include hp
theorem aMkS_ok {t : Nat} {l c : AVal} {dl dc : Value} {same : Bool} (hl : VR e l dl) (hc : VR e c dc) (hsame : same = true → dl = dc) : ARok e (aMkS p T t l c same e.h) ((Instr.makeSlice t dl dc).run P e.w) := by
  unfold aMkS
  cases hs : T.get? t with
  | none => trivial
  | some ti =>
  obtain ⟨dt, hu, hdt⟩ := (hT _ _ hs).under
  simp only
  cases hk : ti.d <;> (try trivial) <;> rw [hk] at hdt <;> simp only [DOK] at hdt
  subst hdt
  rename_i el
  simp only
  cases hte : T.get? el with
  | none => trivial
  | some te =>
  have hte := hT _ _ hte
  simp only
  split
  · rename_i n n2
    have := hl.int_inv; subst this
    have := hc.int_inv; subst this
    cases hsm : same
    · trivial
    have := hsame hsm
    injection this with _ hn2
    subst hn2
    simp only
    cases hon : allOne te.zero.cells
    · trivial
    simp only
    obtain ⟨r1, r2, r3⟩ := rep_real hp n te.zero
    cases hkk : Nat.beq (repLX p n te.zero).k te.sz
    · trivial
    have hkk := Nat.eq_of_beq_eq_true hkk
    cases h0 : Nat.blt 0 te.sz
    · trivial
    have h0 : 0 < te.sz := by simpa using h0
    intro hq
    obtain ⟨q0, q1, q2⟩ := hq
    obtain ⟨⟨info, z, d, hi, hsz, hby, hz, hz1, hz2, hz3, _⟩, _, _, _, _⟩ := hte
    have hte := hT _ _ ‹T.get? el = some te›
    obtain ⟨hlr, _⟩ := LR.zero (e := e) hte (z := z) (by unfold zeroValue typeInfo; simp [hi, hz])
    have hzr := hlr.zrep (by omega) n.toNat
    rw [hz1] at hzr
    have hw : IntKind.i64.wrap n = n := by
      exact wrap_i64_id (by omega) (by omega)
    have hrun : (Instr.makeSlice t (.int .i64 n) (.int .i64 n)).run P e.w = .ok (.slice (some ⟨e.w.heap.size, 0, none⟩) n.toNat n.toNat) (e.w.alloc (.cells (zcells z.cells (n.toNat * te.sz)) el)) := by
      have t1 : ¬ (n < 0) := by omega
      have t2 : ¬ ((te.by_ : Int) * n > 281474976710656) := by rw [Int.mul_comm]; omega
      simp only [Instr.makeSlice, Sem.run_bind, run_underlying hu, Result.andThen_ok, asInt, asIntOf, Sem.run_pure, typeInfo, run_program, hi, hby, hw]
      rw [if_neg (by simp; omega)]
      simp only [Sem.run_bind, run_askRoom, Result.andThen_ok, hte.run_sizeOf, Sem.run_ite, Sem.run_pure]
      have hzz : (zeroValue el).run P e.w = .ok z e.w := by unfold zeroValue typeInfo; simp [hi, hz]
      by_cases hl0 : n.toNat * te.sz = 0
      · rw [if_pos hl0, hl0]
        simp [newRow, zcells]
        have e0 : Array.range 0 = #[] := by apply Array.ext'; simp [Array.toList_range]
        rw [e0]; simp
      · rw [if_neg hl0]
        simp only [hzz, Result.andThen_ok, newRow, Sem.run_bind, run_newObj, Sem.run_pure]
        rfl
    refine ⟨_, _, hrun, ?_⟩
    have hqn : (repLX p n te.zero).n = n.toNat := by rw [LX.n, r1, List.length_replicate]
    have hZs : (zcells z.cells (n.toNat * te.sz)).size = n.toNat * te.sz := zcells_size _ _
    have hat : ∀ i, i < n.toNat → (repLX p n te.zero).at_ i = te.zero := fun i hi => by
      rw [LX.at_, r1]; simp [List.getD, hi]
    refine fresh_end hg (w' := e.w.alloc (.cells (zcells z.cells (n.toNat * te.sz)) el)) (cs := zcells z.cells (n.toNat * te.sz)) (el := el) (m := 0) rfl rfl rfl rfl (Nat.zero_le _) (fun hx => ?_) (fun hx => ?_)
    · refine .inr ⟨e.w.heap.size, _, el, by simp [Env.fresh], heap_alloc_new e.w _, ?_, by simp [Env.fresh], r2, ?_, ?_⟩
      · rw [hqn, hkk, hZs]; exact Nat.le_refl _
      · intro i hi
        rw [hat i (by omega), r3]
      · intro i j hi hj
        rw [hqn] at hi
        rw [hkk] at hj ⊢
        have hlt : (i + 1) * te.sz ≤ n.toNat * te.sz := Nat.mul_le_mul_right _ (by omega)
        rw [Nat.add_mul] at hlt
        have hz0 : 0 < z.cells.size := by omega
        rw [hat i hi, zcells_get _ _ _ (by omega) hz0, hz1, show (i * te.sz + j) % te.sz = j by rw [Nat.mul_comm, Nat.mul_add_mod, Nat.mod_eq_of_lt hj]]
        have hl9 := hte.zl
        have := hlr.rel j (by omega)
        exact ⟨this.mono (Nat.le_refl _) hx, this.one (allOne_mono hon (by omega))⟩
    · refine .sl _ _ _ _ _ rfl ?_
      simp only [Env.fresh, List.getElem?_append_right (Nat.le_refl _), Nat.sub_self]
      refine ⟨Nat.le_refl _, fun _ => ⟨Int.le_refl _, q0, by rw [hqn]; omega, .inr ⟨e.w.heap.size, n.toNat, 0, by simp, by simp, by rw [hqn]; exact Nat.sub_le _ _, ?_⟩⟩⟩
      right
      refine ⟨by simp, ?_⟩
      rw [hkk, Nat.zero_add]
      simp only [cellsSize]
      rw [heap_alloc_new e.w _]
      simp [hZs]
  · trivial
end
end Go.AL
