/-
  AL: the operations, second part: stores.
-/
import Derived.Test.YtnnpookoencpnaaAlOps1
import Derived.Test.YtnnpookoencpnaaAlLists
import Derived.Laws.CopyRow
set_option linter.unusedSectionVars false
set_option linter.unusedVariables false
namespace Go.AL
open Go

theorem addr_add (b off j : Nat) : (⟨b, off, none⟩ : Addr).add j = ⟨b, off + j, none⟩ := by
  unfold Addr.add; split
  · rename_i h; subst h; rfl
  · rfl
def spliced (cur : Array Value) (o : Nat) (vs : List Value) : Array Value := (cur.toList.take o ++ vs ++ cur.toList.drop (o + vs.length)).toArray
theorem spliced_size {cur : Array Value} {o : Nat} {vs : List Value} (h : o + vs.length ≤ cur.size) : (spliced cur o vs).size = cur.size := by
  simp [spliced]; omega
theorem spliced_get {cur : Array Value} {o : Nat} {vs : List Value} (h : o + vs.length ≤ cur.size) (j : Nat) :
    (spliced cur o vs).getD j undef = if o ≤ j ∧ j < o + vs.length then vs.getD (j - o) undef else cur.getD j undef := by
  have h1 : min o cur.size = o := by omega
  simp only [spliced, List.getElem?_toArray, Array.getD_eq_getD_getElem?, List.getD, List.getElem?_append, List.length_append, List.length_take, Array.length_toList, h1, List.getElem?_take, List.getElem?_drop, Array.getElem?_toList]
  by_cases a1 : j < o
  · rw [if_pos (by omega), if_pos a1, if_pos a1, if_neg (by omega)]
  · by_cases a2 : j < o + vs.length
    · rw [if_pos (by omega), if_neg a1, if_pos ⟨by omega, a2⟩]
    · rw [if_neg (by omega), if_neg (by omega)]
      congr 2; omega
theorem spliced_get? {cur : Array Value} {o : Nat} {vs : List Value} (h : o + vs.length ≤ cur.size) (j : Nat) (hj : j < o) : (spliced cur o vs)[j]? = cur[j]? := by
  have h1 : min o cur.size = o := by omega
  simp only [spliced, List.getElem?_toArray, List.getElem?_append, List.length_append, List.length_take, Array.length_toList, h1, List.getElem?_take, Array.getElem?_toList]
  rw [if_pos (by omega), if_pos hj, if_pos hj]
theorem run_storeVar {P : Program} {t : Nat} {ti : TI} (hti : TIOK P t ti) {w : World} {b o : Nat} {cs : Array Value} {el : TypeId} (hb : w.heap[b]? = some (.cells cs el (0, 0))) {c : Value}
    (hsz : c.cells.size = ti.sz) (hle : o + ti.sz ≤ cs.size) (h1 : ∀ i, i < c.cells.size → (c.cells.getD i undef).oneCell' = true) :
    (storeVar t ⟨b, o, none⟩ c).run P w = .ok () (w.setRow b (spliced cs o c.cells.toList)) := by
  unfold storeVar
  rw [Sem.run_bind, hti.run_sizeOf]
  simp only [Result.andThen_ok, hsz, ne_eq, not_true_eq_false, if_false]
  have := run_storeCells_at P b o el c.cells.toList 0 cs w hb (by simp; omega) (fun v hv => by
    obtain ⟨i, hi, rfl⟩ := List.mem_iff_getElem.1 hv
    have := h1 i (by simpa using hi)
    simp at hi
    simpa [hi] using this)
  simp only [Nat.add_zero] at this
  simpa [spliced] using this
theorem getD_set {xs : List AVal} {i : Nat} {v : AVal} (hi : i < xs.length) (j : Nat) : (xs.set i v).getD j .junk = if j = i then v else xs.getD j .junk := by
  simp only [List.getD, List.getElem?_set]
  by_cases h : i = j
  · subst h; simp [hi]
  · rw [if_neg h, if_neg (fun e => h e.symm)]

section
variable {P : Program} {T : Tab} (hT : TabOK P T) {e : Env} (hg : Good e)
include hT hg
theorem aStore_ok {p : Pr} (hp : DataOK p) {t : Nat} {a v : AVal} {c d : Value} (ha : VR e a c) (hv : VR e v d) :
    ARok e (aStore p T t a v e.h) (((Instr.storeAt t c d).run P e.w).andThen fun _ w => .ok undef w) := by
  unfold aStore
  cases hti : T.get? t with
  | none => trivial
  | some ti =>
  have hti := hT _ _ hti
  simp only
  cases hl : Nat.beq v.cells.length ti.sz
  · trivial
  have hl := Nat.eq_of_beq_eq_true hl
  simp only
  cases ho : allOne v.cells
  · trivial
  obtain ⟨k1, k2, k3⟩ := hv.cells ho
  simp only
  split
  · rename_i i off
    split
    · rename_i vs hob
      cases hle : Nat.ble (off + ti.sz) vs.length
      · trivial
      have hle := Nat.le_of_ble_eq_true hle
      simp only
      have hbx : boxAt e.h[i]? fun vs => ∃ b, c = .pointer (some ⟨b, off, none⟩) ∧ e.sg i = some b ∧ off ≤ vs.length := by
        cases ha with
        | ptr _ _ _ h1 h => exact h
        | pure _ _ h => cases h
      rw [hob] at hbx
      obtain ⟨b, rfl, hs, _⟩ := hbx
      obtain ⟨b', cs, el, hs', hh, hlen, hps, hval⟩ := hg.obj i _ hob
      obtain rfl : b = b' := by rw [hs] at hs'; exact Option.some.inj hs'
      have hil : i < e.h.length := (List.getElem?_eq_some_iff.1 hob).1
      have hst := run_storeVar hti hh (c := d) (o := off) (by rw [← k1, hl]) (by omega) (fun i hi => k3 i (by omega))
      have hdl : d.cells.toList.length = ti.sz := by simp [← k1, hl]
      refine ⟨undef, e.w.setRow b (spliced cs off d.cells.toList), ?_, ?_⟩
      · simp only [Instr.storeAt, Instr.sureAddr, Sem.run_bind, Sem.run_pure, Result.andThen_ok, hst]
      · have hh' : ∀ j, j ≠ i → (e.h.set i (.box (putCells vs off v.cells)))[j]? = e.h[j]? := fun j hj => by rw [List.getElem?_set_ne (Ne.symm hj)]
        have hi' : (e.h.set i (.box (putCells vs off v.cells)))[i]? = some (.box (putCells vs off v.cells)) := by simp [hil]
        have hplen : (putCells vs off v.cells).length = vs.length := putCells_length _ _ _ (by omega)
        have hm : OMono e (e.wr b (spliced cs off d.cells.toList) (e.h.set i (.box (putCells vs off v.cells))) 0) i (.box vs) (.box (putCells vs off v.cells)) := ⟨rfl, hplen⟩
        have hkeep : ∀ x, x < e.ps b → (spliced cs off d.cells.toList)[x]? = cs[x]? := fun x hx => by omega
        have hsz : (spliced cs off d.cells.toList).size = cs.size := spliced_size (by omega)
        have hx := wr_ext (m := 0) hg hob rfl hs hh hsz hh' hi' hm hkeep (by omega)
        refine ⟨_, wr_good hg hob rfl hs hh hsz hh' hi' hm hkeep (by omega) ?_ (Nat.zero_le _), rfl, rfl, .pure _ _ .und, wr_upd hg hob rfl hs hh hh' hi', hx⟩
        refine ⟨b, spliced cs off d.cells.toList, el, hs, setRow_heap _ _ _ _ _ _ hh, by rw [hplen, hsz, hlen], by simp [Env.wr], fun j hj => ?_⟩
        rw [spliced_get (by omega), putCells_get _ _ _ _ (by omega)]
        have e1 : v.cells.length = d.cells.toList.length := by rw [hdl, hl]
        rw [e1]
        split
        · have := k2 (j - off) (by omega)
          simp only [List.getD, Array.getElem?_toList, Array.getD_eq_getD_getElem?] at this ⊢
          exact this.mono (Nat.le_refl _) hx
        · exact (hval j (by omega)).mono (Nat.le_refl _) hx
    · trivial
  · rename_i i g ix off
    split
    · rename_i g' q hob
      cases hgg : Nat.beq g g'
      · trivial
      obtain rfl := Nat.eq_of_beq_eq_true hgg
      simp only
      have hbx : rwAt e.h[i]? g fun q => 0 ≤ ix ∧ ix < q.n ∧ ∃ b, c = .pointer (some ⟨b, ix.toNat * q.k + off, none⟩) ∧ e.sg i = some b := by
        cases ha with
        | pe _ _ _ _ _ h1 h => exact h
        | pure _ _ h => cases h
      rw [hob] at hbx
      obtain ⟨a1, a2, b, rfl, hs⟩ := hbx.2 rfl
      rcases hg.obj i _ hob with ⟨h0, _⟩ | ⟨b', cs, el, hs', hh, hlen, hps, hfit, hk, hval⟩
      · omega
      obtain rfl : b = b' := by rw [hs] at hs'; exact Option.some.inj hs'
      have hil : i < e.h.length := (List.getElem?_eq_some_iff.1 hob).1
      have hget := get_real hp hfit a1 a2
      have hki := hk ix.toNat (by omega)
      have hixn : ix.toNat < q.toL.length := by have := a2; simp only [LX.n] at this; omega
      have hlt : (ix.toNat + 1) * q.k ≤ q.n * q.k := Nat.mul_le_mul_right _ (by omega)
      rw [Nat.add_mul] at hlt
      -- both ways come to this
      have key : ∀ (v' : AVal) (q' : LX), q.set p ix v' = some q' → v'.cells.length = q.k → off + ti.sz ≤ q.k →
          (∀ j, j < q.k → v'.cells.getD j .junk = if off ≤ j ∧ j < off + ti.sz then v.cells.getD (j - off) .junk else (q.at_ ix.toNat).cells.getD j .junk) →
          ∃ c w', ((Instr.storeAt t (.pointer (some ⟨b, ix.toNat * q.k + off, none⟩)) d).run P e.w).andThen (fun _ w => .ok undef w) = .ok c w' ∧ Step e .und (e.h.set i (.rw g q')) c w' := by
        intro v' q' hset hvl hoff hcells
        obtain ⟨s1, s2, s3⟩ := set_real hp hset
        have hst := run_storeVar hti hh (c := d) (o := ix.toNat * q.k + off) (by rw [← k1, hl]) (by omega) (fun i hi => k3 i (by omega))
        have hdl : d.cells.toList.length = ti.sz := by simp [← k1, hl]
        have hn : q'.n = q.n := by rw [LX.n, s1, List.length_set]
        refine ⟨undef, e.w.setRow b (spliced cs (ix.toNat * q.k + off) d.cells.toList), ?_, ?_⟩
        · simp only [Instr.storeAt, Instr.sureAddr, Sem.run_bind, Sem.run_pure, Result.andThen_ok, hst]
        · have hh' : ∀ j, j ≠ i → (e.h.set i (.rw g q'))[j]? = e.h[j]? := fun j hj => by rw [List.getElem?_set_ne (Ne.symm hj)]
          have hi' : (e.h.set i (.rw g q'))[i]? = some (.rw g q') := by simp [hil]
          have hm : OMono e (e.wr b (spliced cs (ix.toNat * q.k + off) d.cells.toList) (e.h.set i (.rw g q')) 0) i (.rw g q) (.rw g q') := ⟨Nat.le_refl _, fun _ => ⟨rfl, hn, s2⟩⟩
          have hkeep : ∀ x, x < e.ps b → (spliced cs (ix.toNat * q.k + off) d.cells.toList)[x]? = cs[x]? := fun x hx => by omega
          have hsz : (spliced cs (ix.toNat * q.k + off) d.cells.toList).size = cs.size := spliced_size (by omega)
          have hx := wr_ext (m := 0) hg hob rfl hs hh hsz hh' hi' hm hkeep (by omega)
          refine ⟨_, wr_good hg hob rfl hs hh hsz hh' hi' hm hkeep (by omega) ?_ (Nat.zero_le _), rfl, rfl, .pure _ _ .und, wr_upd hg hob rfl hs hh hh' hi', hx⟩
          refine .inr ⟨b, spliced cs (ix.toNat * q.k + off) d.cells.toList, el, hs, setRow_heap _ _ _ _ _ _ hh, by rw [hn, s2, hsz]; exact hlen, by simp [Env.wr], s3 hfit, ?_, ?_⟩
          · intro x hx'
            rw [LX.at_, s1, s2, getD_set hixn]
            split
            · exact hvl
            · exact hk x (by omega)
          · intro x j hx' hj
            rw [s2] at hj
            rw [LX.at_, s1, s2, getD_set hixn, spliced_get (by omega), hdl]
            by_cases hxi : x = ix.toNat
            · subst hxi
              rw [if_pos rfl, hcells j hj]
              by_cases hin : off ≤ j ∧ j < off + ti.sz
              · rw [if_pos hin, if_pos (by omega)]
                have h2 := k2 (j - off) (by omega)
                have h3 := k3 (j - off) (by omega)
                rw [show ix.toNat * q.k + j - (ix.toNat * q.k + off) = j - off by omega]
                simp only [List.getD, Array.getElem?_toList, Array.getD_eq_getD_getElem?] at h2 h3 ⊢
                exact ⟨h2.mono (Nat.le_refl _) hx, h3⟩
              · rw [if_neg hin, if_neg (by omega)]
                have h2 := hval ix.toNat j (by omega) hj
                exact ⟨h2.1.mono (Nat.le_refl _) hx, h2.2⟩
            · rw [if_neg hxi]
              have h2 := hval x j (by omega) hj
              have hne : ¬ (ix.toNat * q.k + off ≤ x * q.k + j ∧ x * q.k + j < ix.toNat * q.k + off + ti.sz) := by
                rcases Nat.lt_or_gt_of_ne hxi with hlt2 | hgt2
                · have : (x + 1) * q.k ≤ ix.toNat * q.k := Nat.mul_le_mul_right _ hlt2
                  rw [Nat.add_mul] at this
                  omega
                · have : (ix.toNat + 1) * q.k ≤ x * q.k := Nat.mul_le_mul_right _ hgt2
                  rw [Nat.add_mul] at this
                  omega
              rw [if_neg hne]
              exact ⟨h2.1.mono (Nat.le_refl _) hx, h2.2⟩
      cases hzk : Nat.beq ti.sz q.k
      · simp only
        cases hle : Nat.ble (off + ti.sz) q.k
        · trivial
        have hle := Nat.le_of_ble_eq_true hle
        simp only
        split
        · rename_i q' hset
          rw [hget] at hset
          have hpl : (putCells (q.at_ ix.toNat).cells off v.cells).length = q.k := by rw [putCells_length _ _ _ (by omega), hki]
          refine key _ q' hset hpl hle (fun j hj => ?_)
          show (putCells (q.at_ ix.toNat).cells off v.cells).getD j .junk = _
          rw [putCells_get _ _ _ _ (by omega), hl]
        · trivial
      · have hzk := Nat.eq_of_beq_eq_true hzk
        simp only
        cases ho0 : Nat.beq off 0
        · trivial
        have ho0 := Nat.eq_of_beq_eq_true ho0
        simp only
        split
        · rename_i q' hset
          subst ho0
          refine key v q' hset (by omega) (by omega) (fun j hj => ?_)
          rw [if_pos (by omega)]
          simp
        · trivial
    · trivial
  · trivial
end
end Go.AL
