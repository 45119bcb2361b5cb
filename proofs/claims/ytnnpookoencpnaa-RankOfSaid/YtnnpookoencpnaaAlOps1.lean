/-
  AL: the operations, first part: types off the table; loads, stores and new variables.
-/
import Derived.Test.YtnnpookoencpnaaAlRel
import Derived.Laws.World
import Derived.Laws.Rows
import Derived.Laws.AppendOwn
import Derived.Laws.Entries
import Derived.Laws.Append
import Derived.WalkKit
import Derived.Laws.IdiomCopy
import Derived.ChangeKeysEq
set_option linter.unusedSectionVars false
set_option linter.unusedVariables false
namespace Go.AL
open Go

def DOK : TD → TypeDesc → Prop
  | .int k, d => d = .int k
  | .bool, d => d = .bool
  | .str, d => d = .string
  | .slice e, d => d = .slice e
  | .array n e, d => d = .array n e
  | .struct fs, d => ∃ fields, d = .struct fields ∧ fields.toList.map (fun f => (f.offset, f.type)) = fs
  | .ptr e, d => d = .pointer e
  | .iface, d => ∃ ms, d = .interface ms
  | .func, d => ∃ a b c, d = .func a b c
  | .other, d => (match d with | .struct _ | .array _ _ | .interface _ => false | _ => true) = true
structure TIOK (P : Program) (t : Nat) (ti : TI) : Prop where
  ex : ∃ info z d, P.info? t = some info ∧ info.size = ti.sz ∧ info.bytes = ti.by_ ∧ info.zero = some z ∧ z.cells.size = ti.sz ∧ (∀ c ∈ z.cells, c.oneCell' = true) ∧
    (∀ w ps, PVR w ps ti.zero z) ∧ P.underlying t = some d ∧ DOK ti.d d
  zl : ti.zero.cells.length = ti.sz
  one : ti.d.isAgg = false → ti.sz = 1
  eqs : ti.eqf = true → ti.d.isAgg = true → P.eqGuardType P.depth t = false
  eqn : ti.eqf = true → ∀ fields, P.underlying t = some (.struct fields) → P.stoodInHeld t = false ∧ ∀ f ∈ fields.toList, f.name ≠ "_"
def TabOK (P : Program) (T : Tab) : Prop := ∀ t ti, T.get? t = some ti → TIOK P t ti

section
variable {P : Program} {t : Nat} {ti : TI}
theorem TIOK.under (h : TIOK P t ti) : ∃ d, P.underlying t = some d ∧ DOK ti.d d := let ⟨⟨_, _, d, h⟩, _, _, _, _⟩ := h; ⟨d, h.2.2.2.2.2.2.2⟩
theorem TIOK.run_isAgg (h : TIOK P t ti) (w : World) : (isAgg t).run P w = .ok ti.d.isAgg w := by
  obtain ⟨d, hu, hd⟩ := h.under
  unfold isAgg
  rw [Sem.run_bind, run_underlying hu]
  cases hk : ti.d <;> rw [hk] at hd <;> simp only [DOK] at hd
  case struct fs => obtain ⟨f, rfl, _⟩ := hd; rfl
  case iface => obtain ⟨f, rfl⟩ := hd; rfl
  case func => obtain ⟨a, b, c, rfl⟩ := hd; rfl
  case other => cases d <;> first | rfl | (simp at hd)
  all_goals (subst hd; rfl)
theorem TIOK.run_sizeOf (h : TIOK P t ti) (w : World) : (sizeOf t).run P w = .ok ti.sz w := by
  obtain ⟨⟨info, z, d, hi, hs, _⟩, _, _, _, _⟩ := h
  unfold sizeOf typeInfo
  simp [hi, hs]
theorem TIOK.run_zero (h : TIOK P t ti) : ∃ z, (∀ w, (zeroValue t).run P w = .ok z w) ∧ z.cells.size = ti.sz ∧ (∀ c ∈ z.cells, c.oneCell' = true) ∧ (∀ w ps, PVR w ps ti.zero z) := by
  obtain ⟨⟨info, z, d, hi, hs, hb, hz, h1, h2, h3, _⟩, _, _, _, _⟩ := h
  refine ⟨z, fun w => ?_, h1, h2, h3⟩
  unfold zeroValue typeInfo
  simp [hi, hz]
end

/-- A value's cells, one by one. -/
theorem cells_rel {R : AVal → Value → Prop} {v : AVal} {c : Value} (h : R v c) (ha : ∀ vs c, R (.agg vs) c → ∃ cs, c = .agg cs ∧ vs.length = cs.size ∧ ∀ i, i < vs.length → R (vs.getD i .junk) (cs.getD i undef))
    (hn : (∀ vs, v ≠ .agg vs) → (∀ cs, c ≠ .agg cs)) : v.cells.length = c.cells.size ∧ ∀ i, i < v.cells.length → R (v.cells.getD i .junk) (c.cells.getD i undef) := by
  by_cases hv : ∃ vs, v = .agg vs
  · obtain ⟨vs, rfl⟩ := hv
    obtain ⟨cs, rfl, h1, h2⟩ := ha vs c h
    exact ⟨h1, h2⟩
  · have hv' : ∀ vs, v ≠ .agg vs := fun vs e => hv ⟨vs, e⟩
    have hc := hn hv'
    have e1 : v.cells = [v] := by cases v <;> first | rfl | exact absurd rfl (hv' _)
    have e2 : c.cells = #[c] := by cases c <;> first | rfl | exact absurd rfl (hc _)
    rw [e1, e2]
    refine ⟨rfl, fun i hi => ?_⟩
    have : i = 0 := by simp at hi; omega
    subst this
    exact h
theorem PVR.agg_inv {w : World} {ps : Nat → Nat} {vs : List AVal} {c : Value} (h : PVR w ps (.agg vs) c) : ∃ cs, c = .agg cs ∧ vs.length = cs.size ∧ ∀ i, i < vs.length → PVR w ps (vs.getD i .junk) (cs.getD i undef) := by
  cases h with | agg _ cs hl hv => exact ⟨cs, rfl, hl, hv⟩
theorem VR.agg_inv {e : Env} {vs : List AVal} {c : Value} (h : VR e (.agg vs) c) : ∃ cs, c = .agg cs ∧ vs.length = cs.size ∧ ∀ i, i < vs.length → VR e (vs.getD i .junk) (cs.getD i undef) := by
  cases h with
  | pure _ _ h => obtain ⟨cs, r, hl, hv⟩ := h.agg_inv; exact ⟨cs, r, hl, fun i hi => .pure _ _ (hv i hi)⟩
  | agg _ cs hl hv => exact ⟨cs, rfl, hl, hv⟩
theorem VR.one {e : Env} {v : AVal} {c : Value} (h : VR e v c) (ho : oneA v = true) : c.oneCell' = true := by
  cases h with
  | pure _ _ h => cases h <;> first | rfl | (simp [oneA] at ho)
  | tok q i n c h ht => cases h <;> rfl
  | agg | tup => simp [oneA] at ho
  | clo | iface => rfl
  | yld i c h1 h => exact h1
  | ptr _ _ _ h1 => exact h1
  | pe _ _ _ _ _ h1 => exact h1
  | sl _ _ _ _ _ h1 => exact h1
theorem one_not_agg {c : Value} (h : c.oneCell' = true) : c.cells = #[c] := by cases c <;> first | rfl | (simp [Value.oneCell'] at h)
theorem oneA_cells {v : AVal} (h : oneA v = true) : v.cells = [v] := by cases v <;> first | rfl | (simp [oneA] at h)
theorem allOne_iff : ∀ {l : List AVal}, allOne l = true ↔ ∀ i, i < l.length → oneA (l.getD i .junk) = true
  | [] => by simp [allOne]
  | v :: r => by
    unfold allOne
    constructor
    · intro h
      cases hv : oneA v <;> rw [hv] at h
      · simp at h
      · intro i hi
        cases i with
        | zero => simpa using hv
        | succ i => have := allOne_iff.1 h i (by simpa using hi); simpa using this
    · intro h
      have h0 := h 0 (by simp)
      simp at h0
      rw [h0]
      exact allOne_iff.2 fun i hi => by have := h (i + 1) (by simpa using hi); simpa using this
/-- The cells of a value all of whose cells are one by one. -/
theorem VR.cells {e : Env} {v : AVal} {c : Value} (h : VR e v c) (ho : allOne v.cells = true) :
    v.cells.length = c.cells.size ∧ (∀ i, i < v.cells.length → VR e (v.cells.getD i .junk) (c.cells.getD i undef)) ∧ ∀ i, i < v.cells.length → (c.cells.getD i undef).oneCell' = true := by
  have key : v.cells.length = c.cells.size ∧ ∀ i, i < v.cells.length → VR e (v.cells.getD i .junk) (c.cells.getD i undef) := by
    by_cases hv : ∃ vs, v = .agg vs
    · obtain ⟨vs, rfl⟩ := hv
      obtain ⟨cs, rfl, h1, h2⟩ := h.agg_inv
      exact ⟨h1, h2⟩
    · have hv' : ∀ vs, v ≠ .agg vs := fun vs e => hv ⟨vs, e⟩
      have e1 : v.cells = [v] := by cases v <;> first | rfl | exact absurd rfl (hv' _)
      rw [e1] at ho ⊢
      have o1 := allOne_iff.1 ho 0 (by simp)
      simp at o1
      rw [one_not_agg (h.one o1)]
      refine ⟨rfl, fun i hi => ?_⟩
      have : i = 0 := by simp at hi; omega
      subst this
      exact h
  exact ⟨key.1, key.2, fun i hi => (key.2 i hi).one (allOne_iff.1 ho i hi)⟩

/-! ### Loads -/
theorem part_rel {R : AVal → Value → Prop} (hagg : ∀ vs cs, vs.length = cs.size → (∀ i, i < vs.length → R (vs.getD i .junk) (cs.getD i undef)) → R (.agg vs) (.agg cs))
    {P : Program} {t : Nat} {ti : TI} (hT : TIOK P t ti) {w : World} {b off : Nat} {vs : List AVal} {o : Nat} (hle : o + ti.sz ≤ vs.length) (f : Nat → Value)
    (hc : ∀ j, j < ti.sz → w.cell? ⟨b, off + j, none⟩ = some (f j)) (hv : ∀ j, j < ti.sz → R (vs.getD (o + j) .junk) (f j)) :
    ∃ c, (loadVar t ⟨b, off, none⟩).run P w = .ok c w ∧ R (part ti vs o) c := by
  unfold loadVar
  rw [Sem.run_bind, hT.run_isAgg]
  simp only [Result.andThen_ok]
  cases ha : ti.d.isAgg
  · have h1 := hT.one ha
    refine ⟨f 0, ?_, ?_⟩
    · have := hc 0 (by omega)
      simp only [Nat.add_zero] at this
      simp [run_load, this]
    · unfold part
      rw [ha]
      have := hv 0 (by omega)
      simpa using this
  · have hadd : ∀ j, (⟨b, off, none⟩ : Addr).add j = ⟨b, off + j, none⟩ := fun j => by
      unfold Addr.add; split
      · rename_i h; subst h; rfl
      · rfl
    have hl := run_loadCells (P := P) w ⟨b, off, none⟩ ti.sz f (fun j hj => by rw [hadd]; exact hc j hj)
    refine ⟨.agg ((List.range ti.sz).map f).toArray, ?_, ?_⟩
    · simp only [if_true, Sem.run_bind, hT.run_sizeOf, Result.andThen_ok, hl, Sem.run_pure]
    · unfold part
      rw [ha]
      refine hagg _ _ ?_ ?_
      · simp; omega
      · intro i hi
        simp at hi
        have h1 : i < ti.sz := by omega
        have := hv i h1
        simpa [List.getD, h1, List.getElem?_take, List.getElem?_drop] using this
theorem VR.part {e : Env} {P : Program} {t : Nat} {ti : TI} (hT : TIOK P t ti) {b off : Nat} {vs : List AVal} {o : Nat} (hle : o + ti.sz ≤ vs.length) (f : Nat → Value)
    (hc : ∀ j, j < ti.sz → e.w.cell? ⟨b, off + j, none⟩ = some (f j)) (hv : ∀ j, j < ti.sz → VR e (vs.getD (o + j) .junk) (f j)) :
    ∃ c, (loadVar t ⟨b, off, none⟩).run P e.w = .ok c e.w ∧ VR e (Go.AL.part ti vs o) c :=
  part_rel (R := VR e) (fun vs cs h1 h2 => .agg vs cs h1 h2) hT hle f hc hv

/-- What an operation has done. -/
def Step (e : Env) (v : AVal) (h : Heap) (c : Value) (w : World) : Prop := ∃ e', Good e' ∧ e'.h = h ∧ e'.w = w ∧ VR e' v c ∧ Upd e e' ∧ Ext e.h.length e e'
def ARok (e : Env) (r : AR) (run : Result Value) : Prop := match r with
  | .ok v h => ∃ c w', run = .ok c w' ∧ Step e v h c w'
  | .need q v h => rNd q → ∃ c w', run = .ok c w' ∧ Step e v h c w'
  | .stuck => True
def ARokS (e : Env) (r : AR) (run : Result Value) : Prop := match r with
  | .ok v h => h = e.h ∧ ∃ c, run = .ok c e.w ∧ VR e v c
  | .need _ _ _ => False
  | .stuck => True
theorem Step.same {e : Env} (hg : Good e) {v : AVal} {c : Value} (h : VR e v c) : Step e v e.h c e.w := ⟨e, hg, rfl, rfl, h, .refl _, .refl _ _⟩
theorem ARok.same {e : Env} (hg : Good e) {v : AVal} {c : Value} {run : Result Value} (h : VR e v c) (hr : run = .ok c e.w) : ARok e (.ok v e.h) run := ⟨c, e.w, hr, .same hg h⟩
theorem ARok.need {e : Env} (hg : Good e) {q : Need} {v : AVal} {run : Result Value} (h : rNd q → ∃ c, VR e v c ∧ run = .ok c e.w) : ARok e (.need q v e.h) run :=
  fun hq => let ⟨c, h1, h2⟩ := h hq; ⟨c, e.w, h2, .same hg h1⟩

/-! ### The world written -/
theorem cell_push (w : World) (o : Obj) (b x : Nat) (h : b < w.heap.size) : ({ w with heap := w.heap.push o } : World).cell? ⟨b, x, none⟩ = w.cell? ⟨b, x, none⟩ := by
  simp only [World.cell?, Array.getElem?_push]
  rw [if_neg (by omega)]
theorem lt_of_ps {e : Env} (hg : Good e) {b o : Nat} (h : o < e.ps b) : b < e.w.heap.size := by
  have := hg.ps b
  rcases Nat.lt_or_ge b e.w.heap.size with h' | h'
  · exact h'
  · simp [cellsSize, Array.getElem?_eq_none h'] at this; omega
/-- A block that is object i's is written. -/
def Env.wr (e : Env) (b : Nat) (cs : Array Value) (h : Heap) (m : Nat) : Env := { w := e.w.setRow b cs, sg := e.sg, h := h, ps := fun x => if x = b then m else e.ps x }
section
variable {e : Env} (hg : Good e) {i b : Nat} {o o' : AObj} {cs cs' : Array Value} {el : TypeId} {h' : Heap} {m : Nat}
  (ho : e.h[i]? = some o) (hlive : o.live = true) (hs : e.sg i = some b) (hb : e.w.heap[b]? = some (.cells cs el (0, 0))) (hsz : cs'.size = cs.size)
  (hh : ∀ j, j ≠ i → h'[j]? = e.h[j]?) (hi : h'[i]? = some o') (hm : OMono e (e.wr b cs' h' m) i o o')
  (hkeep : ∀ x, x < e.ps b → cs'[x]? = cs[x]?) (hps : e.ps b ≤ m)
include hg ho hs hb hsz hh hi hm hkeep hps
include hlive in
theorem wr_ext : Ext e.h.length e (e.wr b cs' h' m) where
  obj := fun j oj hj hoj => by
    by_cases hji : j = i
    · subst hji
      rw [ho] at hoj
      obtain rfl := Option.some.inj hoj
      exact ⟨o', hi, hm⟩
    · refine ⟨oj, (hh j hji).trans hoj, ?_⟩
      cases oj <;> simp only [OMono, Env.wr] <;> try simp
      intro b' hb' hbb
      subst hbb
      exact absurd (hg.inj j i _ _ _ hoj rfl ho hlive hb' hs) hji
  ps := fun x => by
    simp only [Env.wr]
    split
    · rename_i h; subst h; exact hps
    · exact Nat.le_refl _
  cell := fun x y hy => by
    simp only [Env.wr]
    by_cases hx : x = b
    · subst hx
      rw [cell_setRow_same _ _ _ _ _ _ _ hb, cell_of_row _ _ _ _ _ _ hb]
      exact hkeep y hy
    · rw [cell_setRow_other _ _ _ _ hx]
  size := fun x => by
    simp only [Env.wr, cellsSize]
    by_cases hx : x = b
    · subst hx
      rw [setRow_heap _ _ _ _ _ _ hb, hb]
      simp [hsz]
    · rw [setRow_other _ _ _ _ hx]
      exact Nat.le_refl _
omit hm hkeep hps hsz hi in
include hlive in
theorem wr_upd (hi : h'[i]? = some o') : Upd e (e.wr b cs' h' m) where
  os := rfl
  tape := rfl
  output := rfl
  size := by simp [Env.wr, World.setRow]
  frame := fun x hx hno => by
    have hxb : x ≠ b := fun h => hno (by subst h; exact ⟨i, o, ho, hlive, hs⟩)
    simp only [Env.wr]
    exact ⟨setRow_other _ _ _ _ hxb, by rw [if_neg hxb]⟩
  own := fun x ⟨j, oj, hj, hl, hsj⟩ => by
    by_cases hji : j = i
    · subst hji
      exact .inl ⟨j, o, ho, hlive, hsj⟩
    · exact .inl ⟨j, oj, (hh j hji).symm.trans hj, hl, hsj⟩
include hlive in
theorem wr_good (hok : ObjOK (e.wr b cs' h' m) i o') (hm2 : m ≤ cs.size) : Good (e.wr b cs' h' m) where
  obj := fun j oj hj => by
    by_cases hji : j = i
    · subst hji
      rw [show (e.wr b cs' h' m).h = h' from rfl, hi] at hj
      obtain rfl := Option.some.inj hj
      exact hok
    · have hj' : e.h[j]? = some oj := (hh j hji).symm.trans hj
      have hx := wr_ext hg ho hlive hs hb hsz hh hi hm hkeep hps
      have hob := hg.obj j oj hj'
      have hne : ∀ b', oj.live = true → e.sg j = some b' → b' ≠ b := fun b' hl hsj hbb => by
        subst hbb
        exact hji (hg.inj j i _ _ _ hj' hl ho hlive hsj hs)
      cases oj with
      | box vs =>
        obtain ⟨b2, c2, el2, h1, h2, h3, h4, h5⟩ := hob
        have hn := hne b2 rfl h1
        exact ⟨b2, c2, el2, h1, (setRow_other _ _ _ _ hn).trans h2, h3, by simp only [Env.wr]; rw [if_neg hn]; exact h4, fun k hk => (h5 k hk).mono (Nat.le_refl _) hx⟩
      | rw g q =>
        rcases hob with h0 | ⟨b2, c2, el2, h1, h2, h3, h4, h5, h6, h7⟩
        · exact .inl h0
        · have hn := hne b2 rfl h1
          exact .inr ⟨b2, c2, el2, h1, (setRow_other _ _ _ _ hn).trans h2, h3, by simp only [Env.wr]; rw [if_neg hn]; exact h4, h5, h6, fun x y hx' hy' => ⟨((h7 x y hx' hy').1).mono (Nat.le_refl _) hx, (h7 x y hx' hy').2⟩⟩
      | tok n =>
        intro b2 h1
        obtain ⟨c2, el2, h2⟩ := hob b2 h1
        have hn := hne b2 rfl h1
        exact ⟨c2, el2, (setRow_other _ _ _ _ hn).trans h2⟩
      | loop r =>
        obtain ⟨b2, r2, h1, h2, h3, h4⟩ := hob
        have hn := hne b2 rfl h1
        exact ⟨b2, r2, h1, (setRow_other _ _ _ _ hn).trans h2, h3, fun t => (h4 t).mono (Nat.le_refl _) hx⟩
      | dead g => trivial
  inj := fun x y ox oy b2 hx hlx hy hly hsx hsy => by
    have key : ∀ (z : Nat) (oz : AObj), (e.wr b cs' h' m).h[z]? = some oz → oz.live = true → ∃ oz' : AObj, e.h[z]? = some oz' ∧ oz'.live = true := fun z oz hz hlz => by
      by_cases hzi : z = i
      · subst hzi; exact ⟨o, ho, hlive⟩
      · exact ⟨oz, (hh z hzi).symm.trans hz, hlz⟩
    obtain ⟨ox', hx', hlx'⟩ := key x ox hx hlx
    obtain ⟨oy', hy', hly'⟩ := key y oy hy hly
    exact hg.inj x y ox' oy' b2 hx' hlx' hy' hly' hsx hsy
  ps := fun x => by
    simp only [Env.wr, cellsSize]
    by_cases hx : x = b
    · subst hx
      rw [setRow_heap _ _ _ _ _ _ hb, if_pos rfl]
      simp only [hsz]
      exact hm2
    · rw [setRow_other _ _ _ _ hx, if_neg hx]
      exact hg.ps x
end
/-- A new block, object i's. -/
def Env.fresh (e : Env) (w' : World) (i : Nat) (h : Heap) (m : Nat) : Env := { w := w', sg := fun j => if j = i then some e.w.heap.size else e.sg j, h := h, ps := fun x => if x = e.w.heap.size then m else e.ps x }
section
variable {e : Env} (hg : Good e) {w' : World} {ob : Obj} {i : Nat} {o' : AObj} {h' : Heap} {m : Nat}
  (hw : w'.heap = e.w.heap.push ob) (hm2 : m ≤ (match ob with | .cells cs _ _ => cs.size | _ => 0))
  (hh : ∀ j, j ≠ i → h'[j]? = e.h[j]?) (hi : h'[i]? = some o') (hm : ∀ o, e.h[i]? = some o → OMono e (e.fresh w' i h' m) i o o')
include hg hw hh hi hm
theorem fresh_old {x : Nat} (hx : x < e.w.heap.size) : w'.heap[x]? = e.w.heap[x]? := by
  rw [hw, Array.getElem?_push, if_neg (by omega)]
theorem fresh_new : w'.heap[e.w.heap.size]? = some ob := by
  rw [hw, Array.getElem?_push, if_pos rfl]
theorem fresh_ps0 : e.ps e.w.heap.size = 0 := by
  have := hg.ps e.w.heap.size
  simpa [cellsSize] using this
theorem fresh_sg {j b : Nat} {oj : AObj} (hj : e.h[j]? = some oj) (hl : oj.live = true) (hs : e.sg j = some b) : (∃ ob, e.w.heap[b]? = some ob) := by
  have := hg.obj j oj hj
  cases oj with
  | box vs => obtain ⟨b2, c2, el2, h1, h2, _⟩ := this; rw [h1] at hs; exact ⟨_, (Option.some.inj hs) ▸ h2⟩
  | rw g q =>
    rcases this with h0 | ⟨b2, c2, el2, h1, h2, _⟩
    · rw [h0.2] at hs; cases hs
    · rw [h1] at hs; exact ⟨_, (Option.some.inj hs) ▸ h2⟩
  | tok n => obtain ⟨c2, el2, h2⟩ := this b hs; exact ⟨_, h2⟩
  | loop r => obtain ⟨b2, r2, h1, h2, _⟩ := this; rw [h1] at hs; exact ⟨_, (Option.some.inj hs) ▸ h2⟩
  | dead g => simp [AObj.live] at hl
theorem fresh_ext : Ext e.h.length e (e.fresh w' i h' m) where
  obj := fun j oj hj hoj => by
    by_cases hji : j = i
    · subst hji
      exact ⟨o', hi, hm oj hoj⟩
    · refine ⟨oj, (hh j hji).trans hoj, ?_⟩
      cases oj <;> simp only [OMono, Env.fresh, if_neg hji] <;> try simp
      intro b' hb' hbb
      obtain ⟨ob', hob'⟩ := fresh_sg hg hw hh hi hm hoj rfl hb'
      subst hbb
      simp at hob'
  ps := fun x => by
    simp only [Env.fresh]
    split
    · rename_i h; subst h; rw [fresh_ps0 hg hw hh hi hm]; exact Nat.zero_le _
    · exact Nat.le_refl _
  cell := fun x y hy => by
    have hx := lt_of_ps hg hy
    simp only [Env.fresh, World.cell?]
    rw [fresh_old hg hw hh hi hm hx]
  size := fun x => by
    simp only [Env.fresh, cellsSize]
    rcases Nat.lt_or_ge x e.w.heap.size with hx | hx
    · rw [fresh_old hg hw hh hi hm hx]; exact Nat.le_refl _
    · rw [Array.getElem?_eq_none hx]; exact Nat.zero_le _
omit hm in
theorem fresh_upd (hos : w'.os = e.w.os) (htp : w'.tape = e.w.tape) (hout : w'.output = e.w.output) : Upd e (e.fresh w' i h' m) where
  os := hos
  tape := htp
  output := hout
  size := by simp [Env.fresh, hw]
  frame := fun x hx _ => by
    simp only [Env.fresh]
    refine ⟨?_, by rw [if_neg (by omega)]⟩
    rw [hw, Array.getElem?_push, if_neg (by omega)]
  own := fun x ⟨j, oj, hj, hl, hsj⟩ => by
    by_cases hji : j = i
    · subst hji
      simp only [Env.fresh, if_true] at hsj
      right
      exact Nat.le_of_eq (Option.some.inj hsj)
    · simp only [Env.fresh, if_neg hji] at hsj
      exact .inl ⟨j, oj, (hh j hji).symm.trans hj, hl, hsj⟩
include hm2 in
theorem fresh_good (hok : ObjOK (e.fresh w' i h' m) i o') : Good (e.fresh w' i h' m) where
  obj := fun j oj hj => by
    by_cases hji : j = i
    · subst hji
      rw [show (e.fresh w' j h' m).h = h' from rfl, hi] at hj
      obtain rfl := Option.some.inj hj
      exact hok
    · have hj' : e.h[j]? = some oj := (hh j hji).symm.trans hj
      have hx := fresh_ext hg hw hh hi hm
      have hob := hg.obj j oj hj'
      have hlt : ∀ b' ob', e.w.heap[b']? = some ob' → b' < e.w.heap.size := fun b' ob' h => (Array.getElem?_eq_some_iff.1 h).1
      have hsg : (e.fresh w' i h' m).sg j = e.sg j := by simp only [Env.fresh, if_neg hji]
      have hpp : ∀ b', b' < e.w.heap.size → (e.fresh w' i h' m).ps b' = e.ps b' := fun b' hb' => by simp only [Env.fresh]; rw [if_neg (by omega)]
      cases oj with
      | box vs =>
        obtain ⟨b2, c2, el2, h1, h2, h3, h4, h5⟩ := hob
        have hn := hlt _ _ h2
        exact ⟨b2, c2, el2, hsg.trans h1, (fresh_old hg hw hh hi hm hn).trans h2, h3, (hpp _ hn).trans h4, fun k hk => (h5 k hk).mono (Nat.le_refl _) hx⟩
      | rw g q =>
        rcases hob with h0 | ⟨b2, c2, el2, h1, h2, h3, h4, h5, h6, h7⟩
        · exact .inl ⟨h0.1, hsg.trans h0.2⟩
        · have hn := hlt _ _ h2
          exact .inr ⟨b2, c2, el2, hsg.trans h1, (fresh_old hg hw hh hi hm hn).trans h2, h3, (hpp _ hn).trans h4, h5, h6, fun x y hx' hy' => ⟨((h7 x y hx' hy').1).mono (Nat.le_refl _) hx, (h7 x y hx' hy').2⟩⟩
      | tok n =>
        intro b2 h1
        rw [hsg] at h1
        obtain ⟨c2, el2, h2⟩ := hob b2 h1
        exact ⟨c2, el2, (fresh_old hg hw hh hi hm (hlt _ _ h2)).trans h2⟩
      | loop r =>
        obtain ⟨b2, r2, h1, h2, h3, h4⟩ := hob
        exact ⟨b2, r2, hsg.trans h1, (fresh_old hg hw hh hi hm (hlt _ _ h2)).trans h2, h3, fun t => (h4 t).mono (Nat.le_refl _) hx⟩
      | dead g => trivial
  inj := fun x y ox oy b2 hx hlx hy hly hsx hsy => by
    have key : ∀ (z : Nat) (oz : AObj), z ≠ i → (e.fresh w' i h' m).h[z]? = some oz → oz.live = true → (e.fresh w' i h' m).sg z = some b2 → b2 < e.w.heap.size ∧ e.h[z]? = some oz ∧ e.sg z = some b2 := fun z oz hzi hz hlz hsz => by
      have hz' := (hh z hzi).symm.trans hz
      simp only [Env.fresh, if_neg hzi] at hsz
      obtain ⟨ob', h⟩ := fresh_sg hg hw hh hi hm hz' hlz hsz
      exact ⟨(Array.getElem?_eq_some_iff.1 h).1, hz', hsz⟩
    have self : ∀ z, z = i → (e.fresh w' i h' m).sg z = some b2 → b2 = e.w.heap.size := fun z hz h => by
      simp only [Env.fresh, if_pos hz] at h; exact (Option.some.inj h).symm
    by_cases hxi : x = i <;> by_cases hyi : y = i
    · rw [hxi, hyi]
    · have h1 := self x hxi hsx
      have h2 := key y oy hyi hy hly hsy
      omega
    · have h1 := self y hyi hsy
      have h2 := key x ox hxi hx hlx hsx
      omega
    · have h1 := key x ox hxi hx hlx hsx
      have h2 := key y oy hyi hy hly hsy
      exact hg.inj x y ox oy b2 h1.2.1 hlx h2.2.1 hly h1.2.2 h2.2.2
  ps := fun x => by
    simp only [Env.fresh, cellsSize]
    rcases Nat.lt_trichotomy x e.w.heap.size with hx | hx | hx
    · rw [if_neg (by omega), fresh_old hg hw hh hi hm hx]; exact hg.ps x
    · subst hx
      rw [if_pos rfl, fresh_new hg hw hh hi hm]
      cases ob <;> exact hm2
    · rw [if_neg (by omega)]
      have := hg.ps x
      simp only [cellsSize, Array.getElem?_eq_none (Nat.le_of_lt hx)] at this
      omega
end
section
variable {P : Program} {T : Tab} (hT : TabOK P T) {e : Env} (hg : Good e)
include hT hg
theorem aLoad_keep {p : Pr} (hp : DataOK p) {t : Nat} {a : AVal} {c : Value} (ha : VR e a c) :
    ARokS e (aLoad p T t a e.h) ((Instr.loadAt t c).run P e.w) := by
  unfold aLoad
  cases hti : T.get? t with
  | none => trivial
  | some ti =>
  have hti := hT _ _ hti
  simp only
  split
  · -- a box
    rename_i i off
    split
    · rename_i vs ho
      cases hle : Nat.ble (off + ti.sz) vs.length
      · trivial
      have hle := Nat.le_of_ble_eq_true hle
      simp only
      have hb : boxAt e.h[i]? fun vs => ∃ b, c = .pointer (some ⟨b, off, none⟩) ∧ e.sg i = some b ∧ off ≤ vs.length := by
        cases ha with
        | ptr _ _ _ h1 h => exact h
        | pure _ _ h => cases h
      rw [ho] at hb
      obtain ⟨b, rfl, hs, _⟩ := hb
      obtain ⟨b', cs, el, hs', hh, hl, _, hv⟩ := hg.obj i _ ho
      obtain rfl : b = b' := by rw [hs] at hs'; exact Option.some.inj hs'
      obtain ⟨c, hr, hc⟩ := VR.part (e := e) hti (b := b) (off := off) (o := off) hle (fun j => cs.getD (off + j) undef) (fun j hj => by
        rw [cell_of_row _ _ _ _ _ _ hh]
        have : off + j < cs.size := by omega
        simp [this]) (fun j hj => hv _ (by omega))
      refine ⟨rfl, c, ?_, hc⟩
      simp only [Instr.loadAt, Instr.sureAddr, Sem.run_bind, Sem.run_pure, Result.andThen_ok]
      exact hr
    · trivial
  · -- an element of a row
    rename_i i g ix off
    split
    · rename_i g' q ho
      cases hgg : Nat.beq g g'
      · trivial
      obtain rfl := Nat.eq_of_beq_eq_true hgg
      simp only
      cases hle : Nat.ble (off + ti.sz) (q.get p ix).cells.length
      · trivial
      have hle := Nat.le_of_ble_eq_true hle
      simp only
      have hb : rwAt e.h[i]? g fun q => 0 ≤ ix ∧ ix < q.n ∧ ∃ b, c = .pointer (some ⟨b, ix.toNat * q.k + off, none⟩) ∧ e.sg i = some b := by
        cases ha with
        | pe _ _ _ _ _ h1 h => exact h
        | pure _ _ h => cases h
      rw [ho] at hb
      obtain ⟨a1, a2, b, rfl, hs⟩ := hb.2 rfl
      have hobj := hg.obj i _ ho
      rcases hobj with ⟨h0, _⟩ | ⟨b', cs, el, hs', hh, hl, _, hfit, hk, hv⟩
      · omega
      obtain rfl : b = b' := by rw [hs] at hs'; exact Option.some.inj hs'
      have hget := get_real hp hfit a1 a2
      rw [hget] at hle ⊢
      have hki := hk ix.toNat (by omega)
      rw [hki] at hle
      have hlt : (ix.toNat + 1) * q.k ≤ q.n * q.k := Nat.mul_le_mul_right _ (by omega)
      rw [Nat.add_mul] at hlt
      obtain ⟨c, hr, hc⟩ := VR.part (e := e) hti (b := b) (off := ix.toNat * q.k + off) (vs := (q.at_ ix.toNat).cells) (o := off) (by rw [hki]; exact hle) (fun j => cs.getD (ix.toNat * q.k + off + j) undef) (fun j hj => by
        rw [cell_of_row _ _ _ _ _ _ hh]
        have : ix.toNat * q.k + off + j < cs.size := by omega
        simp [this]) (fun j hj => by
          have := (hv ix.toNat (off + j) (by omega) (by omega)).1
          rwa [← Nat.add_assoc] at this)
      refine ⟨rfl, c, ?_, hc⟩
      simp only [Instr.loadAt, Instr.sureAddr, Sem.run_bind, Sem.run_pure, Result.andThen_ok]
      exact hr
    · trivial
  · -- what is written no more
    rename_i xs
    cases hle : Nat.ble ti.sz xs.length
    · trivial
    have hle := Nat.le_of_ble_eq_true hle
    simp only
    have hpv : PVR e.w e.ps (.pp xs) c := by cases ha with | pure _ _ h => exact h
    cases hpv with
    | pp _ b off cv hp hc hv =>
      obtain ⟨c, hr, hc⟩ := VR.part (e := e) hti (b := b) (off := off) (vs := xs) (o := 0) (by omega) cv (fun j hj => hc j (by omega)) (fun j hj => by
        rw [Nat.zero_add]; exact .pure _ _ (hv j (by omega)))
      refine ⟨rfl, c, ?_, hc⟩
      simp only [Instr.loadAt, Instr.sureAddr, Sem.run_bind, Sem.run_pure, Result.andThen_ok]
      exact hr
  · trivial
theorem aLoad_ok {p : Pr} (hp : DataOK p) {t : Nat} {a : AVal} {c : Value} (ha : VR e a c) :
    ARok e (aLoad p T t a e.h) ((Instr.loadAt t c).run P e.w) := by
  have h := aLoad_keep hT hg hp (t := t) ha
  revert h
  cases aLoad p T t a e.h with
  | ok v h' =>
    rintro ⟨rfl, c', hr, hv⟩
    exact ⟨c', e.w, hr, .same hg hv⟩
  | need => exact fun h => h.elim
  | stuck => exact fun _ => trivial
omit hT in
/-- A new block for a new object at the heap's end. -/
theorem fresh_end {w' : World} {cs : Array Value} {el : TypeId} {o' : AObj} {m : Nat} (hw : w'.heap = e.w.heap.push (.cells cs el)) (hos : w'.os = e.w.os) (htp : w'.tape = e.w.tape) (hout : w'.output = e.w.output)
    (hm2 : m ≤ cs.size) {v : AVal} {c : Value}
    (hok : Ext e.h.length e (e.fresh w' e.h.length (e.h ++ [o']) m) → ObjOK (e.fresh w' e.h.length (e.h ++ [o']) m) e.h.length o')
    (hv : Ext e.h.length e (e.fresh w' e.h.length (e.h ++ [o']) m) → VR (e.fresh w' e.h.length (e.h ++ [o']) m) v c) : Step e v (e.h ++ [o']) c w' := by
  have hh : ∀ j, j ≠ e.h.length → (e.h ++ [o'])[j]? = e.h[j]? := fun j hj => by
    rcases Nat.lt_or_ge j e.h.length with h | h
    · rw [List.getElem?_append_left h]
    · rw [List.getElem?_eq_none (by simp; omega), List.getElem?_eq_none h]
  have hi : (e.h ++ [o'])[e.h.length]? = some o' := by simp
  have hm : ∀ o, e.h[e.h.length]? = some o → OMono e (e.fresh w' e.h.length (e.h ++ [o']) m) e.h.length o o' := fun o h => by simp at h
  have hx := fresh_ext hg hw hh hi hm
  exact ⟨_, fresh_good hg hw hm2 hh hi hm (hok hx), rfl, rfl, hv hx, fresh_upd hg hw hh hi hos htp hout, hx⟩
theorem aAlloc_ok {t : Nat} : ARok e (aAlloc T t e.h) ((Instr.alloc t true (.tuple #[])).run P e.w) := by
  unfold aAlloc
  cases hti : T.get? t with
  | none => trivial
  | some ti =>
  have hti := hT _ _ hti
  obtain ⟨z, hz, hz1, hz2, hz3⟩ := hti.run_zero
  refine ⟨.pointer (some ⟨e.w.heap.size, 0, none⟩), e.w.alloc (.cells z.cells t), ?_, ?_⟩
  · unfold Instr.alloc
    simp [hz, newVar, newRow]
  · have hzz : PVR e.w e.ps ti.zero z := hz3 _ _
    have hkey : ti.zero.cells.length = z.cells.size ∧ ∀ w ps i, i < ti.zero.cells.length → PVR w ps (ti.zero.cells.getD i .junk) (z.cells.getD i undef) := by
      refine ⟨by rw [hti.zl, hz1], fun w ps i hi => ?_⟩
      have h := hz3 w ps
      by_cases hv : ∃ vs, ti.zero = .agg vs
      · obtain ⟨vs, hvs⟩ := hv
        rw [hvs] at h hi ⊢
        obtain ⟨cs, rfl, _, h2⟩ := h.agg_inv
        exact h2 i hi
      · have hv' : ∀ vs, ti.zero ≠ .agg vs := fun vs e => hv ⟨vs, e⟩
        have e1 : ti.zero.cells = [ti.zero] := by revert hv'; cases ti.zero <;> intro hv' <;> first | rfl | exact absurd rfl (hv' _)
        have hl : z.cells.size = 1 := by rw [hz1, ← hti.zl, e1]; rfl
        rw [e1] at hi ⊢
        have hi0 : i = 0 := by simp at hi; omega
        subst hi0
        have : z.cells = #[z] ∨ ∃ cs, z = .agg cs := by cases z <;> first | exact .inl rfl | exact .inr ⟨_, rfl⟩
        rcases this with h0 | ⟨cs, h0⟩
        · rw [h0]; exact h
        · subst h0
          generalize hzv : ti.zero = zv at h
          cases h with
          | agg vs => exact absurd hzv (hv' vs)
          | junk => exact .junk _
    refine fresh_end hg (w' := e.w.alloc (.cells z.cells t)) (cs := z.cells) (el := t) (m := 0) rfl rfl rfl rfl (Nat.zero_le _) (fun hx => ?_) (fun hx => ?_)
    · refine ⟨e.w.heap.size, z.cells, t, by simp [Env.fresh], ?_, hkey.1, by simp [Env.fresh], fun j hj => .pure _ _ (hkey.2 _ _ j hj)⟩
      exact heap_alloc_new e.w _
    · refine .ptr _ _ _ rfl ?_
      simp only [Env.fresh, List.getElem?_append_right (Nat.le_refl _), Nat.sub_self]
      exact ⟨e.w.heap.size, rfl, by simp, Nat.zero_le _⟩
theorem aBox_ok {v : AVal} {c : Value} (hv : VR e v c) (t : TypeId) : ARok e (aBox v e.h) ((Instr.box t c).run P e.w) := by
  unfold aBox
  cases ho : allOne v.cells
  · trivial
  obtain ⟨h1, h2, h3⟩ := hv.cells ho
  refine ⟨.pointer (some ⟨e.w.heap.size, 0, none⟩), e.w.alloc (.cells c.cells t), ?_, ?_⟩
  · simp [Instr.box, newVar, newRow]
  · refine fresh_end hg (w' := e.w.alloc (.cells c.cells t)) (cs := c.cells) (el := t) (m := 0) rfl rfl rfl rfl (Nat.zero_le _) (fun hx => ?_) (fun hx => ?_)
    · refine ⟨e.w.heap.size, c.cells, t, by simp [Env.fresh], ?_, h1, by simp [Env.fresh], fun j hj => (h2 j hj).mono (Nat.le_refl _) hx⟩
      exact heap_alloc_new e.w _
    · refine .ptr _ _ _ rfl ?_
      simp only [Env.fresh, List.getElem?_append_right (Nat.le_refl _), Nat.sub_self]
      exact ⟨e.w.heap.size, rfl, by simp, Nat.zero_le _⟩
end
end Go.AL
