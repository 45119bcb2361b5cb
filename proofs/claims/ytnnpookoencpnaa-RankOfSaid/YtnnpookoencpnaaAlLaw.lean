/-
  AL: a law's statement from its contract: for arguments of whatever types the table has.
-/
import Derived.Test.YtnnpookoencpnaaAlRead
import Derived.ProofKit
set_option linter.unusedSectionVars false
set_option linter.unusedVariables false
set_option linter.unusedSimpArgs false
namespace Go.AL
open Go Go.ChangeShapes Go.WideShapes Go.RowKit
/-- An argument of a type. -/
def tyV (T : Tab) (n t : Nat) (v : AVal) : Prop := match Tab.get? T t with
  | some ti => match ti.d.isAgg with
    | true => ∃ c, v = .agg c ∧ tyP T n t c
    | false => tyP T n t [v]
  | none => False
def tyVs (T : Tab) (n : Nat) : List Nat → List AVal → Prop
  | [], vs => vs = []
  | t :: ts, vs => ∃ v r, vs = v :: r ∧ tyV T n t v ∧ tyVs T n ts r
section
variable {H : Type} {enc : TypeId × Value → H} {P : Program} {T : Tab} (hT : TabOK P T)
include hT
theorem read_arg {W : World} {n t base : Nat} {c : Value} {d : DataW H} {ps : List MemPlace} (hok : okT T n t = true) (hv : Value.okWide P W .any base t c) (h : DataW.Trod enc P W 0 (fun _ => true) true t c d ps) :
    ∃ v, tyV T n t v ∧ PVR W (cellsSize W) v c := by
  obtain ⟨fuel, h⟩ := h
  obtain ⟨as, ht, hp⟩ := read_cells hT hok h
  cases n with
  | zero => exact hp.elim
  | succ n =>
  cases hti : Tab.get? T t with
  | none => simp only [okT, hti] at hok; cases hok
  | some ti =>
  have hlen := tyP_len hok hti hp
  obtain ⟨d, hu, hdd⟩ := (hT _ _ hti).under
  simp only [tyV, hti]
  have one : (∀ a, c ≠ .agg a) → (∃ x : List Value, c.cells.toList = x ∧ x.length = 1) → ti.d.isAgg = false → ∃ v, (match ti.d.isAgg with | true => ∃ c, v = .agg c ∧ tyP T (n + 1) t c | false => tyP T (n + 1) t [v]) ∧ PVR W (cellsSize W) v c := fun hne hx hag => by
    obtain ⟨x, hx, hx1⟩ := hx
    have hcc : c.cells.toList = [c] := by
      cases c <;> first | rfl | (exact absurd rfl (hne _))
    obtain ⟨v, s, rfl, hva, _⟩ := tyP_one hok hti hag hp
    rw [hcc] at ht
    rw [hag]
    exact ⟨v, hp, (ht.2 0 (by simp)).1⟩
  have agg : ∀ cs : Array Value, c = .agg cs → ti.d.isAgg = true → ∃ v, (match ti.d.isAgg with | true => ∃ c, v = .agg c ∧ tyP T (n + 1) t c | false => tyP T (n + 1) t [v]) ∧ PVR W (cellsSize W) v c := fun cs hc hag => by
    subst hc
    rw [hag]
    have ht1 : as.length = cs.size := by simpa [Value.cells] using ht.1
    refine ⟨.agg as, ⟨as, rfl, hp⟩, .agg as cs ht1 fun i hi => ?_⟩
    have := (ht.2 i hi).1
    simpa [Value.cells] using this
  cases hd : ti.d <;> rw [hd] at hdd <;> simp only [DOK] at hdd
  · subst hdd
    obtain ⟨i, rfl⟩ := okWide_int hu hv
    rw [← hd]
    exact one (fun a h => by cases h) ⟨_, rfl, rfl⟩ (by rw [hd]; rfl)
  · subst hdd
    obtain ⟨i, rfl⟩ := okWide_bool hu hv
    rw [← hd]
    exact one (fun a h => by cases h) ⟨_, rfl, rfl⟩ (by rw [hd]; rfl)
  · subst hdd
    obtain ⟨i, rfl⟩ := okWide_string hu hv
    rw [← hd]
    exact one (fun a h => by cases h) ⟨_, rfl, rfl⟩ (by rw [hd]; rfl)
  · subst hdd
    obtain ⟨a, l, m, rfl⟩ := okWide_slice hu hv
    rw [← hd]
    exact one (fun a h => by cases h) ⟨_, rfl, rfl⟩ (by rw [hd]; rfl)
  · subst hdd
    rw [← hd]
    have hv' := hv
    simp only [Value.okWide, hu] at hv'
    obtain ⟨cs, h1, _⟩ := hv'
    exact agg cs h1 (by rw [hd]; rfl)
  · obtain ⟨fields, rfl, _⟩ := hdd
    rw [← hd]
    have hv' := hv
    simp only [Value.okWide, hu] at hv'
    obtain ⟨cs, h1, _⟩ := hv'
    exact agg cs h1 (by rw [hd]; rfl)
  all_goals (simp only [okT, hti, hd] at hok; cases hok)
theorem read_args {W : World} {n base : Nat} : ∀ {ts : List TypeId} {cs : List Value} {ds : List (DataW H)} {ps : List MemPlace}, ts.all (okT T n) = true → (∀ (j : Nat) t v, ts[j]? = some t → cs[j]? = some v → Value.okWide P W .any base t v) →
    DataW.TrodAll enc P W 0 (fun _ => true) true ts cs ds ps → ∃ vs, tyVs T n ts vs ∧ vs.length = cs.length ∧ ∀ i, i < vs.length → PVR W (cellsSize W) (vs.getD i .junk) (cs.getD i undef)
  | [], cs, ds, ps, hok, hv, h => by
    obtain ⟨rfl, _, _⟩ := trodAll_nil h
    exact ⟨[], rfl, rfl, fun i hi => by simp at hi⟩
  | t :: ts, cs, ds, ps, hok, hv, h => by
    obtain ⟨c, cs', d, ds', p, q, rfl, rfl, rfl, hd, hrest⟩ := trodAll_cons h
    simp only [List.all_cons, Bool.and_eq_true] at hok
    obtain ⟨v, h1, h2⟩ := read_arg hT hok.1 (hv 0 t c rfl rfl) hd
    obtain ⟨vs, h3, h4, h5⟩ := read_args hok.2 (fun j t v ht hc => hv (j + 1) t v (by simpa using ht) (by simpa using hc)) hrest
    refine ⟨v :: vs, ⟨v, vs, rfl, h1, h3⟩, by simp [h4], fun i hi => ?_⟩
    cases i with
    | zero => exact h2
    | succ i => simpa using h5 i (by simpa using hi)
omit hT in
theorem args_again (hl : laidOutB P = true) {W W' : World} (hb : Below W.heap.size W W') : ∀ {ts : List TypeId} {cs : List Value} {ds : List (DataW H)} {ps : List MemPlace}, ts.all (fun t => P.readableRec t && decide (t < P.types.size)) = true →
    DataW.TrodAll enc P W 0 (fun _ => true) true ts cs ds ps → (∀ x ∈ ps, x.block < W.heap.size) → ∃ qs, DataW.TrodAll enc P W' 0 (fun b => decide (b < W.heap.size)) true ts cs ds qs
  | [], cs, ds, ps, hok, h, hlt => by
    obtain ⟨rfl, rfl, rfl⟩ := trodAll_nil h
    exact ⟨[], trodAll_mk0⟩
  | t :: ts, cs, ds, ps, hok, h, hlt => by
    obtain ⟨c, cs', d, ds', p, q, rfl, rfl, rfl, hd, hrest⟩ := trodAll_cons h
    simp only [List.all_cons, Bool.and_eq_true, decide_eq_true_eq] at hok
    obtain ⟨qs, hq⟩ := args_again hl hb hok.2 hrest (fun x hx => hlt x (by simp [hx]))
    exact ⟨_, trodAll_cons_mk (Below.trod hl hok.1.1 hok.1.2 hd hb (fun x hx => hlt x (by simp [hx]))) hq⟩
end
theorem trodAll_len {H : Type} {enc : TypeId × Value → H} {P : Program} {w : World} {base : Nat} {sp : Nat → Bool} {held : Bool} : ∀ {ts : List TypeId} {vs : List Value} {ds : List (DataW H)} {ps : List MemPlace},
    DataW.TrodAll enc P w base sp held ts vs ds ps → ds.length = ts.length
  | [], vs, ds, ps, h => by obtain ⟨_, rfl, _⟩ := trodAll_nil h; rfl
  | t :: ts, vs, ds, ps, h => by
    obtain ⟨c, cs', d, ds', p, q, rfl, rfl, rfl, hd, hrest⟩ := trodAll_cons h
    simp [trodAll_len hrest]
/-- A LAW's STATEMENT, from its contract. -/
theorem law_lifted {C : Checked} {T : Tab} (hT : TabOK C.prog T) {f : FuncId} {fn : Func} {s : ChangeSpec} {conds : List PathCond} (n tb : Nat) {os : Os} (started : os.Started) {H : Type} (enc : TypeId × Value → H)
    (own : ownKnob C.prog.godebug = none) (laid : laidOutB C.prog = true) (noInit : C.prog.inits.idxOf? f = none) (hfn : C.prog.funcs[f]? = some fn)
    (witness : ∃ (w : World) (tape : Tape) (i : Input), w.os = os ∧ (w.forCall tape i).Shaped C.prog ∧ i.vars = [] ∧ Input.okWide C.prog (w.forCall tape i) .any w.heap.size f i ∧
      s.pre6 enc C.prog fn conds false (w.forCall tape i).memory i.args ∧ ({} : Assume).holds C.prog (lone (Frame.enter C.prog f i.args .normal) [] (w.forCall tape i)))
    (hvars : s.vars = []) (hs : ∀ ds : List (DataW H), ds.length = fn.params.toList.length → s.fn H ds = { results := [.lit (.bool true)], args := ds })
    (hr : fn.resultTypes = #[tb]) (htb : C.prog.underlying tb = some .bool) (hok : fn.params.toList.all (okT T n) = true) (hok2 : fn.params.toList.all (fun t => C.prog.readableRec t && decide (t < C.prog.types.size)) = true)
    (law : ∀ vs, tyVs T n fn.params.toList vs → Does C.prog f vs [] (Is (.bool true) [])) :
    ReturnsInHanded {} C os f .any (s.pre6 enc C.prog fn conds false) (s.post enc C.prog fn false true false false) := by
  refine returnsInHanded_of_change (C := C) own started noInit hfn witness ?_
  intro W base args ds gs before hval hW hcnd _
  have hW' := hW
  obtain ⟨p, q, hA, hV, rfl, hfz, hnd⟩ := hW
  rw [hvars] at hV
  obtain ⟨rfl, rfl⟩ := trodVars_none hV
  have hlt : ∀ x ∈ p, x.block < W.heap.size := fun x hx => hW'.lt x (by simp [hx])
  obtain ⟨vs, hty, hvl, hpv⟩ := read_args hT (base := base) hok (fun j t v ht hc => hval j t v (by simpa using ht) (by simpa using hc)) hA
  have walk : Calls C.prog f args W fun e W' => e = .returned (.bool true) ∧ Below W.heap.size W W' := bridge_law (law vs hty) (by simpa using hvl) (fun i hi => by simpa using hpv i hi)
  refine Calls.mono walk fun e W' ⟨he, hb⟩ => ?_
  subst he
  refine ⟨_, rfl, ?_⟩
  obtain ⟨qs, hq⟩ := args_again laid hb hok2 hA hlt
  have hdl := trodAll_len hA
  have hfn' := hs (ds ++ []) (by simpa using hdl)
  refine ⟨ds, [], _, [], qs, [], hW', ?_, ?_, ?_, hb.frame _, fun h => by cases h⟩
  · rw [hfn', hr]
    exact trodAll_mk1 (shut_bool htb true)
  · rw [hfn', List.append_nil]
    exact hq
  · rw [hvars]
    have : (s.fn H (ds ++ [])).vars = [] := by rw [hfn']
    rw [this]
    rfl
end Go.AL
