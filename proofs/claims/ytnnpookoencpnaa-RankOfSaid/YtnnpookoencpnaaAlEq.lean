/-
  AL: '==' of structs and arrays of whole numbers, bools and strings.
-/
import Derived.Test.YtnnpookoencpnaaAlOps2
import Derived.Laws.StructEq
set_option linter.unusedSectionVars false
set_option linter.unusedVariables false
namespace Go.AL
open Go

def eqB : List AVal → List AVal → Bool
  | [], [] => true
  | .int _ a :: x, .int _ b :: y => (a == b) && eqB x y
  | .bool a :: x, .bool b :: y => (a == b) && eqB x y
  | .str a :: x, .str b :: y => (a == b) && eqB x y
  | _, _ => false
/-- A cell that is a whole number, a bool or a string. -/
inductive CR : Sh → AVal → Value → Prop
  | int (k : IntKind) (n : Int) : CR (.int k) (.int k n) (.int k n)
  | bool (b : Bool) : CR .bool (.bool b) (.bool b)
  | str (s : ByteArray) : CR .str (.str s.data.toList) (.string s)
/-- Such cells from a place on. -/
def CRs (X : Array Value) : Nat → List Sh → List AVal → Prop
  | _, [], [] => True
  | o, s :: r, v :: vs => (∃ c, X[o]? = some c ∧ CR s v c) ∧ CRs X (o + 1) r vs
  | _, _, _ => False
theorem CRs.split {X : Array Value} : ∀ {o : Nat} {a b : List Sh} {vs : List AVal}, CRs X o (a ++ b) vs → ∃ x y, vs = x ++ y ∧ CRs X o a x ∧ CRs X (o + a.length) b y
  | o, [], b, vs, h => ⟨[], vs, rfl, trivial, by simpa using h⟩
  | o, s :: r, b, [], h => by simp [CRs] at h
  | o, s :: r, b, v :: vs, h => by
    obtain ⟨h1, h2⟩ := h
    obtain ⟨x, y, rfl, hx, hy⟩ := CRs.split h2
    exact ⟨v :: x, y, rfl, ⟨h1, hx⟩, by rw [List.length_cons, show o + (r.length + 1) = o + 1 + r.length by omega]; exact hy⟩
theorem CRs.length {X : Array Value} : ∀ {o : Nat} {a : List Sh} {vs : List AVal}, CRs X o a vs → vs.length = a.length
  | o, [], [], _ => rfl
  | o, s :: r, v :: vs, h => by simp [CRs.length h.2]
  | o, [], _ :: _, h => by simp [CRs] at h
  | o, _ :: _, [], h => by simp [CRs] at h
theorem CRs.extract {X : Array Value} {lo hi : Nat} : ∀ {o : Nat} {a : List Sh} {vs : List AVal}, CRs X (lo + o) a vs → lo + o + a.length ≤ hi → CRs (X.extract lo hi) o a vs
  | o, [], [], _, _ => trivial
  | o, s :: r, v :: vs, h, hl => by
    obtain ⟨⟨c, h1, h2⟩, h3⟩ := h
    simp at hl
    refine ⟨⟨c, ?_, h2⟩, CRs.extract (by rw [← Nat.add_assoc]; exact h3) (by omega)⟩
    rw [Array.getElem?_extract, if_pos]
    · exact h1
    · have := (Array.getElem?_eq_some_iff.1 h1).1
      omega
  | o, [], _ :: _, h, _ => by simp [CRs] at h
  | o, _ :: _, [], h, _ => by simp [CRs] at h
theorem eqB_append : ∀ {a b : List Sh} {X Y : Array Value} {o o' : Nat} {x y x2 y2 : List AVal}, CRs X o a x → CRs Y o' a y → eqB (x ++ x2) (y ++ y2) = (eqB x y && eqB x2 y2)
  | [], _, X, Y, o, o', [], [], x2, y2, _, _ => by simp [eqB]
  | s :: r, b, X, Y, o, o', v :: vs, u :: us, x2, y2, h1, h2 => by
    obtain ⟨⟨c, _, hc⟩, h1'⟩ := h1
    obtain ⟨⟨d, _, hd⟩, h2'⟩ := h2
    have ih := eqB_append (b := b) (x2 := x2) (y2 := y2) h1' h2'
    cases hc <;> cases hd <;> simp [eqB, ih, Bool.and_assoc]
  | [], _, _, _, _, _, _ :: _, _, _, _, h, _ => by simp [CRs] at h
  | [], _, _, _, _, _, [], _ :: _, _, _, _, h => by simp [CRs] at h
  | _ :: _, _, _, _, _, _, [], _, _, _, h, _ => by simp [CRs] at h
  | _ :: _, _, _, _, _, _, _ :: _, [], _, _, _, h => by simp [CRs] at h
theorem eqs_real {p : Pr} (hp : DataOK p) : ∀ {sh : List Sh} {x y : List AVal}, fitsSh sh x = true → fitsSh sh y = true → eqs p x y = some (eqB x y) := by
  intro sh
  induction sh with
  | nil =>
    intro x y hx hy
    cases x <;> cases y <;> simp [fitsSh, eqs, eqB] at *
  | cons s r ih =>
    intro x y hx hy
    cases x with
    | nil => cases s <;> simp [fitsSh] at hx
    | cons v vs =>
      cases y with
      | nil => cases s <;> simp [fitsSh] at hy
      | cons u us =>
        cases s <;> cases v <;> simp only [fitsSh] at hx <;> (try cases hx) <;> cases u <;> simp only [fitsSh] at hy <;> (try cases hy)
        · split at hx
          · split at hy
            · simp only [eqs, eqB]; rw [ih hx hy]; simp [hp.ba, hp.c2, rC2]
            · cases hy
          · cases hx
        · simp only [eqs, eqB]; rw [ih hx hy]; simp [hp.ba, hp.bq]
        · simp only [eqs, eqB]; rw [ih hx hy]; simp [hp.ba, hp.sc, rSc]
theorem CRs_of {R : AVal → Value → Prop} (hi : ∀ k n c, R (.int k n) c → c = .int k n) (hb : ∀ b c, R (.bool b) c → c = .bool b) (hs : ∀ s c, R (.str s) c → ∃ t : ByteArray, c = .string t ∧ t.data.toList = s)
    {X : Array Value} : ∀ {sh : List Sh} {o : Nat} {vs : List AVal}, fitsSh sh vs = true → o + vs.length ≤ X.size → (∀ i, i < vs.length → R (vs.getD i .junk) (X.getD (o + i) undef)) → CRs X o sh vs := by
  intro sh
  induction sh with
  | nil => intro o vs h _ _; cases vs <;> simp [fitsSh] at h; trivial
  | cons s r ih =>
    intro o vs h hl hr
    cases vs with
    | nil => cases s <;> simp [fitsSh] at h
    | cons v vs =>
      simp at hl
      have h0 := hr 0 (by simp)
      have hx : X[o]? = some (X.getD o undef) := by simp [show o < X.size by omega]
      have hrest : ∀ i, i < vs.length → R (vs.getD i .junk) (X.getD (o + 1 + i) undef) := fun i hi => by
        have := hr (i + 1) (by simp; omega)
        rwa [show o + (i + 1) = o + 1 + i by omega, List.getD_cons_succ] at this
      simp only [List.getD_cons_zero, Nat.add_zero] at h0
      cases s <;> cases v <;> simp only [fitsSh] at h <;> (try cases h)
      · split at h
        · rename_i hk
          have hk := IntKind.same_eq hk
          subst hk
          refine ⟨⟨_, hx, ?_⟩, ih h (by omega) hrest⟩
          rw [hi _ _ _ h0]; exact .int _ _
        · cases h
      · refine ⟨⟨_, hx, ?_⟩, ih h (by omega) hrest⟩
        rw [hb _ _ h0]; exact .bool _
      · obtain ⟨t, ht, hts⟩ := hs _ _ h0
        refine ⟨⟨_, hx, ?_⟩, ih h (by omega) hrest⟩
        rw [ht, ← hts]; exact .str t

theorem run_part_agg {P : Program} {t : Nat} {ti : TI} (h : TIOK P t ti) (ha : ti.d.isAgg = true) (X : Array Value) (o : Nat) (w : World) : (Go.part t X o).run P w = .ok (.agg (X.extract o (o + ti.sz))) w := by
  unfold Go.part
  simp [h.run_isAgg, ha, h.run_sizeOf]
theorem run_part_one {P : Program} {t : Nat} {ti : TI} (h : TIOK P t ti) (ha : ti.d.isAgg = false) {X : Array Value} {o : Nat} {c : Value} (hc : X[o]? = some c) (w : World) : (Go.part t X o).run P w = .ok c w := by
  unfold Go.part
  simp [h.run_isAgg, ha, hc]

/-- Parts of a type, from a place on, are compared so. -/
def EqAt (P : Program) (d : Nat) (t : Nat) (sh : List Sh) : Prop := ∀ (X Y : Array Value) (o o' : Nat) (x y : List AVal), CRs X o sh x → CRs Y o' sh y → ∀ w,
  ∃ a b, (Go.part t X o).run P w = .ok a w ∧ (Go.part t Y o').run P w = .ok b w ∧ (Op.equalIn d t a b).run P w = .ok (eqB x y) w
theorem eqFields_ok {P : Program} {T : Tab} {d : Nat} (hd : ∀ t sh, flatEq T d t = some sh → ∀ D, d ≤ D → EqAt P D t sh) :
    ∀ (fields : List Field) (sh : List Sh) (at_ : Nat), flatEq.flats T d (fields.map fun f => (f.offset, f.type)) at_ = some sh → (∀ f ∈ fields, f.name ≠ "_") →
    ∀ D, d ≤ D → ∀ (X Y : Array Value) (x y : List AVal), CRs X at_ sh x → CRs Y at_ sh y → ∀ w, (Op.eqFields D X Y fields).run P w = .ok (eqB x y) w
  | [], sh, at_, h, _, D, _, X, Y, x, y, hx, hy, w => by
    simp [flatEq.flats] at h
    subst h
    cases x <;> cases y <;> simp [CRs] at hx hy
    simp [Op.eqFields, eqB]
  | f :: fs, sh, at_, h, hn, D, hD, X, Y, x, y, hx, hy, w => by
    simp only [List.map_cons, flatEq.flats] at h
    split at h
    · rename_i ho
      have ho := Nat.eq_of_beq_eq_true ho
      split at h
      · rename_i l hl
        split at h
        · rename_i m hm
          cases h
          obtain ⟨x1, x2, rfl, hx1, hx2⟩ := hx.split
          obtain ⟨y1, y2, rfl, hy1, hy2⟩ := hy.split
          obtain ⟨a, b, h1, h2, h3⟩ := hd _ _ hl D hD X Y at_ at_ x1 y1 hx1 hy1 w
          have ih := eqFields_ok hd fs m (at_ + l.length) hm (fun f hf => hn f (by simp [hf])) D hD X Y x2 y2 hx2 hy2 w
          rw [Op.eqFields, if_pos (hn f (by simp)), ho]
          simp only [Sem.run_bind, h1, h2, h3, Result.andThen_ok]
          rw [eqB_append (b := m) hx1 hy1]
          cases eqB x1 y1
          · simp
          · simpa using ih
        · cases h
      · cases h
    · cases h
def eqArr (d : Nat) (e n : Nat) (X Y : Array Value) : List Nat → Sem Bool
  | [] => pure true
  | i :: is => do
    let a ← Go.part e X (i * n)
    let b ← Go.part e Y (i * n)
    let r ← Op.equalIn d e a b
    if (!r) = true then pure false else eqArr d e n X Y is
theorem run_equalIn_array {P : Program} (w : World) (d : Nat) {t m e : Nat} {te : TI} (xs ys : Array Value) (ht : P.underlying t = some (.array m e)) (hte : TIOK P e te) :
    (Op.equalIn (d + 1) t (.agg xs) (.agg ys)).run P w = (eqArr d e te.sz xs ys (List.range m)).run P w := by
  simp only [Op.equalIn, Sem.run_bind, run_underlying ht, Result.andThen_ok, hte.run_sizeOf]
  rw [Std.Legacy.Range.forIn_eq_forIn_range']
  simp only [Std.Legacy.Range.size, Nat.sub_zero, Nat.add_sub_cancel, Nat.div_one, ← List.range_eq_range']
  generalize List.range m = l
  clear ht
  induction l generalizing w with
  | nil => simp [eqArr]
  | cons i is ih =>
    simp only [List.forIn_cons, eqArr, Sem.run_bind, Sem.run_ite]
    generalize (Go.part e xs (i * te.sz)).run P w = r1
    cases r1 with
    | ok a w1 =>
      simp only [Result.andThen_ok]
      generalize (Go.part e ys (i * te.sz)).run P w1 = r2
      cases r2 with
      | ok b w2 =>
        simp only [Result.andThen_ok]
        generalize (Op.equalIn d e a b).run P w2 = r3
        cases r3 with
        | ok r w3 =>
          cases r
          · simp only [Result.andThen_ok, Bool.not_false, if_true, Sem.run_pure]
          · simp only [Result.andThen_ok, Bool.not_true, Bool.false_eq_true, if_false, Sem.run_pure]
            exact ih w3
        | halt x w3 => simp [Result.andThen]
      | halt x w2 => simp [Result.andThen]
    | halt x w1 => simp [Result.andThen]
theorem eqArr_ok {P : Program} {d e n : Nat} {l : List Sh} (he : EqAt P d e l) (hn : l.length = n) : ∀ (m i : Nat) (X Y : Array Value) (x y : List AVal), CRs X (i * n) (List.replicate m l).flatten x → CRs Y (i * n) (List.replicate m l).flatten y → ∀ w,
    (eqArr d e n X Y (List.range' i m)).run P w = .ok (eqB x y) w
  | 0, i, X, Y, x, y, hx, hy, w => by
    cases x <;> cases y <;> simp [CRs] at hx hy
    simp [eqArr, eqB]
  | m + 1, i, X, Y, x, y, hx, hy, w => by
    simp only [List.replicate_succ, List.flatten_cons] at hx hy
    obtain ⟨x1, x2, rfl, hx1, hx2⟩ := hx.split
    obtain ⟨y1, y2, rfl, hy1, hy2⟩ := hy.split
    obtain ⟨a, b, h1, h2, h3⟩ := he X Y _ _ x1 y1 hx1 hy1 w
    have hi : i * n + l.length = (i + 1) * n := by rw [hn, Nat.add_mul, Nat.one_mul]
    rw [hi] at hx2 hy2
    have ih := eqArr_ok he hn m (i + 1) X Y x2 y2 hx2 hy2 w
    simp only [List.range'_succ, eqArr, Sem.run_bind, h1, h2, h3, Result.andThen_ok]
    rw [eqB_append (b := (List.replicate m l).flatten) hx1 hy1]
    cases eqB x1 y1
    · simp
    · simpa using ih
theorem flat_ok {P : Program} {T : Tab} (hT : TabOK P T) : ∀ (d t : Nat) (sh : List Sh), flatEq T d t = some sh → (∀ ti, T.get? t = some ti → sh.length = ti.sz) ∧ ∀ D, d ≤ D → EqAt P D t sh := by
  intro d
  induction d with
  | zero => intro t sh h; simp [flatEq] at h
  | succ d ih =>
    intro t sh h
    simp only [flatEq] at h
    cases hti : T.get? t with
    | none => rw [hti] at h; cases h
    | some ti =>
    rw [hti] at h
    have ht := hT _ _ hti
    simp only at h
    have hD : ∀ D, d + 1 ≤ D → ∃ D', D = D' + 1 ∧ d ≤ D' := fun D h => ⟨D - 1, by omega, by omega⟩
    have one : ∀ s, ti.d.isAgg = false → sh = [s] → (∀ ti', some ti = some ti' → sh.length = ti'.sz) := fun s hs he ti' e => by cases e; rw [he, ht.one hs]; rfl
    obtain ⟨dd, hu, hdd⟩ := ht.under
    cases hk : ti.d with
    | int k =>
      rw [hk] at h hdd
      simp only [DOK] at hdd
      simp only [Option.some.injEq] at h
      subst h; subst hdd
      have ha : ti.d.isAgg = false := by rw [hk]; rfl
      refine ⟨one _ ha rfl, fun D hd X Y o o' x y hx hy w => ?_⟩
      obtain ⟨D', rfl, _⟩ := hD D hd
      match x, y, hx, hy with
      | [v], [u], ⟨⟨c, hc, hr⟩, _⟩, ⟨⟨c', hc', hr'⟩, _⟩ =>
        cases hr; cases hr'
        refine ⟨_, _, run_part_one ht ha hc w, run_part_one ht ha hc' w, ?_⟩
        rw [run_equalIn_int w D' t _ k _ _ hu]; simp [eqB]
    | bool =>
      rw [hk] at h hdd
      simp only [DOK] at hdd
      simp only [Option.some.injEq] at h
      subst h; subst hdd
      have ha : ti.d.isAgg = false := by rw [hk]; rfl
      refine ⟨one _ ha rfl, fun D hd X Y o o' x y hx hy w => ?_⟩
      obtain ⟨D', rfl, _⟩ := hD D hd
      match x, y, hx, hy with
      | [v], [u], ⟨⟨c, hc, hr⟩, _⟩, ⟨⟨c', hc', hr'⟩, _⟩ =>
        cases hr; cases hr'
        refine ⟨_, _, run_part_one ht ha hc w, run_part_one ht ha hc' w, ?_⟩
        rw [run_equalIn_bool' w D' t _ _ hu]; simp [eqB]
    | str =>
      rw [hk] at h hdd
      simp only [DOK] at hdd
      simp only [Option.some.injEq] at h
      subst h; subst hdd
      have ha : ti.d.isAgg = false := by rw [hk]; rfl
      refine ⟨one _ ha rfl, fun D hd X Y o o' x y hx hy w => ?_⟩
      obtain ⟨D', rfl, _⟩ := hD D hd
      match x, y, hx, hy with
      | [v], [u], ⟨⟨c, hc, hr⟩, _⟩, ⟨⟨c', hc', hr'⟩, _⟩ =>
        cases hr; cases hr'
        refine ⟨_, _, run_part_one ht ha hc w, run_part_one ht ha hc' w, ?_⟩
        rw [run_equalIn_string w D' t _ _ hu, ByteArray.toList_eq, ByteArray.toList_eq]; simp [eqB]
    | struct fs =>
      rw [hk] at h hdd
      simp only [DOK] at hdd
      obtain ⟨fields, rfl, hfs⟩ := hdd
      have ha : ti.d.isAgg = true := by rw [hk]; rfl
      simp only at h
      cases heq : ti.eqf <;> rw [heq] at h
      · cases h
      simp only at h
      obtain ⟨hst, hnm⟩ := ht.eqn heq fields hu
      subst hfs
      split at h
      · rename_i l hl
        split at h
        · rename_i hz
          have hz := Nat.eq_of_beq_eq_true hz
          cases h
          refine ⟨fun ti' e => by cases e; exact hz, fun D hd X Y o o' x y hx hy w => ?_⟩
          obtain ⟨D', rfl, hD'⟩ := hD D hd
          refine ⟨_, _, run_part_agg ht ha X o w, run_part_agg ht ha Y o' w, ?_⟩
          have hf : P.fieldsOf t = fields := by simp [Program.fieldsOf, hu]
          rw [run_equalIn_struct w D' t _ _ (by rw [hf]; exact hu) hst, hf]
          exact eqFields_ok (fun t s hs => (ih t s hs).2) fields.toList sh 0 hl hnm D' hD' _ _ x y (CRs.extract (o := 0) hx (by omega)) (CRs.extract (o := 0) hy (by omega)) w
        · cases h
      · cases h
    | array m e =>
      rw [hk] at h hdd
      simp only [DOK] at hdd
      subst hdd
      have ha : ti.d.isAgg = true := by rw [hk]; rfl
      simp only at h
      cases heq : ti.eqf <;> rw [heq] at h
      · cases h
      simp only at h
      split at h
      · rename_i l hl
        split at h
        · rename_i hz
          have hz := Nat.eq_of_beq_eq_true hz
          cases h
          refine ⟨fun ti' e => by cases e; exact hz, fun D hd X Y o o' x y hx hy w => ?_⟩
          obtain ⟨D', rfl, hD'⟩ := hD D hd
          refine ⟨_, _, run_part_agg ht ha X o w, run_part_agg ht ha Y o' w, ?_⟩
          cases hte : T.get? e with
          | none => cases d <;> simp [flatEq, hte] at hl
          | some te =>
            rw [run_equalIn_array w D' _ _ hu (hT _ _ hte), List.range_eq_range']
            have hel := (ih e l hl).1 te hte
            refine eqArr_ok ((ih e l hl).2 D' hD') hel m 0 _ _ x y ?_ ?_ w
            · rw [Nat.zero_mul]; exact CRs.extract (o := 0) hx (by omega)
            · rw [Nat.zero_mul]; exact CRs.extract (o := 0) hy (by omega)
        · cases h
      · cases h
    | slice _ => rw [hk] at h; cases h
    | ptr _ => rw [hk] at h; cases h
    | iface => rw [hk] at h; cases h
    | func => rw [hk] at h; cases h
    | other => rw [hk] at h; cases h
end Go.AL
