/-
  AL: arguments that came in, told off the cells, whatever their types: read by the table.
-/
import Derived.Test.YtnnpookoencpnaaAlBridge
import Derived.OpenShut
import Derived.Carry
import Derived.Deep.Slices
set_option linter.unusedSectionVars false
set_option linter.unusedVariables false
set_option linter.unusedSimpArgs false
namespace Go.AL
open Go Go.ChangeShapes Go.WideShapes
/-- The shapes of a type's cells. -/
def shC (T : Tab) : Nat → Nat → List Sh
  | 0, _ => [.any]
  | n + 1, t => match Tab.get? T t with
    | none => [.any]
    | some ti => match ti.d with
      | .int k => [.int k]
      | .bool => [.bool]
      | .str => [.str]
      | .slice e => match Tab.get? T e with
        | none => [.any]
        | some te => match te.d with
          | .int k => [.li k]
          | d => match d.isAgg with
            | true => [.lg (.rc (shC T n e))]
            | false => [.lg ((shC T n e).headD .any)]
      | .struct fs => fs.flatMap fun f => shC T n f.2
      | .array m e => (List.replicate m (shC T n e)).flatten
      | _ => [.any]
def shE (T : Tab) (n t : Nat) (agg : Bool) : Sh := match agg with
  | true => .rc (shC T n t)
  | false => (shC T n t).headD .any
def packE (agg : Bool) (c : List AVal) : AVal := match agg with
  | true => .agg c
  | false => c.getD 0 .junk
def tyFs (f : Nat → List AVal → Prop) : List (Nat × Nat) → List AVal → Prop
  | [], cs => cs = []
  | (_, t) :: r, cs => ∃ c d, cs = c ++ d ∧ f t c ∧ tyFs f r d
def tyN (f : List AVal → Prop) : Nat → List AVal → Prop
  | 0, cs => cs = []
  | m + 1, cs => ∃ c d, cs = c ++ d ∧ f c ∧ tyN f m d
/-- The cells of a value of a type. -/
def tyP (T : Tab) : Nat → Nat → List AVal → Prop
  | 0, _, _ => False
  | n + 1, t, cs => match Tab.get? T t with
    | none => False
    | some ti => match ti.d with
      | .bool => ∃ b, cs = [.bool b]
      | .int k => ∃ i, cs = [.int k i] ∧ (Lit.int k i).wf = true
      | .str => ∃ s, cs = [.str s] ∧ s.length ≤ maxLen
      | .slice e => match Tab.get? T e with
        | none => False
        | some te => match te.d with
          | .int k => ∃ l, cs = [.ls (.il k l) .any] ∧ l.length ≤ maxLen ∧ ∀ i ∈ l, (Lit.int k i).wf = true
          | d => ∃ xs, cs = [.ls (.gl (shE T n e d.isAgg) xs) .any] ∧ xs.length ≤ maxLen ∧ ∀ x ∈ xs, ∃ c, x = packE d.isAgg c ∧ tyP T n e c
      | .struct fs => tyFs (fun t c => tyP T n t c) fs cs
      | .array m e => tyN (fun c => tyP T n e c) m cs
      | _ => False
def okFs (T : Tab) (f : Nat → Bool) : List (Nat × Nat) → Nat → Nat → Bool
  | [], at_, sz => Nat.beq at_ sz
  | (off, t) :: r, at_, sz => Nat.beq off at_ && f t && (match Tab.get? T t with
    | some ti => okFs T f r (at_ + ti.sz) sz
    | none => false)
/-- Is a type one of those, so deep? -/
def okT (T : Tab) : Nat → Nat → Bool
  | 0, _ => false
  | n + 1, t => match Tab.get? T t with
    | none => false
    | some ti => match ti.d with
      | .bool | .int _ | .str => Nat.beq ti.sz 1
      | .slice e => Nat.beq ti.sz 1 && (match Tab.get? T e with
        | none => false
        | some te => (match te.d with
          | .int _ => Nat.beq te.sz 1
          | d => okT T n e && Nat.blt 0 te.sz && (d.isAgg || Nat.beq te.sz 1)))
      | .struct fs => okFs T (okT T n) fs 0 ti.sz
      | .array m e => okT T n e && (match Tab.get? T e with
        | none => false
        | some te => Nat.beq (m * te.sz) ti.sz)
      | _ => false
section
variable {H : Type} {enc : TypeId × Value → H} {P : Program} {T : Tab} (hT : TabOK P T) {w : World} {held : Bool}
theorem TIOK.cellsOf {t : Nat} {ti : TI} (h : TIOK P t ti) : P.cellsOf t = ti.sz := by
  obtain ⟨⟨info, z, d, hi, hs, _⟩, _⟩ := h
  simp [Program.cellsOf, hi, hs]
/-- Cells told. -/
def Told (w : World) (as : List AVal) (cs : List Value) : Prop := as.length = cs.length ∧ ∀ i, i < as.length → PVR w (cellsSize w) (as.getD i .junk) (cs.getD i undef) ∧ (cs.getD i undef).oneCell' = true
theorem Told.nil (w : World) : Told w [] [] := ⟨rfl, fun i h => by simp at h⟩
theorem Told.one {w : World} {a : AVal} {c : Value} (h : PVR w (cellsSize w) a c) (h1 : c.oneCell' = true) : Told w [a] [c] := ⟨rfl, fun i hi => by
  have : i = 0 := by simp at hi; omega
  subst this; exact ⟨h, h1⟩⟩
theorem Told.append {w : World} {a b : List AVal} {c d : List Value} (h : Told w a c) (k : Told w b d) : Told w (a ++ b) (c ++ d) := by
  refine ⟨by simp [h.1, k.1], fun i hi => ?_⟩
  have hl := h.1
  by_cases hi2 : i < a.length
  · have := h.2 i hi2
    simp only [List.getD] at this ⊢
    rw [List.getElem?_append_left hi2, List.getElem?_append_left (by omega)]
    exact this
  · have := k.2 (i - a.length) (by simp at hi; omega)
    simp only [List.getD] at this ⊢
    rw [List.getElem?_append_right (by omega), List.getElem?_append_right (by omega), ← hl]
    exact this
theorem tyN_len {f : List AVal → Prop} {z : Nat} (hf : ∀ c, f c → c.length = z) : ∀ {m : Nat} {cs : List AVal}, tyN f m cs → cs.length = m * z
  | 0, cs, h => by simp only [tyN] at h; subst h; simp
  | m + 1, cs, h => by
    obtain ⟨x, y, rfl, hx, hy⟩ := h
    rw [List.length_append, hf x hx, tyN_len hf hy, Nat.add_mul]; omega
theorem tyFs_len {T : Tab} {f : Nat → List AVal → Prop} {g : Nat → Bool} (hf : ∀ t ti c, g t = true → Tab.get? T t = some ti → f t c → c.length = ti.sz) :
    ∀ {fs : List (Nat × Nat)} {at_ sz : Nat} {cs : List AVal}, okFs T g fs at_ sz = true → tyFs f fs cs → at_ + cs.length = sz
  | [], at_, sz, cs, hok, h => by simp only [tyFs] at h; subst h; simpa using Nat.eq_of_beq_eq_true hok
  | (off, t) :: r, at_, sz, cs, hok, h => by
    obtain ⟨x, y, rfl, hx, hy⟩ := h
    simp only [okFs, Bool.and_eq_true] at hok
    obtain ⟨⟨_, hg⟩, hr⟩ := hok
    split at hr
    · rename_i ti hti
      have h1 := hf t ti x hg hti hx
      have h2 := tyFs_len hf hr hy
      rw [List.length_append]; omega
    · cases hr
theorem tyP_len {n : Nat} : ∀ {t : Nat} {c : List AVal} {ti : TI}, okT T n t = true → Tab.get? T t = some ti → tyP T n t c → c.length = ti.sz := by
  induction n with
  | zero => intro t c ti h; simp [okT] at h
  | succ n ih =>
    intro t c ti hok hti h
    simp only [okT, tyP, hti] at hok h
    cases hd : ti.d <;> rw [hd] at hok h <;> simp only [] at hok h
    · obtain ⟨i, rfl, _⟩ := h; exact (Nat.eq_of_beq_eq_true hok).symm
    · obtain ⟨i, rfl⟩ := h; exact (Nat.eq_of_beq_eq_true hok).symm
    · obtain ⟨i, rfl, _⟩ := h; exact (Nat.eq_of_beq_eq_true hok).symm
    · rw [Bool.and_eq_true] at hok
      split at h
      · exact h.elim
      · split at h
        · obtain ⟨i, rfl, _⟩ := h; exact (Nat.eq_of_beq_eq_true hok.1).symm
        · obtain ⟨i, rfl, _⟩ := h; exact (Nat.eq_of_beq_eq_true hok.1).symm
    · rename_i m e
      rw [Bool.and_eq_true] at hok
      split at hok
      · cases hok.2
      · rename_i te hte
        rw [← Nat.eq_of_beq_eq_true hok.2]
        exact tyN_len (fun c hc => ih hok.1 hte hc) h
    · have := tyFs_len (fun t ti c h1 h2 h3 => ih h1 h2 h3) hok h
      omega
    all_goals simp at hok
/-- Cells of shapes. -/
def Fits (ss : List Sh) (as : List AVal) : Prop := ss.length = as.length ∧ ∀ j, j < as.length → etaR (ss.getD j .any) (as.getD j .junk) = as.getD j .junk
theorem Fits.nil : Fits [] [] := ⟨rfl, fun i h => by simp at h⟩
theorem Fits.one {s : Sh} {a : AVal} (h : etaR s a = a) : Fits [s] [a] := ⟨rfl, fun i hi => by
  have : i = 0 := by simp at hi; omega
  subst this; exact h⟩
theorem Fits.append {s t : List Sh} {a b : List AVal} (h : Fits s a) (k : Fits t b) : Fits (s ++ t) (a ++ b) := by
  refine ⟨by simp [h.1, k.1], fun i hi => ?_⟩
  have hl := h.1
  by_cases hi2 : i < a.length
  · have := h.2 i hi2
    simp only [List.getD] at this ⊢
    rw [List.getElem?_append_left hi2, List.getElem?_append_left (by omega)]
    exact this
  · have := k.2 (i - a.length) (by simp at hi; omega)
    simp only [List.getD] at this ⊢
    rw [List.getElem?_append_right (by omega), List.getElem?_append_right (by omega), hl]
    exact this
theorem tyN_fits {f : List AVal → Prop} {s : List Sh} (hf : ∀ c, f c → Fits s c) : ∀ {m : Nat} {cs : List AVal}, tyN f m cs → Fits (List.replicate m s).flatten cs
  | 0, cs, h => by simp only [tyN] at h; subst h; exact .nil
  | m + 1, cs, h => by
    obtain ⟨x, y, rfl, hx, hy⟩ := h
    rw [List.replicate_succ, List.flatten_cons]
    exact (hf x hx).append (tyN_fits hf hy)
theorem tyFs_fits {T : Tab} {f : Nat → List AVal → Prop} {g : Nat → Bool} {s : Nat → List Sh} (hf : ∀ t c, g t = true → f t c → Fits (s t) c) :
    ∀ {fs : List (Nat × Nat)} {at_ sz : Nat} {cs : List AVal}, okFs T g fs at_ sz = true → tyFs f fs cs → Fits (fs.flatMap fun f => s f.2) cs
  | [], at_, sz, cs, hok, h => by simp only [tyFs] at h; subst h; exact .nil
  | (off, t) :: r, at_, sz, cs, hok, h => by
    obtain ⟨x, y, rfl, hx, hy⟩ := h
    simp only [okFs, Bool.and_eq_true] at hok
    obtain ⟨⟨_, hg⟩, hr⟩ := hok
    split at hr
    · rw [List.flatMap_cons]
      exact (hf t x hg hx).append (tyFs_fits hf hr hy)
    · cases hr
theorem tyP_fits {n : Nat} : ∀ {t : Nat} {c : List AVal}, okT T n t = true → tyP T n t c → Fits (shC T n t) c := by
  induction n with
  | zero => intro t c h; simp [okT] at h
  | succ n ih =>
    intro t c hok h
    simp only [okT, tyP, shC] at hok h ⊢
    cases hti : Tab.get? T t with
    | none => rw [hti] at h; exact h.elim
    | some ti =>
    rw [hti] at hok h
    simp only [] at hok h ⊢
    cases hd : ti.d <;> rw [hd] at hok h <;> (try simp only [] at hok h ⊢)
    · obtain ⟨i, rfl, _⟩ := h; exact .one rfl
    · obtain ⟨i, rfl⟩ := h; exact .one rfl
    · obtain ⟨i, rfl, _⟩ := h; exact .one rfl
    · split at h
      · exact h.elim
      · rename_i te hte
        try simp only [hte]
        split at h
        · rename_i k hk
          try simp only [hk]
          obtain ⟨i, rfl, _⟩ := h; exact .one rfl
        · rename_i hk
          obtain ⟨xs, rfl, _⟩ := h
          unfold shE
          cases ha : te.d.isAgg
          all_goals
            (try simp only [])
            first
            | exact .one rfl
            | (split
               · rename_i k hk'; exact absurd hk' (hk k)
               · exact .one rfl)
    · rename_i m e
      rw [Bool.and_eq_true] at hok
      exact tyN_fits (fun c hc => ih hok.1 hc) h
    · exact tyFs_fits (fun t c h1 h2 => ih h1 h2) hok h
    all_goals (first | exact h.elim | (simp at hok))
theorem tyP_one {n : Nat} {t : Nat} {c : List AVal} {ti : TI} (hok : okT T n t = true) (hti : Tab.get? T t = some ti) (ha : ti.d.isAgg = false) (h : tyP T n t c) :
    ∃ v s, c = [v] ∧ (∀ vs, v ≠ .agg vs) ∧ shC T n t = [s] ∧ s.k = 1 := by
  cases n with
  | zero => exact h.elim
  | succ n =>
    simp only [okT, tyP, shC, hti] at hok h ⊢
    cases hd : ti.d <;> rw [hd] at hok h ha <;> (try simp only [] at hok h ⊢)
    · obtain ⟨i, rfl, _⟩ := h; exact ⟨_, _, rfl, (fun _ h => by cases h), rfl, rfl⟩
    · obtain ⟨i, rfl⟩ := h; exact ⟨_, _, rfl, (fun _ h => by cases h), rfl, rfl⟩
    · obtain ⟨i, rfl, _⟩ := h; exact ⟨_, _, rfl, (fun _ h => by cases h), rfl, rfl⟩
    · split at h
      · exact h.elim
      · rename_i te hte
        try simp only [hte]
        split at h
        · rename_i k hk
          try simp only [hk]
          obtain ⟨i, rfl, _⟩ := h; exact ⟨_, _, rfl, (fun _ h => by cases h), rfl, rfl⟩
        · rename_i hk
          obtain ⟨xs, rfl, _⟩ := h
          unfold shE
          cases ha : te.d.isAgg
          all_goals
            (try simp only [])
            first
            | exact ⟨_, _, rfl, (fun _ h => by cases h), rfl, rfl⟩
            | (split
               · rename_i k hk'; exact absurd hk' (hk k)
               · exact ⟨_, _, rfl, (fun _ h => by cases h), rfl, rfl⟩)
    · cases ha
    · cases ha
    all_goals (first | exact h.elim | (simp at hok))
theorem etasR_fits : ∀ {l : List Sh} {j : Nat} {x : AVal} {as : List AVal}, x.cells.drop j = as → Fits l as → etasR l j x = as
  | [], j, x, as, h, hf => by
    have := hf.1
    simp only [etasR]
    exact (List.eq_nil_of_length_eq_zero (by simpa using this.symm)).symm
  | s :: r, j, x, [], h, hf => by have := hf.1; simp at this
  | s :: r, j, x, a :: as, h, hf => by
    have h0 := hf.2 0 (by simp)
    have ha : rFc x j = a := by
      unfold rFc
      have := congrArg (fun l => l.getD 0 AVal.junk) h
      simpa [List.getD, List.getElem?_drop] using this
    simp only [etasR, ha]
    rw [show etaR s a = a by simpa using h0]
    congr 1
    refine etasR_fits (l := r) (j := j + 1) (x := x) (as := as) ?_ ⟨by simpa using hf.1, fun i hi => by simpa using hf.2 (i + 1) (by simpa using hi)⟩
    rw [← List.drop_drop, h]; rfl
theorem pack_fit {agg : Bool} {n t : Nat} {c : List AVal} (h : Fits (shC T n t) c) (h1 : agg = false → c.length = 1) : etaR (shE T n t agg) (packE agg c) = packE agg c := by
  unfold shE
  generalize shC T n t = l at h
  cases agg
  · have hc := h1 rfl
    match c, hc, l, h.1 with
    | [a], _, [s], _ => simpa [packE] using h.2 0 (by simp)
  · simp only [packE, etaR]
    rw [etasR_fits (as := c) (by simp [AVal.cells]) h]
theorem pack_cells {agg : Bool} {c : List AVal} (h1 : agg = false → c.length = 1) (hn : agg = false → ∀ vs, c.getD 0 .junk ≠ .agg vs) : (packE agg c).cells = c := by
  cases agg
  · have hc := h1 rfl
    match c, hc with
    | [a], _ =>
      have := hn rfl
      simp only [packE, List.getD_cons_zero] at this ⊢
      cases a <;> first | rfl | (exact absurd rfl (this _))
  · rfl
theorem sz_pos_of_told {as : List AVal} {cs : List Value} (h : Told w as cs) : as.length = cs.length := h.1
theorem split_take {α : Type} (l : List α) (n : Nat) : l = l.take n ++ l.drop n := (List.take_append_drop n l).symm
include hT in
theorem told_N {n : Nat} {e : Nat} {z : Nat} {m : Nat} {fuel : Nat} {cs : List Value} {xs : List (DataW H × List MemPlace)} (ih : ∀ {cs : List Value} {x : DataW H × List MemPlace}, DataW.trod enc P w 0 (fun _ => true) held fuel e cs = some x → ∃ as, Told w as cs ∧ tyP T n e as)
    (hl : cs.length = m * z) (hx : xs.length = m) (hf : ∀ i, i < m → DataW.trod enc P w 0 (fun _ => true) held fuel e ((cs.drop (i * z)).take z) = xs[i]?) : ∃ as, Told w as cs ∧ tyN (fun c => tyP T n e c) m as := by
  induction m generalizing cs xs with
  | zero => exact ⟨[], by rw [List.eq_nil_of_length_eq_zero (l := cs) (by simpa using hl)]; exact .nil w, rfl⟩
  | succ m ihm =>
    have h0 := hf 0 (by omega)
    rw [Nat.zero_mul, List.drop_zero, List.getElem?_eq_getElem (by omega)] at h0
    obtain ⟨as, ta, pa⟩ := ih h0
    rw [Nat.add_mul] at hl
    obtain ⟨bs, tb, pb⟩ := ihm (cs := cs.drop z) (xs := xs.drop 1) (by rw [List.length_drop]; omega) (by rw [List.length_drop]; omega) (fun i hi => by
      have := hf (i + 1) (by omega)
      rw [List.drop_drop, List.getElem?_drop, Nat.add_comm 1 i, ← this, Nat.add_mul, Nat.one_mul, Nat.add_comm])
    refine ⟨as ++ bs, ?_, as, bs, rfl, pa, pb⟩
    have := ta.append tb
    rwa [List.take_append_drop] at this
include hT in
theorem told_Fs {n fuel : Nat} (ih : ∀ {t : Nat} {cs : List Value} {x : DataW H × List MemPlace}, okT T n t = true → DataW.trod enc P w 0 (fun _ => true) held fuel t cs = some x → ∃ as, Told w as cs ∧ tyP T n t as) :
    ∀ {fs : List (Nat × Nat)} {at_ sz : Nat} {cs : List Value}, okFs T (okT T n) fs at_ sz = true → at_ + cs.length = sz →
      (∀ f ∈ fs, ∃ x, DataW.trod enc P w 0 (fun _ => true) held fuel f.2 ((cs.drop (f.1 - at_)).take (P.cellsOf f.2)) = some x) → ∃ as, Told w as cs ∧ tyFs (fun t c => tyP T n t c) fs as
  | [], at_, sz, cs, hok, hl, hf => by
    have := Nat.eq_of_beq_eq_true hok
    exact ⟨[], by rw [List.eq_nil_of_length_eq_zero (l := cs) (by omega)]; exact .nil w, rfl⟩
  | (off, t) :: r, at_, sz, cs, hok, hl, hf => by
    simp only [okFs, Bool.and_eq_true] at hok
    obtain ⟨⟨ho, hg⟩, hr⟩ := hok
    have ho := Nat.eq_of_beq_eq_true ho
    subst ho
    split at hr
    · rename_i ti hti
      have hz := TIOK.cellsOf (hT _ _ hti)
      obtain ⟨x, hx⟩ := hf (off, t) (by simp)
      simp only [Nat.sub_self, List.drop_zero, hz] at hx
      obtain ⟨as, ta, pa⟩ := ih hg hx
      have hal := tyP_len hg hti pa
      have htl := ta.1
      rw [List.length_take] at htl
      have hge : ∀ (fs : List (Nat × Nat)) (a s : Nat), okFs T (okT T n) fs a s = true → ∀ f ∈ fs, a ≤ f.1 := by
        intro fs
        induction fs with
        | nil => intro a s _ f hf; simp at hf
        | cons g r ihr =>
          intro a s h f hf
          obtain ⟨o, u⟩ := g
          simp only [okFs, Bool.and_eq_true] at h
          obtain ⟨⟨h1, _⟩, h3⟩ := h
          have h1 := Nat.eq_of_beq_eq_true h1
          rcases List.mem_cons.1 hf with rfl | hf
          · simp [h1]
          · split at h3
            · have := ihr _ _ h3 f hf; omega
            · cases h3
      obtain ⟨bs, tb, pb⟩ := told_Fs ih (fs := r) (at_ := off + ti.sz) (sz := sz) (cs := cs.drop ti.sz) hr (by rw [List.length_drop]; omega) (fun f hfm => by
        obtain ⟨y, hy⟩ := hf f (by simp [hfm])
        refine ⟨y, ?_⟩
        have := hge r _ _ hr f hfm
        rw [List.drop_drop, show ti.sz + (f.1 - (off + ti.sz)) = f.1 - off by omega]
        exact hy)
      refine ⟨as ++ bs, ?_, as, bs, rfl, pa, pb⟩
      have := ta.append tb
      rwa [List.take_append_drop] at this
    · cases hr
theorem pvr_slice {q : LX} {a : Addr} {len cap z : Nat} (hq : q.n = len) (hf : q.fit) (hz : len ≠ 0 → q.k = z) (hzp : 0 < z) (hcap : len ≤ cap) (hany : ∀ i, i < cap → ∃ cs, w.cells? 0 (a.add (i * z)) z = some cs)
    (hA : ∀ i, i < len → ∀ cs, w.cells? 0 (a.add (i * z)) z = some cs → Told w (q.at_ i).cells cs) : PVR w (cellsSize w) (.ls q .any) (.slice (some a) len cap) := by
  rcases Nat.eq_zero_or_pos cap with h0 | h0
  · subst h0
    have : len = 0 := by omega
    subst this
    exact .lse q a hq hf
  · obtain ⟨cs0, hc0⟩ := hany 0 h0
    obtain ⟨_, hl0, hg0⟩ := World.cells?_some hc0
    have hspot : a.spot = none := by
      have := hg0 0 hzp
      rw [List.getElem?_eq_getElem (by omega)] at this
      rw [Nat.zero_mul] at this
      have e : (a.add 0).add 0 = a := by simp [Addr.add]
      rw [e] at this
      unfold World.cell? at this
      split at this
      · split at this
        · cases this
        · rename_i h; simpa using h
      · cases this
    obtain ⟨b, off, spot⟩ := a
    simp only at hspot
    subst hspot
    have hadd : ∀ i j, ((⟨b, off, none⟩ : Addr).add i).add j = ⟨b, off + i + j, none⟩ := fun i j => by
      simp only [Addr.add]; split <;> split <;> simp_all <;> omega
    have hcell : ∀ i, i < cap → ∀ j, j < z → ∃ c, w.cell? ⟨b, off + i * z + j, none⟩ = some c := fun i hi j hj => by
      obtain ⟨cs, hc⟩ := hany i hi
      obtain ⟨_, hl, hg⟩ := World.cells?_some hc
      have := hg j hj
      rw [List.getElem?_eq_getElem (by omega), hadd] at this
      exact ⟨_, this⟩
    have htold : ∀ i, i < len → ∀ j, j < z → (q.at_ i).cells.length = z ∧ PVR w (cellsSize w) ((q.at_ i).cells.getD j .junk) ((w.cell? ⟨b, off + i * z + j, none⟩).getD undef) ∧ ((w.cell? ⟨b, off + i * z + j, none⟩).getD undef).oneCell' = true := fun i hi j hj => by
      obtain ⟨cs, hc⟩ := hany i (by omega)
      obtain ⟨_, hl, hg⟩ := World.cells?_some hc
      have ht := hA i hi cs hc
      have hlen := ht.1
      have h2 := ht.2 j (by omega)
      have := hg j hj
      rw [hadd] at this
      rw [this]
      exact ⟨by omega, h2⟩
    rw [← hq]
    refine .ls q b off cap (fun i j => (w.cell? ⟨b, off + i * q.k + j, none⟩).getD undef) (by omega) hf (fun i hi => ?_) (fun h => ?_) (fun i j hi hj => ?_) (fun i j hi hj => ?_) (fun i j hi hj => ?_)
    · rw [hz (by omega)]; exact (htold i (by omega) 0 hzp).1
    · have hk := hz (by omega)
      rw [hk]
      obtain ⟨c, hc⟩ := hcell (q.n - 1) (by omega) (z - 1) (by omega)
      have := ps_of_cell hc
      have h3 : (q.n - 1) * z + z = q.n * z := by rw [← Nat.succ_mul]; congr 1; omega
      omega
    · have hk := hz (by omega)
      rw [hk] at hj ⊢
      obtain ⟨c, hc⟩ := hcell i (by omega) j hj
      rw [hc]; rfl
    · have hk := hz (by omega)
      rw [hk] at hj ⊢
      exact (htold i (by omega) j hj).2.2
    · have hk := hz (by omega)
      rw [hk] at hj ⊢
      exact (htold i (by omega) j hj).2.1
include hT in
/-- CELLS THAT CAME IN, TOLD. -/
theorem read_cells {n : Nat} : ∀ {fuel t : Nat} {cs : List Value} {x : DataW H × List MemPlace}, okT T n t = true → DataW.trod enc P w 0 (fun _ => true) held fuel t cs = some x → ∃ as, Told w as cs ∧ tyP T n t as := by
  induction n with
  | zero => intro fuel t cs x h; simp [okT] at h
  | succ n ih =>
    intro fuel t cs x hok h
    simp only [okT, tyP] at hok ⊢
    cases hti : Tab.get? T t with
    | none => rw [hti] at hok; cases hok
    | some ti =>
    rw [hti] at hok
    simp only [] at hok ⊢
    obtain ⟨d, hu, hdd⟩ := (hT _ _ hti).under
    cases hd : ti.d <;> rw [hd] at hok hdd <;> simp only [DOK] at hok hdd ⊢
    · subst hdd
      obtain ⟨i, rfl, _, hw⟩ := DataW.trod_int hu h
      exact ⟨_, .one (.int _ _) rfl, i, rfl, hw⟩
    · subst hdd
      obtain ⟨b, rfl, _⟩ := DataW.trod_bool hu h
      exact ⟨_, .one (.bool _) rfl, b, rfl⟩
    · subst hdd
      obtain ⟨s, rfl, _, hs⟩ := DataW.trod_string hu h
      exact ⟨_, .one (.str _) rfl, _, rfl, by simpa using hs⟩
    · rename_i e
      subst hdd
      rw [Bool.and_eq_true] at hok
      cases hte : Tab.get? T e with
      | none => rw [hte] at hok; cases hok.2
      | some te =>
      rw [hte] at hok
      have hz := TIOK.cellsOf (hT _ _ hte)
      have hok2 := hok.2
      simp only [] at hok2 ⊢
      rcases Go.Deep.open_slice hu h with ⟨rfl, _⟩ | ⟨a, len, cap, m, k, D, Pl, rfl, _, hl, hm, hmm, _, hx⟩
      · split
        · exact ⟨_, .one (.lsnil (.il _ []) .any rfl trivial (.inl rfl)) rfl, [], rfl, Nat.zero_le _, fun i hi => by simp at hi⟩
        · exact ⟨_, .one (.lsnil (.gl _ []) .any rfl (fun x hx => by simp at hx) (.inl rfl)) rfl, [], rfl, Nat.zero_le _, fun i hi => by simp at hi⟩
      · simp only [if_true] at hmm
        subst hmm
        rw [hz] at hx
        split
        · rename_i k' hk'
          rw [hk'] at hok2
          have hz1 := Nat.eq_of_beq_eq_true hok2
          rw [hz1] at hx
          have hu2 : P.underlying e = some (.int k') := by
            obtain ⟨d2, hu2, hd2⟩ := (hT _ _ hte).under
            rw [hk'] at hd2
            simp only [DOK] at hd2
            rw [hu2, hd2]
          obtain ⟨Z, hZ⟩ := Go.Deep.choose_lt (α := Int) (n := m) (p := fun i v => w.cells? 0 (a.add (i * 1)) 1 = some [.int k' v] ∧ (Lit.int k' v).wf = true) (fun i hi => by
            obtain ⟨cs', h1, h2⟩ := hx i hi
            obtain ⟨v, rfl, _, hw⟩ := DataW.trod_int hu2 h2
            exact ⟨v, h1, hw⟩)
          have hn : (LX.il k' ((List.range len).map Z)).n = len := by simp [LX.n, LX.toL]
          refine ⟨_, .one (pvr_slice (z := 1) (q := .il k' ((List.range len).map Z)) hn trivial (fun _ => rfl) (by decide) hl (fun i hi => ⟨_, (hZ i hi).1⟩) (fun i hi cs hc => ?_)) rfl, _, rfl, ?_, ?_⟩
          · rw [(hZ i (by omega)).1] at hc
            cases hc
            have : (LX.il k' ((List.range len).map Z)).at_ i = .int k' (Z i) := by simp [LX.at_, LX.toL, List.getD, hi]
            rw [this]
            exact .one (.int _ _) rfl
          · simp; omega
          · intro v hv
            simp only [List.mem_map, List.mem_range] at hv
            obtain ⟨i, hi, rfl⟩ := hv
            exact (hZ i (by omega)).2
        · rename_i hk'
          have hok3 : okT T n e = true ∧ 0 < te.sz ∧ (te.d.isAgg = true ∨ te.sz = 1) := by
            split at hok2
            · rename_i k' h; exact absurd h (hk' k')
            · simp only [Bool.and_eq_true, Bool.or_eq_true] at hok2
              exact ⟨hok2.1.1, Nat.blt_eq.mp hok2.1.2, hok2.2.imp id Nat.eq_of_beq_eq_true⟩
          obtain ⟨hoke, hzp, hone⟩ := hok3
          obtain ⟨A, hA⟩ := Go.Deep.choose_lt (α := List AVal) (n := m) (p := fun i v => ∃ cs, w.cells? 0 (a.add (i * te.sz)) te.sz = some cs ∧ Told w v cs ∧ tyP T n e v) (fun i hi => by
            obtain ⟨cs', h1, h2⟩ := hx i hi
            obtain ⟨as, h3, h4⟩ := ih hoke h2
            exact ⟨as, cs', h1, h3, h4⟩)
          have hAlen : ∀ i, i < m → (A i).length = te.sz := fun i hi => by
            obtain ⟨cs, _, _, h3⟩ := hA i hi
            exact tyP_len hoke hte h3
          have h1f : ∀ i, i < m → te.d.isAgg = false → (A i).length = 1 := fun i hi h => by
            rw [hAlen i hi]
            rcases hone with h2 | h2
            · rw [h] at h2; cases h2
            · exact h2
          have hn : (LX.gl (shE T n e te.d.isAgg) ((List.range len).map fun i => packE te.d.isAgg (A i))).n = len := by simp [LX.n, LX.toL]
          have hat : ∀ i, i < len → (LX.gl (shE T n e te.d.isAgg) ((List.range len).map fun i => packE te.d.isAgg (A i))).at_ i = packE te.d.isAgg (A i) := fun i hi => by simp [LX.at_, LX.toL, List.getD, hi]
          have hk : len ≠ 0 → (LX.gl (shE T n e te.d.isAgg) ((List.range len).map fun i => packE te.d.isAgg (A i))).k = te.sz := fun h0 => by
            have h1 := hAlen 0 (by omega)
            obtain ⟨cs, _, _, h3⟩ := hA 0 (by omega)
            have hfit := tyP_fits hoke h3
            simp only [LX.k, shE]
            cases hag : te.d.isAgg
            · simp only []
              rcases hone with h2 | h2
              · rw [hag] at h2; cases h2
              · rw [h2]
                obtain ⟨v, s, _, _, hs, hsk⟩ := tyP_one hoke hte hag h3
                rw [hs]
                exact hsk
            · simp only [Sh.k]
              rw [hfit.1, h1]
          refine ⟨_, .one (pvr_slice (z := te.sz) (q := .gl (shE T n e te.d.isAgg) ((List.range len).map fun i => packE te.d.isAgg (A i))) hn ?_ hk hzp hl (fun i hi => ?_) (fun i hi cs hc => ?_)) rfl, _, rfl, ?_, ?_⟩
          · intro x hx'
            simp only [List.mem_map, List.mem_range] at hx'
            obtain ⟨i, hi, rfl⟩ := hx'
            obtain ⟨cs, _, _, h3⟩ := hA i (by omega)
            exact pack_fit (tyP_fits hoke h3) (h1f i (by omega))
          · obtain ⟨cs, h1, _⟩ := hA i hi
            exact ⟨cs, h1⟩
          · obtain ⟨cs', h1, h2, h3⟩ := hA i (by omega)
            rw [h1] at hc
            cases hc
            rw [hat i hi, pack_cells (h1f i (by omega)) (fun hag vs hv => ?_)]
            · exact h2
            · obtain ⟨v', s, e1, e2, _⟩ := tyP_one hoke hte hag h3
              rw [e1] at hv
              exact e2 vs hv
          · simp; omega
          · intro x hx'
            simp only [List.mem_map, List.mem_range] at hx'
            obtain ⟨i, hi, rfl⟩ := hx'
            obtain ⟨cs, _, _, h3⟩ := hA i (by omega)
            exact ⟨_, rfl, h3⟩
    · rename_i m e
      subst hdd
      rw [Bool.and_eq_true] at hok
      obtain ⟨xs, k, _, _, hl, hxl, hf⟩ := DataW.trod_array hu h
      cases hte : Tab.get? T e with
      | none => rw [hte] at hok; cases hok.2
      | some te =>
      rw [hte] at hok
      have hz := TIOK.cellsOf (hT _ _ hte)
      rw [hz] at hf
      rw [TIOK.cellsOf (hT _ _ hti), ← Nat.eq_of_beq_eq_true hok.2] at hl
      exact told_N hT (fun h => ih hok.1 h) hl hxl hf
    · obtain ⟨fields, rfl, hfs⟩ := hdd
      obtain ⟨xs, k, _, _, hl, hxl, hf⟩ := DataW.trod_struct hu h
      refine told_Fs hT (fuel := k) (fun h1 h2 => ih h1 h2) hok (by rw [hl, TIOK.cellsOf (hT _ _ hti)]; omega) (fun f hfm => ?_)
      rw [← hfs] at hfm
      obtain ⟨g, hg, rfl⟩ := List.mem_map.1 hfm
      obtain ⟨i, hi, he⟩ := List.mem_iff_getElem.1 hg
      have hi' : i < fields.size := by simpa using hi
      have := hf i g (by rw [← Array.getElem?_toList]; rw [List.getElem?_eq_getElem hi, he])
      rw [List.getElem?_eq_getElem (by omega)] at this
      exact ⟨_, this⟩
    all_goals simp at hok
end
end Go.AL
