/-
  AL: the operations, ninth part: append.
-/
import Derived.Test.YtnnpookoencpnaaAlOps8
set_option linter.unusedSectionVars false
set_option linter.unusedVariables false
set_option linter.unusedSimpArgs false
namespace Go.AL
open Go

/-- What an append reads of a list. -/
structure FL (w : World) (ps : Nat → Nat) (r : LX) (z : Nat) (news : List Value) : Prop where
  len : news.length = r.n * z
  cl : ∀ i, i < r.n → (r.at_ i).cells.length = z
  rel : ∀ i j, i < r.n → j < z → PVR w ps ((r.at_ i).cells.getD j .junk) (news.getD (i * z + j) undef) ∧ (news.getD (i * z + j) undef).oneCell' = true
theorem getD_flat (cv : Nat → Nat → Value) (n z i j : Nat) (hi : i < n) (hj : j < z) : ((List.range (n * z)).map fun x => cv (x / z) (x % z)).getD (i * z + j) undef = cv i j := by
  have hlt : (i + 1) * z ≤ n * z := Nat.mul_le_mul_right _ hi
  rw [Nat.add_mul] at hlt
  have h1 : i * z + j < n * z := by omega
  have h2 : (i * z + j) / z = i := by rw [Nat.mul_comm, Nat.mul_add_div (by omega), Nat.div_eq_of_lt hj]; omega
  have h3 : (i * z + j) % z = j := by rw [Nat.mul_comm, Nat.mul_add_mod, Nat.mod_eq_of_lt hj]
  simp [List.getD, h1, h2, h3]
theorem first_ok {P : Program} {w : World} {ps : Nat → Nat} {r : LX} {d : Value} {z : Nat} (hz : 0 < z) (h : PVR w ps (.ls r .any) d) (hk : r.kOK z = true) :
    ∃ news, FL w ps r z news ∧ ∀ w', w'.heap = w.heap → (Builtin.firstCells z r.n d).run P w' = .ok news.toArray w' := by
  generalize hv : AVal.ls r .any = v at h
  cases h <;> cases hv
  · rename_i hq hf hc
    refine ⟨[], ⟨by rw [hq]; simp, fun i hi => by omega, fun i j hi => by omega⟩, fun w' _ => by simp [Builtin.firstCells]⟩
  · rename_i a hq hf
    refine ⟨[], ⟨by rw [hq]; simp, fun i hi => by omega, fun i j hi => by omega⟩, fun w' _ => ?_⟩
    rw [hq]
    simp [Builtin.firstCells, loadCells, loadCellsFrom]
  · rename_i b off cap cv hcap hf hkk hp hc h1 hv
    rcases kOK_k hk with h0 | h0
    · have hn : r.n = 0 := by rw [LX.n, h0]; rfl
      refine ⟨[], ⟨by rw [hn]; simp, fun i hi => by omega, fun i j hi => by omega⟩, fun w' _ => ?_⟩
      rw [hn]
      simp [Builtin.firstCells, loadCells, loadCellsFrom]
    · subst h0
      refine ⟨(List.range (r.n * r.k)).map fun x => cv (x / r.k) (x % r.k), ⟨by simp, hkk, fun i j hi hj => ?_⟩, fun w' hw => ?_⟩
      · rw [getD_flat _ _ _ _ _ hi hj]
        exact ⟨hv i j hi hj, h1 i j hi hj⟩
      · simp only [Builtin.firstCells]
        refine run_loadCells w' _ _ _ fun x hx => ?_
        rw [addr_add]
        have hi : x / r.k < r.n := Nat.div_lt_of_lt_mul (by rw [Nat.mul_comm]; exact hx)
        have hj : x % r.k < r.k := Nat.mod_lt _ hz
        have := hc _ _ hi hj
        rw [show off + x / r.k * r.k + x % r.k = off + x by have := Nat.div_add_mod x r.k; rw [Nat.mul_comm] at this; omega] at this
        rw [← this]
        simp only [World.cell?, hw]
section
variable {P : Program} {t t2 ty el el2 : Nat} {te : TI} {w : World} (ht : P.underlying t = some (.slice el)) (ht2 : P.underlying t2 = some (.slice el2)) (hte : TIOK P el te)
  {ba : Option Addr} {n cap m : Nat} {dy : Value} (hdy : ∃ a c, dy = .slice a m c) {news : List Value}
include ht ht2 hte hdy
theorem run_append_idle (hm : m = 0) (hcap : n ≤ cap) (hf : (Builtin.firstCells te.sz m dy).run P w = .ok #[] w) : (Builtin.append_ #[t, t2] ty #[.slice ba n cap, dy]).run P w = .ok (.slice ba n cap) w := by
  obtain ⟨a, c, rfl⟩ := hdy
  subst hm
  simp only [Builtin.append_]
  cases ba <;> simp [run_underlying ht, run_underlying ht2, hte.run_sizeOf, Builtin.lenOf, hcap, hf, storeCells]
theorem run_append_put (hcap : n + m ≤ cap) {b off : Nat} (hba : ba = some ⟨b, off, none⟩) {cur : Array Value} {elb : TypeId} (hb : w.heap[b]? = some (.cells cur elb (0, 0)))
    (hf : (Builtin.firstCells te.sz m dy).run P w = .ok news.toArray w) (hfit : off + n * te.sz + news.length ≤ cur.size) (h1 : ∀ v ∈ news, v.oneCell' = true) :
    (Builtin.append_ #[t, t2] ty #[.slice ba n cap, dy]).run P w = .ok (.slice ba (n + m) cap) (w.setRow b (spliced cur (off + n * te.sz) news)) := by
  obtain ⟨a, c, rfl⟩ := hdy
  subst hba
  have hst := run_storeCells_at P b (off + n * te.sz) elb news 0 cur w hb (by simpa using hfit) h1
  simp only [Nat.add_zero] at hst
  simp only [Builtin.append_]
  simp [run_underlying ht, run_underlying ht2, hte.run_sizeOf, Builtin.lenOf, hcap, hf, addr_add', hst, spliced]
theorem run_append_new {olds : List Value} (hcap : cap < n + m) (h63 : ((n + m : Nat) : Int) ≤ 9223372036854775807) (h48 : (n + m) * te.by_ ≤ 140737488355328)
    (hf : (Builtin.firstCells te.sz m dy).run P w.drew = .ok news.toArray w.drew) (hfo : (Builtin.firstCells te.sz n (.slice ba n cap)).run P w.drew = .ok olds.toArray w.drew) :
    ∃ rest newCap, n + m ≤ newCap ∧ rest.size = (newCap - (n + m)) * te.sz ∧
    (Builtin.append_ #[t, t2] ty #[.slice ba n cap, dy]).run P w = .ok (.slice (some ⟨w.heap.size, 0, none⟩) (n + m) newCap) (w.drew.alloc (.cells (olds.toArray ++ news.toArray ++ rest) el)) := by
  obtain ⟨a, c, rfl⟩ := hdy
  have hte' := hte
  obtain ⟨⟨info, z, d, hi, hsz, hby, hz, hz1, hz2, hz3, _⟩, _, _, _, _⟩ := hte'
  have hfits := growslice_fits hcap (bytes := te.by_) h48
  have hn : ¬ (n + m ≤ cap) := by omega
  have h63' : ¬ (9223372036854775807 < ((n : Int) + (m : Int))) := by omega
  have h48' : ¬ (281474976710656 < Builtin.nextslicecap (n + m) cap * te.by_) := by omega
  refine ⟨Builtin.zeroCells z.cells (grownCap w (n + m) cap el - (n + m)), grownCap w (n + m) cap el, grownCap_ge w (n + m) cap el, by rw [size_zeroCells, hz1], ?_⟩
  have hzr : ∀ w, (zeroValue el).run P w = .ok z w := fun w => by unfold zeroValue typeInfo; simp [hi, hz]
  have hinfo : ∀ w, (typeInfo el).run P w = .ok info w := fun w => by unfold typeInfo; simp [hi]
  simp only [Builtin.append_]
  simp [run_underlying ht, run_underlying ht2, hte.run_sizeOf, Builtin.lenOf, hn, h63', hinfo, hby, h48', Question.forced, hf, hfo, hzr, newRow, grownCap]
  congr 2
  apply Array.ext'
  simp [List.append_assoc]
end
theorem PVR.ls_shape {w : World} {ps : Nat → Nat} {q : LX} {d : Value} (h : PVR w ps (.ls q .any) d) : d = .slice none 0 0 ∨ (∃ a, d = .slice (some a) 0 0) ∨ ∃ b off cap, d = .slice (some ⟨b, off, none⟩) q.n cap ∧ q.n ≤ cap := by
  generalize hv : AVal.ls q .any = v at h
  cases h <;> cases hv
  · exact .inl rfl
  · rename_i a hq hf
    exact .inr (.inl ⟨a, rfl⟩)
  · exact .inr (.inr ⟨_, _, _, rfl, by assumption⟩)
theorem arr3_one (a b : List Value) (c : Array Value) (x : Nat) (h : x < a.length) : (a.toArray ++ b.toArray ++ c).getD x undef = a.getD x undef := by
  rw [Array.getD_eq_getD_getElem?, Array.getElem?_append, if_pos (by simp; omega), Array.getElem?_append, if_pos (by simp; omega)]
  simp [List.getD]
theorem arr3_two (a b : List Value) (c : Array Value) (x : Nat) (h : x < b.length) : (a.toArray ++ b.toArray ++ c).getD (a.length + x) undef = b.getD x undef := by
  rw [Array.getD_eq_getD_getElem?, Array.getElem?_append, if_pos (by simp; omega), Array.getElem?_append, if_neg (by simp)]
  simp [List.getD]
theorem isSl_spec {P : Program} {T : Tab} (hT : TabOK P T) {t : Nat} (h : isSl T t = true) : ∃ el, P.underlying t = some (.slice el) := by
  unfold isSl at h
  split at h
  · rename_i ti hti
    split at h
    · rename_i el hd
      obtain ⟨d, hu, hdd⟩ := (hT _ _ hti).under
      rw [hd] at hdd
      simp only [DOK] at hdd
      subst hdd
      exact ⟨el, hu⟩
    · cases h
  · cases h
/-- Two lists' cells, one behind the other, from a place on. -/
theorem PVR.joined {w : World} {ps : Nat → Nat} {q r s : LX} {z b off cap : Nat} (hs : s.toL = q.toL ++ r.toL) (hfit : s.fit) (hk : s.kOK z = true) {cs : Array Value} {el : TypeId} {fr : Nat × Nat} (hb : w.heap[b]? = some (.cells cs el fr))
    {olds news : List Value} (ho : FL w ps q z olds) (hn : FL w ps r z news) (hps : off + (q.n + r.n) * z ≤ ps b) (hle : off + (q.n + r.n) * z ≤ cs.size) (hcap : q.n + r.n ≤ cap)
    (h1 : ∀ x, x < q.n * z → cs.getD (off + x) undef = olds.getD x undef) (h2 : ∀ x, x < r.n * z → cs.getD (off + q.n * z + x) undef = news.getD x undef) :
    PVR w ps (.ls s .any) (.slice (some ⟨b, off, none⟩) (q.n + r.n) cap) := by
  have hsn : s.n = q.n + r.n := by rw [LX.n, hs, List.length_append]
  have hat1 : ∀ i, i < q.n → s.at_ i = q.at_ i := fun i hi => by
    rw [LX.at_, hs, LX.at_]
    simp only [List.getD]
    rw [List.getElem?_append_left hi]
  have hat2 : ∀ i, q.n ≤ i → s.at_ i = r.at_ (i - q.n) := fun i hi => by
    rw [LX.at_, hs, LX.at_]
    simp only [List.getD]
    rw [List.getElem?_append_right hi]
  have hkz : s.n ≠ 0 → s.k = z := fun h0 => by
    rcases kOK_k hk with h | h
    · exact absurd (by rw [LX.n, h]; rfl) h0
    · exact h
  have hcell : ∀ i j, i < s.n → j < s.k → s.k = z ∧ off + i * s.k + j < cs.size := fun i j hi hj => by
    have hz := hkz (by omega)
    refine ⟨hz, ?_⟩
    rw [hz] at hj ⊢
    have hlt : (i + 1) * z ≤ (q.n + r.n) * z := Nat.mul_le_mul_right _ (by omega)
    rw [Nat.add_mul] at hlt
    omega
  have hval : ∀ i j, i < s.n → j < s.k → PVR w ps ((s.at_ i).cells.getD j .junk) (cs.getD (off + i * s.k + j) undef) ∧ (cs.getD (off + i * s.k + j) undef).oneCell' = true := fun i j hi hj => by
    obtain ⟨hz, hlt⟩ := hcell i j hi hj
    rw [hz] at hj hlt ⊢
    by_cases hiq : i < q.n
    · rw [hat1 i hiq]
      have hlt : (i + 1) * z ≤ q.n * z := Nat.mul_le_mul_right _ hiq
      rw [Nat.add_mul] at hlt
      have := h1 (i * z + j) (by omega)
      rw [← Nat.add_assoc] at this
      rw [this]
      exact ho.rel i j hiq hj
    · rw [hat2 i (by omega)]
      have hlt : (i - q.n + 1) * z ≤ r.n * z := Nat.mul_le_mul_right _ (by omega)
      rw [Nat.add_mul] at hlt
      have := h2 ((i - q.n) * z + j) (by omega)
      have e1 : (q.n + (i - q.n)) * z = i * z := by congr 1; omega
      rw [Nat.add_mul] at e1
      rw [show off + q.n * z + ((i - q.n) * z + j) = off + i * z + j by omega] at this
      rw [this]
      exact hn.rel (i - q.n) j (by omega) hj
  rw [← hsn]
  refine .ls s b off cap (fun i j => cs.getD (off + i * s.k + j) undef) (by omega) hfit (fun i hi => ?_) (fun h => ?_) (fun i j hi hj => ?_) (fun i j hi hj => (hval i j hi hj).2) (fun i j hi hj => (hval i j hi hj).1)
  · rw [hkz (by omega)]
    by_cases hiq : i < q.n
    · rw [hat1 i hiq]; exact ho.cl i hiq
    · rw [hat2 i (by omega)]; exact hn.cl _ (by omega)
  · rw [hkz h, hsn]; exact hps
  · rw [cell_of_row _ _ _ _ _ _ hb]
    have := (hcell i j hi hj).2
    simp [this]
theorem FL.mono {w w' : World} {ps ps' : Nat → Nat} {r : LX} {z : Nat} {news : List Value} (h : FL w ps r z news) (hps : ∀ b, ps b ≤ ps' b) (hcell : ∀ b o, o < ps b → w'.cell? ⟨b, o, none⟩ = w.cell? ⟨b, o, none⟩) : FL w' ps' r z news :=
  ⟨h.len, h.cl, fun i j hi hj => ⟨(h.rel i j hi hj).1.mono hps hcell, (h.rel i j hi hj).2⟩⟩
/-- The heap alone is said otherwise. -/
def Env.gh (e : Env) (sg : Nat → Option Nat) (h : Heap) : Env := { e with sg := sg, h := h }
theorem gh_good {e : Env} (hg : Good e) {i : Nat} {o' : AObj} {h' : Heap} {sg' : Nat → Option Nat} (hsg : ∀ j, j ≠ i → sg' j = e.sg j) (hh : ∀ j, j ≠ i → h'[j]? = e.h[j]?) (hi : h'[i]? = some o')
    (hm : ∀ o, e.h[i]? = some o → OMono e (e.gh sg' h') i o o') (hown : ∀ b, o'.live = true → sg' i = some b → ∃ o, e.h[i]? = some o ∧ o.live = true ∧ e.sg i = some b) :
    Ext e.h.length e (e.gh sg' h') ∧ Upd e (e.gh sg' h') ∧ (ObjOK (e.gh sg' h') i o' → Good (e.gh sg' h')) := by
  have hx : Ext e.h.length e (e.gh sg' h') := ⟨fun j oj hj hoj => by
    by_cases hji : j = i
    · subst hji; exact ⟨o', hi, hm oj hoj⟩
    · refine ⟨oj, (hh j hji).trans hoj, ?_⟩
      cases oj <;> simp [OMono, Env.gh, hsg j hji], fun _ => Nat.le_refl _, fun _ _ _ => rfl, fun _ => Nat.le_refl _⟩
  have hown' : ∀ b, Owned (e.gh sg' h') b → Owned e b := fun b ⟨j, oj, hj, hl, hs⟩ => by
    by_cases hji : j = i
    · subst hji
      have : oj = o' := by have := hj.symm.trans hi; exact Option.some.inj this
      subst this
      obtain ⟨o, h1, h2, h3⟩ := hown b hl hs
      exact ⟨j, o, h1, h2, h3⟩
    · exact ⟨j, oj, (hh j hji).symm.trans hj, hl, (hsg j hji).symm.trans hs⟩
  refine ⟨hx, ⟨rfl, rfl, rfl, Nat.le_refl _, fun _ _ _ => ⟨rfl, rfl⟩, fun b hb => .inl (hown' b hb)⟩, fun hok => ⟨fun j oj hj => ?_, fun x y ox oy b hx' hlx hy' hly hsx hsy => ?_, hg.ps⟩⟩
  · by_cases hji : j = i
    · subst hji
      have : oj = o' := by have := hj.symm.trans hi; exact Option.some.inj this
      subst this
      exact hok
    · have hj' := (hh j hji).symm.trans hj
      have hob := hg.obj j oj hj'
      have hs' : (e.gh sg' h').sg j = e.sg j := hsg j hji
      cases oj with
      | box vs =>
        obtain ⟨b2, c2, el2, h1, h2, h3, h4, h5⟩ := hob
        exact ⟨b2, c2, el2, hs'.trans h1, h2, h3, h4, fun k hk => (h5 k hk).mono (Nat.le_refl _) hx⟩
      | rw g q =>
        rcases hob with h0 | ⟨b2, c2, el2, h1, h2, h3, h4, h5, h6, h7⟩
        · exact .inl ⟨h0.1, hs'.trans h0.2⟩
        · exact .inr ⟨b2, c2, el2, hs'.trans h1, h2, h3, h4, h5, h6, fun x y hx' hy' => ⟨((h7 x y hx' hy').1).mono (Nat.le_refl _) hx, (h7 x y hx' hy').2⟩⟩
      | tok n => intro b2 h1; exact hob b2 (hs'.symm.trans h1)
      | loop r => obtain ⟨b2, r2, h1, h2, h3, h4⟩ := hob; exact ⟨b2, r2, hs'.trans h1, h2, h3, fun t => (h4 t).mono (Nat.le_refl _) hx⟩
      | dead g => trivial
  · have key : ∀ z oz, (e.gh sg' h').h[z]? = some oz → oz.live = true → (e.gh sg' h').sg z = some b → ∃ o, e.h[z]? = some o ∧ o.live = true ∧ e.sg z = some b := fun z oz hz hl hs => by
      by_cases hzi : z = i
      · subst hzi
        have : oz = o' := by have := hz.symm.trans hi; exact Option.some.inj this
        subst this
        exact hown b hl hs
      · exact ⟨oz, (hh z hzi).symm.trans hz, hl, (hsg z hzi).symm.trans hs⟩
    obtain ⟨o1, a1, a2, a3⟩ := key x ox hx' hlx hsx
    obtain ⟨o2, b1, b2, b3⟩ := key y oy hy' hly hsy
    exact hg.inj x y o1 o2 b a1 a2 b1 b2 a3 b3

/-- What is copied: its cells, and how they are read. -/
structure Src (e : Env) {P : Program} (z : Nat) (r : LX) (dy : Value) (news : List Value) : Prop where
  len : news.length = r.n * z
  cl : ∀ x, x < r.n → (r.at_ x).cells.length = z
  rel : ∀ x j, x < r.n → j < z → VR e ((r.at_ x).cells.getD j .junk) (news.getD (x * z + j) undef) ∧ (news.getD (x * z + j) undef).oneCell' = true
  fit : r.fit
  sl : ∃ a cap, dy = .slice a r.n cap
  first : ∀ m, m ≤ r.n → ∀ w', w'.heap = e.w.heap → (Builtin.firstCells z m dy).run P w' = .ok (news.take (m * z)).toArray w'
section
variable {e : Env} {P : Program} {T : Tab} (hT : TabOK P T) (hg : Good e) {p : Pr} (hp : DataOK p)
include hT hg hp
/-- An append to a list whose token is i (perhaps a new one). -/
theorem append_tok' {te : TI} {t t2 el el2 : Nat} (ty : TypeId) (ht : P.underlying t = some (.slice el)) (ht2 : P.underlying t2 = some (.slice el2)) (hte : TIOK P el te) (hz : 0 < te.sz)
    {q r s : LX} {cq : Cap} {dx dy : Value} (hx : VR e (.ls q cq) dx) {news : List Value} (hFn : FL e.w e.ps r te.sz news) (hfn : ∀ w', w'.heap = e.w.heap → (Builtin.firstCells te.sz r.n dy).run P w' = .ok news.toArray w') (hrfit : r.fit) (hdy0 : ∃ ay capy, dy = .slice ay r.n capy) (hkq : q.kOK te.sz = true) (hkr : r.kOK te.sz = true) (happ : q.app p r = some s)
    (hroom : ((q.n : Int) + r.n) * te.by_ ≤ 140737488355328 ∧ (q.n : Int) + r.n ≤ 140737488355328)
    {i n' : Nat} {h' : Heap} (hh : ∀ j, j ≠ i → h'[j]? = e.h[j]?) (hi : h'[i]? = some (.tok n'))
    (hlow : ∀ o, e.h[i]? = some o → ∃ n, o = .tok n ∧ n < n')
    (hreal : e.h[i]? = none ∧ dx = .slice none 0 0 ∨ ∃ n, e.h[i]? = some (.tok n) ∧ endOK e i q.k dx) :
    ∃ c w', (Builtin.append_ #[t, t2] ty #[dx, dy]).run P e.w = .ok c w' ∧ Step e (.ls s (.tok i n')) h' c w' := by
  obtain ⟨a1, a2, a3, a4⟩ := app_real hp happ
  obtain ⟨ax, capx, hdx, hxn, hxs⟩ := hx.ls_len
  obtain ⟨ay, capy, hdy⟩ := hdy0
  have hxa := hx.ls_any
  obtain ⟨olds, hFo, hfo⟩ := first_ok (P := P) hz hxa hkq
  have hsfit : s.fit := a2 hxa.ls_fit hrfit
  have hsk := a3 _ hkq hkr
  have hncap : q.n ≤ capx := by
    have h := hxa
    rw [hdx] at h
    generalize hd : (Value.slice ax q.n capx) = d at h
    cases h with
    | lsnil _ _ h0 => rw [h0]; exact Nat.zero_le _
    | lse _ _ h0 => rw [h0]; exact Nat.zero_le _
    | ls _ b2 off cp2 cv hcap => injection hd with e1 e2 e3; rw [e3]; exact hcap
  have hlive : ∀ (e2 : Env), e2.h = h' → ∀ {o : AObj}, e.h[i]? = some o → (∀ (n : Nat), o = .tok n → OMono e e2 i o (.tok n')) := fun e2 _ o ho n hn => by
    subst hn
    obtain ⟨n2, h1, h2⟩ := hlow _ ho
    cases h1
    exact ⟨by omega, fun h => by omega⟩
  have hmono : ∀ (e2 : Env), ∀ o, e.h[i]? = some o → OMono e e2 i o (.tok n') := fun e2 o ho => by
    obtain ⟨n2, rfl, h2⟩ := hlow _ ho
    exact ⟨by omega, fun h => by omega⟩
  have hsn : s.n = q.n + r.n := by rw [LX.n, a1, List.length_append]
  have hnewsone : ∀ v ∈ news, v.oneCell' = true := fun v hv => by
    obtain ⟨x, hx', rfl⟩ := List.mem_iff_getElem.1 hv
    have hx2 : x < r.n * te.sz := by rw [← hFn.len]; exact hx'
    have h1 : x / te.sz < r.n := Nat.div_lt_of_lt_mul (by rw [Nat.mul_comm]; exact hx2)
    have := (hFn.rel (x / te.sz) (x % te.sz) h1 (Nat.mod_lt _ hz)).2
    rw [show x / te.sz * te.sz + x % te.sz = x by have := Nat.div_add_mod x te.sz; rw [Nat.mul_comm] at this; exact this] at this
    simpa [List.getD, hx'] using this
  by_cases hr0 : r.n = 0
  · -- nothing is put behind
    have hrun := run_append_idle (P := P) (ty := ty) ht ht2 hte (ba := ax) (n := q.n) (cap := capx) (m := r.n) (dy := dy) ⟨ay, capy, hdy⟩ hr0 hncap (by
      have := hfn e.w rfl
      have hl := hFn.len
      rw [hr0, Nat.zero_mul] at hl
      rw [List.eq_nil_of_length_eq_zero hl] at this
      exact this)
    rw [← hdx] at hrun
    refine ⟨dx, e.w, hrun, ?_⟩
    let sg' : Nat → Option Nat := fun j => if j = i then (if e.h[i]? = none then none else e.sg i) else e.sg j
    have hsg : ∀ j, j ≠ i → sg' j = e.sg j := fun j hj => by simp only [sg', if_neg hj]
    obtain ⟨g1, g2, g3⟩ := gh_good hg hsg hh hi (fun o ho => hmono _ o ho) (fun b hl hs => by
      simp only [sg', if_true] at hs
      split at hs
      · cases hs
      · rename_i hne
        cases ho : e.h[i]? with
        | none => exact absurd ho hne
        | some o =>
          obtain ⟨n2, rfl, _⟩ := hlow _ ho
          exact ⟨_, rfl, rfl, hs⟩)
    have hg' := g3 (fun b hs => by
      simp only [Env.gh, sg', if_true] at hs
      split at hs
      · cases hs
      · rename_i hne
        cases ho : e.h[i]? with
        | none => exact absurd ho hne
        | some o =>
          obtain ⟨n2, rfl, _⟩ := hlow _ ho
          exact hg.obj _ _ ho b hs)
    refine ⟨_, hg', rfl, rfl, ?_, g2, g1⟩
    have hsq : s.toL = q.toL := by
      rw [a1, List.eq_nil_of_length_eq_zero (show r.toL.length = 0 from hr0), List.append_nil]
    have hpv : PVR e.w e.ps (.ls s .any) dx := by
      have h := hxa
      generalize hv : AVal.ls q .any = v at h
      have hkk : s.n ≠ 0 → s.k = q.k := fun h0 => by
        rcases kOK_k hsk with h | h
        · exact absurd (by rw [LX.n, h]; rfl) h0
        · rcases kOK_k hkq with h2 | h2
          · exact absurd (by rw [LX.n, hsq, h2]; rfl) h0
          · rw [h, h2]
      have hat : ∀ i, s.at_ i = q.at_ i := fun i => by rw [LX.at_, hsq]
      have hn : s.n = q.n := by rw [LX.n, hsq]
      cases h <;> cases hv
      · rename_i hq hf hc
        exact .lsnil _ _ (by rw [hn]; exact hq) hsfit (.inl rfl)
      · rename_i ad hq hf
        exact .lse _ _ (by rw [hn]; exact hq) hsfit
      · rename_i b off cap cv hcap hf hk hps hc h1 hv
        rw [← hn]
        refine .ls s b off cap cv (by omega) hsfit (fun i hi => ?_) (fun h => ?_) (fun i j hi hj => ?_) (fun i j hi hj => ?_) (fun i j hi hj => ?_)
        · rw [hat, hkk (by omega)]; exact hk i (by omega)
        · rw [hkk h, hn]; exact hps (by omega)
        · rw [hkk (by omega)] at hj ⊢; exact hc i j (by omega) hj
        · rw [hkk (by omega)] at hj; exact h1 i j (by omega) hj
        · rw [hkk (by omega)] at hj; rw [hat]; exact hv i j (by omega) hj
    refine .tok _ _ _ _ hpv ?_
    show tokAt h'[i]? n' _
    rw [hi]
    refine ⟨Nat.le_refl _, fun _ => ?_⟩
    rcases hreal with ⟨_, rfl⟩ | ⟨n, ho, hend⟩
    · trivial
    · rw [hdx] at hend ⊢
      cases ax with
      | none => trivial
      | some ad =>
        rcases hend with h | ⟨h1, h2, h3, h4⟩
        · exact .inl h
        · have : s.k = q.k := a4 (fun h => by subst h; simp [LX.k] at h4)
          right
          refine ⟨?_, ?_, ?_, ?_⟩
          · simp only [Env.gh, sg', if_true, ho]
            rw [if_neg (by simp)]
            exact h1
          · rw [this]; exact h2
          · rw [this]; exact h3
          · rw [this]; exact h4
  · -- something is put behind
    have hs0 : s ≠ .nl := fun h => by
      have : s.n = 0 := by rw [h]; rfl
      omega
    have hskz : s.k = te.sz := (kOK_k' hsk).resolve_left hs0
    by_cases hcap : q.n + r.n ≤ capx
    · -- in place
      rcases hreal with ⟨_, h0⟩ | ⟨n, ho, hend⟩
      · rw [hdx] at h0
        injection h0 with e1 e2 e3
        omega
      rw [hdx] at hend
      cases hax : ax with
      | none =>
        have := hxn hax
        subst hax
        -- a nil slice has no room
        rcases hxa.ls_shape with h | ⟨a, h⟩ | ⟨b, off, cp, h, _⟩ <;> rw [hdx] at h <;> injection h with e1 e2 e3
        · omega
        · cases e1
        · cases e1
      | some ad =>
        subst hax
        rcases hend with h | ⟨h1, h2, h3, h4⟩
        · omega
        have hqk : q.k = te.sz := (kOK_k' hkq).resolve_left (fun h => by subst h; simp [LX.k] at h4)
        obtain ⟨cs, elb, hb⟩ := hg.obj _ _ ho _ h1
        have hcz : cellsSize e.w ad.block = cs.size := by simp [cellsSize, hb]
        rw [hqk] at h2 h3
        rw [hcz] at h3
        have hm1 : (q.n + r.n) * te.sz ≤ capx * te.sz := Nat.mul_le_mul_right _ hcap
        rw [Nat.add_mul] at hm1
        -- the address is a plain one
        have had : ad = ⟨ad.block, ad.off, none⟩ := by
          rcases hxa.ls_shape with h | ⟨a, h⟩ | ⟨b, off, cp, h, _⟩ <;> rw [hdx] at h <;> injection h with e1 e2 e3
          · cases e1
          · omega
          · injection e1 with e1; rw [e1]
        have hlenn := hFn.len
        have hrun := run_append_put (P := P) (ty := ty) ht ht2 hte (ba := some ad) (n := q.n) (cap := capx) (m := r.n) (dy := dy) ⟨ay, capy, hdy⟩ (news := news) hcap (congrArg some had) hb (hfn e.w rfl) (by omega) hnewsone
        rw [← hdx] at hrun
        refine ⟨_, _, hrun, ?_⟩
        have hsz : (spliced cs (ad.off + q.n * te.sz) news).size = cs.size := spliced_size (by omega)
        have hkeep : ∀ x, x < e.ps ad.block → (spliced cs (ad.off + q.n * te.sz) news)[x]? = cs[x]? := fun x hx' => spliced_get? (by omega) _ (by omega)
        have hm : OMono e (e.wr ad.block (spliced cs (ad.off + q.n * te.sz) news) h' (ad.off + (q.n + r.n) * te.sz)) i (.tok n) (.tok n') := hmono _ _ ho
        have hps : e.ps ad.block ≤ ad.off + (q.n + r.n) * te.sz := by rw [h2, Nat.add_mul]; omega
        have hext := wr_ext hg ho rfl h1 hb hsz hh hi hm hkeep hps
        have hgood := wr_good hg ho rfl h1 hb hsz hh hi hm hkeep hps (fun b hb' => by
          have : b = ad.block := by have := hb'.symm.trans h1; exact Option.some.inj this
          subst this
          exact ⟨_, elb, setRow_heap _ _ _ _ _ _ hb⟩) (by rw [Nat.add_mul]; omega)
        refine ⟨_, hgood, rfl, rfl, .tok _ _ _ _ ?_ ?_, wr_upd hg ho rfl h1 hb hh hi, hext⟩
        · rw [had]
          have hb2 : (e.wr ad.block (spliced cs (ad.off + q.n * te.sz) news) h' (ad.off + (q.n + r.n) * te.sz)).w.heap[ad.block]? = some (.cells (spliced cs (ad.off + q.n * te.sz) news) elb (0, 0)) := setRow_heap _ _ _ _ _ _ hb
          refine PVR.joined a1 hsfit hsk hb2 (hFo.mono hext.ps hext.cell) (hFn.mono hext.ps hext.cell) (by simp [Env.wr]) (by rw [hsz, Nat.add_mul]; omega) hcap (fun x hx' => ?_) (fun x hx' => ?_)
          · rw [spliced_get (by omega), if_neg (by omega)]
            -- what was read is what lies there
            have hxx : x / te.sz < q.n := Nat.div_lt_of_lt_mul (by rw [Nat.mul_comm]; exact hx')
            have hre := hfo e.w rfl
            rw [hdx, had] at hre
            simp only [Builtin.firstCells] at hre
            have hl2 := run_loadCells (P := P) e.w ⟨ad.block, ad.off, none⟩ (q.n * te.sz) (fun j => cs.getD (ad.off + j) undef) (fun j hj => by
              rw [addr_add, cell_of_row _ _ _ _ _ _ hb]
              have : ad.off + j < cs.size := by omega
              simp [this])
            rw [hl2] at hre
            have hre := (Result.ok.inj hre).1
            have : olds = (List.range (q.n * te.sz)).map fun j => cs.getD (ad.off + j) undef := by
              have := congrArg Array.toList hre
              simpa using this.symm
            rw [this]
            simp [List.getD, hx']
          · rw [spliced_get (by omega), if_pos (by omega)]
            congr 1; omega
        · show tokAt h'[i]? n' _
          rw [hi]
          refine ⟨Nat.le_refl _, fun _ => .inr ⟨h1, ?_, ?_, ?_⟩⟩
          · simp only [Env.wr, if_true]; rw [hskz]
          · rw [hskz]
            show _ ≤ cellsSize (e.w.setRow _ _) _
            simp only [cellsSize]
            rw [setRow_heap _ _ _ _ _ _ hb]
            show _ ≤ (spliced cs (ad.off + q.n * te.sz) news).size
            omega
          · rw [hskz]; exact hz
    · -- in a new block
      have h48 : (q.n + r.n) * te.by_ ≤ 140737488355328 := by
        have h9 := hroom.1
        rw [← Int.natCast_add, ← Int.natCast_mul] at h9
        omega
      obtain ⟨rest, newCap, hnc, hrest, hrun⟩ := run_append_new (P := P) (ty := ty) ht ht2 hte (ba := ax) (n := q.n) (cap := capx) (m := r.n) (dy := dy) ⟨ay, capy, hdy⟩ (news := news) (olds := olds) (by omega) (by omega) h48 (hfn _ rfl) (by rw [← hdx]; exact hfo _ rfl)
      rw [← hdx] at hrun
      refine ⟨_, _, hrun, ?_⟩
      have hlo := hFo.len
      have hln := hFn.len
      have hnc2 : (q.n + r.n + (newCap - (q.n + r.n))) * te.sz = newCap * te.sz := by congr 1; omega
      rw [Nat.add_mul, Nat.add_mul] at hnc2
      have hCs : (olds.toArray ++ news.toArray ++ rest).size = newCap * te.sz := by
        simp; omega
      have hw : (e.w.drew.alloc (.cells (olds.toArray ++ news.toArray ++ rest) el)).heap = e.w.heap.push (.cells (olds.toArray ++ news.toArray ++ rest) el) := rfl
      have hm2 : (q.n + r.n) * te.sz ≤ (match Obj.cells (olds.toArray ++ news.toArray ++ rest) el with | .cells cs _ _ => cs.size | _ => 0) := by
        show _ ≤ (olds.toArray ++ news.toArray ++ rest).size
        rw [hCs, Nat.add_mul]; omega
      have hext := fresh_ext (m := (q.n + r.n) * te.sz) hg hw hh hi (fun o ho => hmono _ o ho)
      have hnewb : (e.w.drew.alloc (.cells (olds.toArray ++ news.toArray ++ rest) el)).heap[e.w.heap.size]? = some (.cells (olds.toArray ++ news.toArray ++ rest) el) := by
        rw [hw]; simp
      have hgood := fresh_good (m := (q.n + r.n) * te.sz) hg hw hm2 hh hi (fun o ho => hmono _ o ho) (fun b hb' => by
        simp only [Env.fresh, if_true] at hb'
        obtain rfl := Option.some.inj hb'
        exact ⟨_, el, hnewb⟩)
      refine ⟨_, hgood, rfl, rfl, .tok _ _ _ _ ?_ ?_, fresh_upd hg hw hh hi rfl rfl rfl, hext⟩
      · refine PVR.joined (cs := olds.toArray ++ news.toArray ++ rest) (el := el) (fr := (0, 0)) (off := 0) a1 hsfit hsk hnewb (hFo.mono hext.ps hext.cell) (hFn.mono hext.ps hext.cell) (by
            show _ ≤ (if e.w.heap.size = e.w.heap.size then _ else _)
            rw [if_pos rfl, Nat.zero_add]; exact Nat.le_refl _) (by rw [hCs, Nat.add_mul]; omega) hnc (fun x hx' => ?_) (fun x hx' => ?_)
        · rw [Nat.zero_add, arr3_one _ _ _ _ (by omega)]
        · rw [Nat.zero_add, ← hlo, arr3_two _ _ _ _ (by omega)]
      · show tokAt h'[i]? n' _
        rw [hi]
        refine ⟨Nat.le_refl _, fun _ => .inr ⟨by simp [Env.fresh], ?_, ?_, ?_⟩⟩
        · rw [hskz]; simp [Env.fresh]
        · rw [hskz]
          show _ ≤ cellsSize (e.w.drew.alloc _) _
          simp only [cellsSize]
          rw [hnewb]
          show _ ≤ (olds.toArray ++ news.toArray ++ rest).size
          omega
        · rw [hskz]; exact hz
theorem append_tok {te : TI} {t t2 el el2 : Nat} (ty : TypeId) (ht : P.underlying t = some (.slice el)) (ht2 : P.underlying t2 = some (.slice el2)) (hte : TIOK P el te) (hz : 0 < te.sz)
    {q r s : LX} {cq : Cap} {cr : Cap} {dx dy : Value} (hx : VR e (.ls q cq) dx) (hy : VR e (.ls r cr) dy) (hkq : q.kOK te.sz = true) (hkr : r.kOK te.sz = true) (happ : q.app p r = some s)
    (hroom : ((q.n : Int) + r.n) * te.by_ ≤ 140737488355328 ∧ (q.n : Int) + r.n ≤ 140737488355328)
    {i n' : Nat} {h' : Heap} (hh : ∀ j, j ≠ i → h'[j]? = e.h[j]?) (hi : h'[i]? = some (.tok n'))
    (hlow : ∀ o, e.h[i]? = some o → ∃ n, o = .tok n ∧ n < n')
    (hreal : e.h[i]? = none ∧ dx = .slice none 0 0 ∨ ∃ n, e.h[i]? = some (.tok n) ∧ endOK e i q.k dx) :
    ∃ c w', (Builtin.append_ #[t, t2] ty #[dx, dy]).run P e.w = .ok c w' ∧ Step e (.ls s (.tok i n')) h' c w' := by
  obtain ⟨ay, capy, hdy, _, _⟩ := hy.ls_len
  obtain ⟨news, hFn, hfn⟩ := first_ok (P := P) hz hy.ls_any hkr
  exact append_tok' hT hg hp ty ht ht2 hte hz hx hFn hfn hy.ls_any.ls_fit ⟨ay, capy, hdy⟩ hkq hkr happ hroom hh hi hlow hreal
/-- A row's cells, as they lie. -/
theorem row_olds {i g : Nat} {q : LX} {dx : Value} (ho : e.h[i]? = some (.rw g q)) (hx : VR e (.sl i g 0 q.n) dx) :
    ∃ olds : List Value, olds.length = q.n * q.k ∧ (∀ x j, x < q.n → j < q.k → VR e ((q.at_ x).cells.getD j .junk) (olds.getD (x * q.k + j) undef) ∧ (olds.getD (x * q.k + j) undef).oneCell' = true) ∧
      (∀ x, x < q.n → (q.at_ x).cells.length = q.k) ∧ q.fit ∧
      (∃ ba cap, dx = .slice ba q.n cap ∧ q.n ≤ cap ∧ (∀ w', w'.heap = e.w.heap → (Builtin.firstCells q.k q.n dx).run P w' = .ok olds.toArray w') ∧
        (0 < cap → ∃ b cs el, ba = some ⟨b, 0, none⟩ ∧ e.sg i = some b ∧ e.w.heap[b]? = some (.cells cs el (0, 0)) ∧ cap * q.k ≤ cs.size ∧ e.ps b = 0 ∧ ∀ x, x < q.n * q.k → olds.getD x undef = cs.getD x undef)) := by
  obtain ⟨_, _, _, h4⟩ := VR.sl_inv hT hg hp hx ho
  have hob := hg.obj i _ ho
  rcases h4 with ⟨rfl, _, _, hn⟩ | ⟨b, cap, off, rfl, hsg, hcap, hoff⟩
  · rcases Nat.eq_zero_or_pos q.n with h0 | h0
    · have hfit : q.fit := by
        rcases hob with ⟨_, _⟩ | ⟨_, _, _, _, _, _, _, h5, _⟩
        · cases q with
          | gl s xs =>
            intro x hx'
            simp [LX.n, LX.toL] at h0
            rw [h0] at hx'; simp at hx'
          | _ => trivial
        · exact h5
      refine ⟨[], by rw [h0]; simp, fun x j hx' => by omega, fun x hx' => by omega, hfit, none, 0, by rw [h0], by omega, fun w' _ => by simp [Builtin.firstCells], fun h => by omega⟩
    · omega
  · have e1 : ((q.n : Int) - 0).toNat = q.n := by omega
    have hcap : q.n ≤ cap := by simpa using hcap
    rw [e1]
    rcases hob with ⟨h0, hno⟩ | ⟨b', cs, el, h1, h2, h3, h4, h5, h6, h7⟩
    · rw [hno] at hsg; cases hsg
    · obtain rfl : b = b' := by rw [hsg] at h1; exact Option.some.inj h1
      refine ⟨(List.range (q.n * q.k)).map fun x => cs.getD x undef, by simp, fun x j hx' hj => ?_, h6, h5, some ⟨b, off, none⟩, cap, rfl, hcap, fun w' hw' => ?_, fun hc => ?_⟩
      · have hlt : (x + 1) * q.k ≤ q.n * q.k := Nat.mul_le_mul_right _ hx'
        rw [Nat.add_mul] at hlt
        have : x * q.k + j < q.n * q.k := by omega
        simp only [List.getD, List.getElem?_map, List.getElem?_range this, Option.map_some, Option.getD_some]
        exact h7 x j hx' hj
      · rcases Nat.eq_zero_or_pos cap with h0 | h0
        · have : q.n = 0 := by omega
          rw [this]
          simp [Builtin.firstCells, loadCells, loadCellsFrom]
        · obtain ⟨h8, h9⟩ := hoff.resolve_left (by omega)
          have h8 : off = 0 := by simpa using h8
          subst h8
          simp only [Builtin.firstCells]
          refine run_loadCells w' _ _ _ fun x hx' => ?_
          rw [addr_add]
          have hlt : x < cs.size := by omega
          simp [World.cell?, hw', h2, hlt]
      · obtain ⟨h8, h9⟩ := hoff.resolve_left (by omega)
        have h8 : off = 0 := by simpa using h8
        subst h8
        refine ⟨b, cs, el, rfl, hsg, h2, ?_, h4, fun x hx' => ?_⟩
        · simp only [cellsSize, h2] at h9
          omega
        · simp [List.getD, hx']
/-- An append to a row. -/
theorem append_row {te : TI} {t t2 el el2 : Nat} (ty : TypeId) (ht : P.underlying t = some (.slice el)) (ht2 : P.underlying t2 = some (.slice el2)) (hte : TIOK P el te) (hz : 0 < te.sz)
    {i g : Nat} {q r s : LX} {dx dy : Value} (ho : e.h[i]? = some (.rw g q)) (hx : VR e (.sl i g 0 q.n) dx) (hqk : q.k = te.sz) (happ : q.app p r = some s) {news : List Value} (hsrc : Src e (P := P) te.sz r dy news)
    (hroom : ((q.n : Int) + r.n) * te.by_ ≤ 140737488355328 ∧ (q.n : Int) + r.n ≤ 140737488355328) :
    ∃ c w', (Builtin.append_ #[t, t2] ty #[dx, dy]).run P e.w = .ok c w' ∧ Step e (.sl i (g + 1) 0 s.n) (e.h.set i (.rw (g + 1) s)) c w' := by
  obtain ⟨a1, a2, a3, a4⟩ := app_real hp happ
  have hqnl : q ≠ .nl := fun h => by subst h; simp [LX.k] at hqk; omega
  have hsk : s.k = te.sz := (a4 hqnl).trans hqk
  obtain ⟨olds, hol, holr, hqc, hqf, ba, cap, hdx, hncap, hfo, hcapr⟩ := row_olds hT hg hp ho hx
  obtain ⟨ay, capy, hdy⟩ := hsrc.sl
  have hfn : ∀ w', w'.heap = e.w.heap → (Builtin.firstCells te.sz r.n dy).run P w' = .ok news.toArray w' := fun w' hw' => by
    have := hsrc.first r.n (Nat.le_refl _) w' hw'
    rwa [← hsrc.len, List.take_length] at this
  have hsfit : s.fit := a2 hqf hsrc.fit
  rw [hqk] at hol holr hqc hfo hcapr
  have hsn : s.n = q.n + r.n := by rw [LX.n, a1, List.length_append]
  have hil : i < e.h.length := (List.getElem?_eq_some_iff.1 ho).1
  have hh : ∀ j, j ≠ i → (e.h.set i (.rw (g + 1) s))[j]? = e.h[j]? := fun j hj => List.getElem?_set_ne (Ne.symm hj)
  have hi : (e.h.set i (.rw (g + 1) s))[i]? = some (.rw (g + 1) s) := by rw [List.getElem?_set, if_pos rfl, if_pos hil]
  have hmono : ∀ (e2 : Env), OMono e e2 i (.rw g q) (.rw (g + 1) s) := fun e2 => ⟨by omega, fun h => by omega⟩
  have hlnews := hsrc.len
  have hnewsone : ∀ v ∈ news, v.oneCell' = true := fun v hv => by
    obtain ⟨x, hx', rfl⟩ := List.mem_iff_getElem.1 hv
    have hx2 : x < r.n * te.sz := by rw [← hlnews]; exact hx'
    have h1 : x / te.sz < r.n := Nat.div_lt_of_lt_mul (by rw [Nat.mul_comm]; exact hx2)
    have := (hsrc.rel (x / te.sz) (x % te.sz) h1 (Nat.mod_lt _ hz)).2
    rw [show x / te.sz * te.sz + x % te.sz = x by have := Nat.div_add_mod x te.sz; rw [Nat.mul_comm] at this; exact this] at this
    simpa [List.getD, hx'] using this
  have hat1 : ∀ x, x < q.n → s.at_ x = q.at_ x := fun x hx' => by
    rw [LX.at_, a1, LX.at_]; simp only [List.getD]; rw [List.getElem?_append_left hx']
  have hat2 : ∀ x, q.n ≤ x → s.at_ x = r.at_ (x - q.n) := fun x hx' => by
    rw [LX.at_, a1, LX.at_]; simp only [List.getD]; rw [List.getElem?_append_right hx']
  have hscells : ∀ x, x < s.n → (s.at_ x).cells.length = s.k := fun x hx' => by
    rw [hsk]
    by_cases hq' : x < q.n
    · rw [hat1 x hq']; exact hqc x hq'
    · rw [hat2 x (by omega)]; exact hsrc.cl _ (by omega)
  -- the row's cells behind, wherever they lie
  have cells_ : ∀ (e2 : Env) (cs2 : Array Value), Ext e.h.length e e2 → (∀ x, x < q.n * te.sz → cs2.getD x undef = olds.getD x undef) → (∀ x, x < r.n * te.sz → cs2.getD (q.n * te.sz + x) undef = news.getD x undef) →
      ∀ x j, x < s.n → j < s.k → VR e2 ((s.at_ x).cells.getD j .junk) (cs2.getD (x * s.k + j) undef) ∧ (cs2.getD (x * s.k + j) undef).oneCell' = true := fun e2 cs2 hext h1 h2 x j hx' hj => by
    rw [hsk] at hj ⊢
    by_cases hq' : x < q.n
    · have hlt : (x + 1) * te.sz ≤ q.n * te.sz := Nat.mul_le_mul_right _ hq'
      rw [Nat.add_mul] at hlt
      rw [hat1 x hq', h1 _ (by omega)]
      exact ⟨(holr x j hq' hj).1.mono (Nat.le_refl _) hext, (holr x j hq' hj).2⟩
    · have hlt : (x - q.n + 1) * te.sz ≤ r.n * te.sz := Nat.mul_le_mul_right _ (by omega)
      rw [Nat.add_mul] at hlt
      have e1 : (q.n + (x - q.n)) * te.sz = x * te.sz := by congr 1; omega
      rw [Nat.add_mul] at e1
      have := h2 ((x - q.n) * te.sz + j) (by omega)
      rw [show q.n * te.sz + ((x - q.n) * te.sz + j) = x * te.sz + j by omega] at this
      rw [hat2 x (by omega), this]
      have h3 := hsrc.rel (x - q.n) j (by omega) hj
      exact ⟨h3.1.mono (Nat.le_refl _) hext, h3.2⟩
  by_cases hr0 : r.n = 0
  · -- nothing is put behind
    have hrun := run_append_idle (P := P) (ty := ty) ht ht2 hte (ba := ba) (n := q.n) (cap := cap) (m := r.n) (dy := dy) ⟨ay, capy, hdy⟩ hr0 hncap (by
      have := hfn e.w rfl
      rw [hr0, Nat.zero_mul] at hlnews
      rw [List.eq_nil_of_length_eq_zero hlnews] at this
      exact this)
    rw [← hdx] at hrun
    refine ⟨dx, e.w, hrun, ?_⟩
    obtain ⟨g1, g2, g3⟩ := gh_good hg (sg' := e.sg) (fun j _ => rfl) hh hi (fun o h => by rw [ho] at h; cases h; exact hmono _) (fun b _ hs => ⟨_, ho, rfl, hs⟩)
    have hok : ObjOK (e.gh e.sg (e.h.set i (.rw (g + 1) s))) i (.rw (g + 1) s) := by
      rcases hg.obj i _ ho with ⟨h0, hno⟩ | ⟨b, cs, el', k1, k2, k3, k4, k5, k6, k7⟩
      · exact .inl ⟨by omega, hno⟩
      · refine .inr ⟨b, cs, el', k1, k2, by rw [hsk, hsn, hr0, Nat.add_zero]; rw [hqk] at k3; exact k3, k4, hsfit, hscells, fun x j hx' hj => ?_⟩
        have hx2 : x < q.n := by omega
        rw [hat1 x hx2, hsk]
        rw [hsk] at hj
        have := k7 x j hx2 (by rw [hqk]; exact hj)
        rw [hqk] at this
        exact ⟨this.1.mono (Nat.le_refl _) g1, this.2⟩
    refine ⟨_, g3 hok, rfl, rfl, ?_, g2, g1⟩
    have hx0 := VR.sl_inv hT hg hp hx ho
    have h1c : dx.oneCell' = true := by rw [hdx]; rfl
    refine .sl i (g + 1) 0 s.n dx h1c ?_
    show rwAt (e.h.set i (.rw (g + 1) s))[i]? (g + 1) _
    rw [hi]
    refine ⟨Nat.le_refl _, fun _ => ⟨by omega, by omega, by omega, ?_⟩⟩
    have hsn' : s.n = q.n := by omega
    rw [hsn', hsk, ← hqk]
    exact hx0.2.2.2
  · by_cases hcap : q.n + r.n ≤ cap
    · -- in place
      obtain ⟨b, cs, elb, hba, hsg, hb, hcs, hps0, holds⟩ := hcapr (by omega)
      have hm1 : (q.n + r.n) * te.sz ≤ cap * te.sz := Nat.mul_le_mul_right _ hcap
      rw [Nat.add_mul] at hm1
      have hrun := run_append_put (P := P) (ty := ty) ht ht2 hte (ba := ba) (n := q.n) (cap := cap) (m := r.n) (dy := dy) ⟨ay, capy, hdy⟩ (news := news) hcap hba hb (hfn e.w rfl) (by omega) hnewsone
      rw [← hdx] at hrun
      refine ⟨_, _, hrun, ?_⟩
      have hsz : (spliced cs (0 + q.n * te.sz) news).size = cs.size := spliced_size (by omega)
      have hkeep : ∀ x, x < e.ps b → (spliced cs (0 + q.n * te.sz) news)[x]? = cs[x]? := fun x hx' => by omega
      have hm := hmono (e.wr b (spliced cs (0 + q.n * te.sz) news) (e.h.set i (.rw (g + 1) s)) 0)
      have hps : e.ps b ≤ 0 := by omega
      have hext := wr_ext hg ho rfl hsg hb hsz hh hi hm hkeep hps
      have hb2 : (e.wr b (spliced cs (0 + q.n * te.sz) news) (e.h.set i (.rw (g + 1) s)) 0).w.heap[b]? = some (.cells (spliced cs (0 + q.n * te.sz) news) elb (0, 0)) := setRow_heap _ _ _ _ _ _ hb
      have hgood := wr_good hg ho rfl hsg hb hsz hh hi hm hkeep hps (.inr ⟨b, _, elb, hsg, hb2, by rw [hsk, hsn, hsz, Nat.add_mul]; omega, by simp [Env.wr], hsfit, hscells, cells_ _ _ hext (fun x hx' => by
          rw [spliced_get (by omega), if_neg (by omega), holds x hx']) (fun x hx' => by
          rw [spliced_get (by omega), if_pos (by omega)]
          congr 1; omega)⟩) (Nat.zero_le _)
      refine ⟨_, hgood, rfl, rfl, .sl i (g + 1) 0 s.n _ (by rw [hba]; rfl) ?_, wr_upd hg ho rfl hsg hb hh hi, hext⟩
      show rwAt (e.h.set i (.rw (g + 1) s))[i]? (g + 1) _
      rw [hi]
      refine ⟨Nat.le_refl _, fun _ => ⟨by omega, by omega, by omega, .inr ⟨b, cap, 0, ?_, hsg, ?_, .inr ⟨by simp, ?_⟩⟩⟩⟩
      · rw [hba, show ((s.n : Int) - 0).toNat = q.n + r.n by omega]
      · omega
      · simp only [cellsSize]
        rw [hb2, hsk]
        show _ ≤ (spliced cs (0 + q.n * te.sz) news).size
        omega
    · -- in a new block
      have h48 : (q.n + r.n) * te.by_ ≤ 140737488355328 := by
        have h9 := hroom.1
        rw [← Int.natCast_add, ← Int.natCast_mul] at h9
        omega
      obtain ⟨rest, newCap, hnc, hrest, hrun⟩ := run_append_new (P := P) (ty := ty) ht ht2 hte (ba := ba) (n := q.n) (cap := cap) (m := r.n) (dy := dy) ⟨ay, capy, hdy⟩ (news := news) (olds := olds) (by omega) (by omega) h48 (hfn _ rfl) (by rw [← hdx]; exact hfo _ rfl)
      rw [← hdx] at hrun
      refine ⟨_, _, hrun, ?_⟩
      have hnc2 : (q.n + r.n + (newCap - (q.n + r.n))) * te.sz = newCap * te.sz := by congr 1; omega
      rw [Nat.add_mul, Nat.add_mul] at hnc2
      have hCs : (olds.toArray ++ news.toArray ++ rest).size = newCap * te.sz := by
        simp; omega
      have hw : (e.w.drew.alloc (.cells (olds.toArray ++ news.toArray ++ rest) el)).heap = e.w.heap.push (.cells (olds.toArray ++ news.toArray ++ rest) el) := rfl
      have hmn : ∀ o, e.h[i]? = some o → OMono e (e.fresh (e.w.drew.alloc (.cells (olds.toArray ++ news.toArray ++ rest) el)) i (e.h.set i (.rw (g + 1) s)) 0) i o (.rw (g + 1) s) := fun o h => by rw [ho] at h; cases h; exact hmono _
      have hext := fresh_ext (m := 0) hg hw hh hi hmn
      have hnewb : (e.w.drew.alloc (.cells (olds.toArray ++ news.toArray ++ rest) el)).heap[e.w.heap.size]? = some (.cells (olds.toArray ++ news.toArray ++ rest) el) := by
        rw [hw]; simp
      have hmul : (q.n + r.n) * te.sz ≤ newCap * te.sz := Nat.mul_le_mul_right _ hnc
      have hgood := fresh_good (m := 0) hg hw (Nat.zero_le _) hh hi hmn (.inr ⟨e.w.heap.size, _, el, by simp [Env.fresh], hnewb, by rw [hsk, hsn, hCs]; exact hmul, by simp [Env.fresh], hsfit, hscells, cells_ _ _ hext (fun x hx' => by
          rw [arr3_one _ _ _ _ (by omega)]) (fun x hx' => by
          rw [← hol, arr3_two _ _ _ _ (by omega)])⟩)
      refine ⟨_, hgood, rfl, rfl, .sl i (g + 1) 0 s.n _ rfl ?_, fresh_upd hg hw hh hi rfl rfl rfl, hext⟩
      show rwAt (e.h.set i (.rw (g + 1) s))[i]? (g + 1) _
      rw [hi]
      refine ⟨Nat.le_refl _, fun _ => ⟨by omega, by omega, by omega, .inr ⟨e.w.heap.size, newCap, 0, ?_, by simp [Env.fresh], by omega, .inr ⟨by simp, ?_⟩⟩⟩⟩
      · rw [show ((s.n : Int) - 0).toNat = q.n + r.n by omega]
      · simp only [cellsSize, Env.fresh]
        rw [hnewb, hsk]
        show _ ≤ (olds.toArray ++ news.toArray ++ rest).size
        omega
end
end Go.AL
