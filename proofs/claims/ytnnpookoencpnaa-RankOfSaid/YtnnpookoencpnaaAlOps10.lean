/-
  AL: the operations, tenth part: rows written in parts; copies; slices with no room.
-/
import Derived.Test.YtnnpookoencpnaaAlOps9
import Derived.Laws.CopyRow
set_option linter.unusedSectionVars false
set_option linter.unusedVariables false
set_option linter.unusedSimpArgs false
namespace Go.AL
open Go
theorem ObjOK.kept {e e' : Env} {i : Nat} {o : AObj} (hs : e'.sg i = e.sg i) (hw : e'.w = e.w) (hp : e'.ps = e.ps) (hv : ∀ v c, VR e v c → VR e' v c) (h : ObjOK e i o) : ObjOK e' i o := by
  cases o with
  | box vs =>
    obtain ⟨b, cs, el, h1, h2, h3, h4, h5⟩ := h
    exact ⟨b, cs, el, by rw [hs]; exact h1, by rw [hw]; exact h2, h3, by rw [hp]; exact h4, fun j hj => hv _ _ (h5 j hj)⟩
  | rw g q =>
    rcases h with ⟨h1, h2⟩ | ⟨b, cs, el, h1, h2, h3, h4, h5, h6, h7⟩
    · exact .inl ⟨h1, by rw [hs]; exact h2⟩
    · exact .inr ⟨b, cs, el, by rw [hs]; exact h1, by rw [hw]; exact h2, h3, by rw [hp]; exact h4, h5, h6, fun i j hi hj => ⟨hv _ _ (h7 i j hi hj).1, (h7 i j hi hj).2⟩⟩
  | tok n =>
    intro b hb
    rw [hs] at hb
    obtain ⟨cs, el, h1⟩ := h b hb
    exact ⟨cs, el, by rw [hw]; exact h1⟩
  | loop r =>
    obtain ⟨b, r2, h1, h2, h3, h4⟩ := h
    exact ⟨b, r2, by rw [hs]; exact h1, by rw [hw]; exact h2, h3, fun t => hv _ _ (h4 t)⟩
  | dead g => trivial
def Env.thaw (e : Env) : Env := ⟨e.w, fun i => if i = e.h.length then none else e.sg i, e.h ++ [.tok 0], e.ps⟩
theorem thaw_env {e : Env} (hg : Good e) : Good e.thaw ∧ Upd e e.thaw ∧ Ext e.h.length e e.thaw := by
  have old : ∀ i o, i < e.h.length → e.h[i]? = some o → e.thaw.h[i]? = some o := fun i o hi ho => by
    show (e.h ++ [AObj.tok 0])[i]? = some o
    rw [List.getElem?_append_left hi]; exact ho
  have sgo : ∀ i, i ≠ e.h.length → e.thaw.sg i = e.sg i := fun i hi => if_neg hi
  have look : ∀ i o, e.thaw.h[i]? = some o → (i = e.h.length ∧ o = .tok 0) ∨ (i < e.h.length ∧ e.h[i]? = some o) := fun i o ho => by
    have ho : (e.h ++ [AObj.tok 0])[i]? = some o := ho
    rcases Nat.lt_trichotomy i e.h.length with h | h | h
    · rw [List.getElem?_append_left h] at ho; exact .inr ⟨h, ho⟩
    · subst h; simp at ho; exact .inl ⟨rfl, ho.symm⟩
    · rw [List.getElem?_eq_none (by simp; omega)] at ho; cases ho
  have hext : Ext e.h.length e e.thaw := by
    refine ⟨fun i o hi ho => ⟨o, old i o hi ho, ?_⟩, fun _ => Nat.le_refl _, fun _ _ _ => rfl, fun _ => Nat.le_refl _⟩
    have hs := sgo i (by omega)
    cases o with
    | box vs => exact ⟨hs, rfl⟩
    | rw g q => exact ⟨Nat.le_refl _, fun _ => ⟨hs, rfl, rfl⟩⟩
    | tok n => exact ⟨Nat.le_refl _, fun _ => ⟨hs, fun _ _ => rfl⟩⟩
    | loop r => exact hs
    | dead g => exact Nat.le_refl _
  refine ⟨⟨fun i o ho => ?_, fun i j oi oj b hi hil hj hjl si sj => ?_, hg.ps⟩, ⟨rfl, rfl, rfl, Nat.le_refl _, fun _ _ _ => ⟨rfl, rfl⟩, fun b ⟨i, o, h1, h2, h3⟩ => .inl ?_⟩, hext⟩
  · rcases look i o ho with ⟨rfl, rfl⟩ | ⟨hi, ho'⟩
    · intro b hb
      simp [Env.thaw] at hb
    · exact ObjOK.kept (sgo i (by omega)) rfl rfl (fun v c h => h.mono (Nat.le_refl _) hext) (hg.obj i o ho')
  · rcases look i oi hi with ⟨rfl, rfl⟩ | ⟨hi1, hi2⟩
    · simp [Env.thaw] at si
    · rcases look j oj hj with ⟨rfl, rfl⟩ | ⟨hj1, hj2⟩
      · simp [Env.thaw] at sj
      · exact hg.inj i j oi oj b hi2 hil hj2 hjl ((sgo i (by omega)).symm.trans si) ((sgo j (by omega)).symm.trans sj)
  · rcases look i o h1 with ⟨rfl, rfl⟩ | ⟨hi1, hi2⟩
    · simp [Env.thaw] at h3
    · exact ⟨i, o, hi2, h2, (sgo i (by omega)).symm.trans h3⟩
def Env.thawR (e : Env) (q : LX) : Env := ⟨e.w, fun i => if i = e.h.length then none else e.sg i, e.h ++ [.rw 0 q], e.ps⟩
theorem thawR_env {e : Env} (hg : Good e) (q : LX) (hq : q.n = 0) : Good (e.thawR q) ∧ Upd e (e.thawR q) ∧ Ext e.h.length e (e.thawR q) := by
  have old : ∀ i o, i < e.h.length → e.h[i]? = some o → (e.thawR q).h[i]? = some o := fun i o hi ho => by
    show (e.h ++ [AObj.rw 0 q])[i]? = some o
    rw [List.getElem?_append_left hi]; exact ho
  have sgo : ∀ i, i ≠ e.h.length → (e.thawR q).sg i = e.sg i := fun i hi => if_neg hi
  have look : ∀ i o, (e.thawR q).h[i]? = some o → (i = e.h.length ∧ o = .rw 0 q) ∨ (i < e.h.length ∧ e.h[i]? = some o) := fun i o ho => by
    have ho : (e.h ++ [AObj.rw 0 q])[i]? = some o := ho
    rcases Nat.lt_trichotomy i e.h.length with h | h | h
    · rw [List.getElem?_append_left h] at ho; exact .inr ⟨h, ho⟩
    · subst h; simp at ho; exact .inl ⟨rfl, ho.symm⟩
    · rw [List.getElem?_eq_none (by simp; omega)] at ho; cases ho
  have hext : Ext e.h.length e (e.thawR q) := by
    refine ⟨fun i o hi ho => ⟨o, old i o hi ho, ?_⟩, fun _ => Nat.le_refl _, fun _ _ _ => rfl, fun _ => Nat.le_refl _⟩
    have hs := sgo i (by omega)
    cases o with
    | box vs => exact ⟨hs, rfl⟩
    | rw g q => exact ⟨Nat.le_refl _, fun _ => ⟨hs, rfl, rfl⟩⟩
    | tok n => exact ⟨Nat.le_refl _, fun _ => ⟨hs, fun _ _ => rfl⟩⟩
    | loop r => exact hs
    | dead g => exact Nat.le_refl _
  refine ⟨⟨fun i o ho => ?_, fun i j oi oj b hi hil hj hjl si sj => ?_, hg.ps⟩, ⟨rfl, rfl, rfl, Nat.le_refl _, fun _ _ _ => ⟨rfl, rfl⟩, fun b ⟨i, o, h1, h2, h3⟩ => .inl ?_⟩, hext⟩
  · rcases look i o ho with ⟨rfl, rfl⟩ | ⟨hi, ho'⟩
    · exact .inl ⟨hq, by simp [Env.thawR]⟩
    · exact ObjOK.kept (sgo i (by omega)) rfl rfl (fun v c h => h.mono (Nat.le_refl _) hext) (hg.obj i o ho')
  · rcases look i oi hi with ⟨rfl, rfl⟩ | ⟨hi1, hi2⟩
    · simp [Env.thawR] at si
    · rcases look j oj hj with ⟨rfl, rfl⟩ | ⟨hj1, hj2⟩
      · simp [Env.thawR] at sj
      · exact hg.inj i j oi oj b hi2 hil hj2 hjl ((sgo i (by omega)).symm.trans si) ((sgo j (by omega)).symm.trans sj)
  · rcases look i o h1 with ⟨rfl, rfl⟩ | ⟨hi1, hi2⟩
    · simp [Env.thawR] at h3
    · exact ⟨i, o, hi2, h2, (sgo i (by omega)).symm.trans h3⟩
theorem take_range_map {α : Type} (f : Nat → α) {m n : Nat} (h : m ≤ n) : ((List.range n).map f).take m = (List.range m).map f := by
  rw [← List.map_take, List.take_range, Nat.min_eq_left h]
theorem app_ne {p : Pr} {q r s : LX} (h : q.app p r = some s) (hq : q ≠ .nl) : s ≠ .nl := by
  unfold LX.app at h
  split at h
  · exact absurd rfl hq
  · cases h; exact hq
  · split at h
    · cases h; intro h; cases h
    · cases h
  · split at h
    · cases h; intro h; cases h
    · cases h
  · cases h
section
variable {e : Env} {P : Program} {T : Tab} (hT : TabOK P T) (hg : Good e) {p : Pr} (hp : DataOK p)
include hT hg hp
omit hT hp in
theorem src_ls {z : Nat} (hz : 0 < z) {r : LX} {cr : Cap} {dy : Value} (hy : VR e (.ls r cr) dy) (hkr : r.kOK z = true) : ∃ news, Src e (P := P) z r dy news := by
  have h := hy.ls_any
  have hsl : ∃ a cap, dy = .slice a r.n cap := by obtain ⟨a, cap, h, _⟩ := hy.ls_len; exact ⟨a, cap, h⟩
  have empty : r.n = 0 → (∀ w', (Builtin.firstCells z 0 dy).run P w' = .ok #[] w') → r.fit → ∃ news, Src e (P := P) z r dy news := fun h0 hf hfit =>
    ⟨[], by rw [h0]; simp, fun x hx => by omega, fun x j hx => by omega, hfit, hsl, fun m hm w' _ => by rw [show m = 0 by omega]; simpa using hf w'⟩
  generalize hv : AVal.ls r .any = v at h
  cases h <;> cases hv
  · rename_i hq hf hc
    exact empty hq (fun w' => by simp [Builtin.firstCells]) hf
  · rename_i a hq hf
    exact empty hq (fun w' => by simp [Builtin.firstCells, loadCells, loadCellsFrom]) hf
  · rename_i b off cap cv hcap hf hkk hp hc h1 hv
    rcases kOK_k hkr with h0 | h0
    · exact empty (by rw [LX.n, h0]; rfl) (fun w' => by simp [Builtin.firstCells, loadCells, loadCellsFrom]) hf
    · subst h0
      refine ⟨(List.range (r.n * r.k)).map fun x => cv (x / r.k) (x % r.k), by simp, hkk, fun i j hi hj => ?_, hf, hsl, fun m hm w' hw => ?_⟩
      · rw [getD_flat _ _ _ _ _ hi hj]
        exact ⟨.pure _ _ (hv i j hi hj), h1 i j hi hj⟩
      · have hle : m * r.k ≤ r.n * r.k := Nat.mul_le_mul_right _ hm
        rw [take_range_map _ hle]
        simp only [Builtin.firstCells]
        refine run_loadCells w' _ _ _ fun x hx => ?_
        rw [addr_add]
        have hi : x / r.k < r.n := Nat.div_lt_of_lt_mul (by rw [Nat.mul_comm]; omega)
        have hj : x % r.k < r.k := Nat.mod_lt _ hz
        have := hc _ _ hi hj
        rw [show off + x / r.k * r.k + x % r.k = off + x by have := Nat.div_add_mod x r.k; rw [Nat.mul_comm] at this; omega] at this
        rw [← this]
        simp only [World.cell?, hw]
theorem src_row {z : Nat} (hz : 0 < z) {i g : Nat} {q : LX} {lo hi : Int} {dy : Value} (ho : e.h[i]? = some (.rw g q)) (hy : VR e (.sl i g lo hi) dy) (hkr : (q.sub p lo hi).kOK z = true) : ∃ news, Src e (P := P) z (q.sub p lo hi) dy news := by
  obtain ⟨a1, a2, a3, a4⟩ := VR.sl_inv hT hg hp hy ho
  obtain ⟨s1, s2, s3, s4⟩ := sub_real hp q lo hi
  have hn : (q.sub p lo hi).n = (hi - lo).toNat := by rw [LX.n, s1, rSub_length _ _ _ a1 a2 a3]
  have hob := hg.obj i _ ho
  have qfit : q.fit := by
    rcases hob with ⟨h0, _⟩ | ⟨_, _, _, _, _, _, _, h5, _⟩
    · cases q with
      | gl s xs =>
        intro x hx'
        simp [LX.n, LX.toL] at h0
        rw [h0] at hx'; simp at hx'
      | _ => trivial
    · exact h5
  have empty : (q.sub p lo hi).n = 0 → (∃ a cap, dy = .slice a (q.sub p lo hi).n cap) → ∃ news, Src e (P := P) z (q.sub p lo hi) dy news := fun h0 hsl =>
    ⟨[], by rw [h0]; simp, fun x hx => by omega, fun x j hx => by omega, s2 qfit, hsl, fun m hm w' _ => by
      obtain ⟨a, cap, rfl⟩ := hsl
      rw [show m = 0 by omega]
      cases a <;> simp [Builtin.firstCells, loadCells, loadCellsFrom]⟩
  rcases a4 with ⟨rfl, rfl, rfl, _⟩ | ⟨b, cap, off, rfl, hsg, hcap, r⟩
  · exact empty (by rw [hn]; rfl) ⟨none, 0, by rw [hn]; rfl⟩
  · have hsl : ∃ a c, Value.slice (some ⟨b, off, none⟩) (hi - lo).toNat cap = .slice a (q.sub p lo hi).n c := ⟨_, _, by rw [hn]⟩
    rcases Nat.eq_zero_or_pos (hi - lo).toNat with h0 | h0
    · exact empty (by rw [hn, h0]) hsl
    · rcases hob with ⟨h1, hno⟩ | ⟨b', cs, el, h1, h2, h3, h4, h5, h6, h7⟩
      · rw [hno] at hsg; cases hsg
      · obtain rfl : b = b' := by rw [hsg] at h1; exact Option.some.inj h1
        obtain ⟨r1, r2⟩ := r.resolve_left (by omega)
        have hk : q.k = z := by
          rcases kOK_k hkr with h | h
          · have : (q.sub p lo hi).n = 0 := by rw [LX.n, h]; rfl
            omega
          · rwa [s3] at h
        subst hk
        have hat : ∀ x, x < (hi - lo).toNat → (q.sub p lo hi).at_ x = q.at_ (lo.toNat + x) := fun x hx => by
          rw [LX.at_, s1, rSub_get _ _ _ _ _ (by omega)]
        have hlen : (lo.toNat + (hi - lo).toNat) * q.k ≤ q.n * q.k := Nat.mul_le_mul_right _ (by omega)
        rw [Nat.add_mul] at hlen
        refine ⟨(List.range ((hi - lo).toNat * q.k)).map fun x => cs.getD (lo.toNat * q.k + x) undef, by rw [hn]; simp, fun x hx => ?_, fun x j hx hj => ?_, s2 h5, hsl, fun m hm w' hw' => ?_⟩
        · rw [hn] at hx
          rw [hat x hx]; exact h6 _ (by omega)
        · rw [hn] at hx
          have hlt : (x + 1) * q.k ≤ (hi - lo).toNat * q.k := Nat.mul_le_mul_right _ hx
          rw [Nat.add_mul] at hlt
          have hlt2 : x * q.k + j < (hi - lo).toNat * q.k := by omega
          rw [hat x hx]
          simp only [List.getD, List.getElem?_map, List.getElem?_range hlt2, Option.map_some, Option.getD_some]
          have := h7 (lo.toNat + x) j (by omega) hj
          rw [Nat.add_mul, Nat.add_assoc] at this
          exact this
        · rw [hn] at hm
          have hle : m * q.k ≤ (hi - lo).toNat * q.k := Nat.mul_le_mul_right _ hm
          rw [take_range_map _ hle]
          simp only [Builtin.firstCells]
          refine run_loadCells w' _ _ _ fun x hx' => ?_
          rw [addr_add, r1]
          have hlt : lo.toNat * q.k + x < cs.size := by omega
          simp [World.cell?, hw', h2, hlt]
theorem src_ok {z : Nat} (hz : 0 < z) {y : AVal} {r : LX} {dy : Value} (hy : VR e y dy) (hr : asR p y e.h = some r) (hkr : r.kOK z = true) : ∃ news, Src e (P := P) z r dy news := by
  unfold asR at hr
  split at hr
  · cases hr; exact src_ls hg hz hy hkr
  · rename_i j g lo hi
    split at hr
    · rename_i g' q ho
      split at hr
      · rename_i hb
        have := Nat.eq_of_beq_eq_true hb
        subst this
        cases hr
        exact src_row hT hg hp hz ho hy hkr
      · cases hr
    · cases hr
  · cases hr
/-- A list that may be copied into one. -/
theorem lst_ok {z : Nat} (hz : 0 < z) {y : AVal} {r : LX} {dy : Value} (hy : VR e y dy) (hr : asL p y e.h = some r) (hkr : r.kOK z = true) :
    (∃ ay capy, dy = .slice ay r.n capy) ∧ r.fit ∧ ∃ news, FL e.w e.ps r z news ∧ Src e (P := P) z r dy news ∧ ∀ w', w'.heap = e.w.heap → (Builtin.firstCells z r.n dy).run P w' = .ok news.toArray w' := by
  have take : ∀ {news : List Value}, Src e (P := P) z r dy news → ∀ w', w'.heap = e.w.heap → (Builtin.firstCells z r.n dy).run P w' = .ok news.toArray w' := fun hS w' hw => by
    have := hS.first r.n (Nat.le_refl _) w' hw
    rwa [← hS.len, List.take_length] at this
  unfold asL at hr
  split at hr
  · cases hr
    obtain ⟨ay, capy, hdy, _, _⟩ := hy.ls_len
    obtain ⟨news, hFn, hfn⟩ := first_ok (P := P) hz hy.ls_any hkr
    obtain ⟨news2, hS⟩ := src_ls hg (P := P) hz hy hkr
    have e1 : news2 = news := by
      have h1 := take hS e.w rfl
      rw [hfn e.w rfl] at h1
      simp only [Result.ok.injEq, and_true] at h1
      have := congrArg Array.toList h1
      simpa using this.symm
    subst e1
    exact ⟨⟨ay, capy, hdy⟩, hy.ls_any.ls_fit, news2, hFn, hS, hfn⟩
  · rename_i j g ia ib
    split at hr
    · rename_i g' q ho
      split at hr
      · rename_i hb
        have := Nat.eq_of_beq_eq_true hb
        subst this
        split at hr
        · rename_i k l
          cases hr
          obtain ⟨news, hS⟩ := src_row hT hg hp (P := P) hz ho hy hkr
          refine ⟨hS.sl, hS.fit, news, ⟨hS.len, hS.cl, fun i j hi hj => ?_⟩, hS, take hS⟩
          have h1 := hS.rel i j hi hj
          refine ⟨?_, h1.2⟩
          have hj0 : j = 0 := by
            have h2 := hS.cl i hi
            rw [← h2] at hj
            have h3 : ((LX.il k l).sub p ia ib).at_ i = .int k ((rSub l ia ib).getD i 0) := by
              have hi2 : i < (rSub l ia ib).length := by simpa [LX.n, LX.toL, LX.sub, hp.sbI] using hi
              simp [LX.at_, LX.toL, LX.sub, hp.sbI, List.getD, hi2]
            rw [h3] at hj
            simpa [AVal.cells] using hj
          subst hj0
          have h3 : ((LX.il k l).sub p ia ib).at_ i = .int k ((rSub l ia ib).getD i 0) := by
            have hi2 : i < (rSub l ia ib).length := by simpa [LX.n, LX.toL, LX.sub, hp.sbI] using hi
            simp [LX.at_, LX.toL, LX.sub, hp.sbI, List.getD, hi2]
          show PVR e.w e.ps ((((LX.il k l).sub p ia ib).at_ i).cells.getD 0 AVal.junk) _
          rw [h3] at h1 ⊢
          have h4 := h1.1
          simp only [AVal.cells, List.getD_cons_zero] at h4 ⊢
          rw [h4.int_inv]
          exact .int _ _
        · cases hr
      · cases hr
    · cases hr
  · cases hr
omit hT hg in
theorem splice_real {q r q' : LX} {a m : Int} (h : q.splice p a r m = some q') (h0 : 0 ≤ a) (hm : 0 ≤ m) (hmr : m ≤ r.n) (ham : a + m ≤ q.n) (hq : q ≠ .nl) :
    q'.n = q.n ∧ q'.k = q.k ∧ (q.fit → r.fit → q'.fit) ∧ ∀ x, x < q.n → q'.at_ x = if a.toNat ≤ x ∧ x < a.toNat + m.toNat then r.at_ (x - a.toNat) else q.at_ x := by
  unfold LX.splice at h
  split at h
  · rename_i s hs
    have had : p.ad a m = a + m := by rw [hp.ad]
    rw [had, len_real hp] at h
    obtain ⟨b1, b2, b3, b4⟩ := app_real hp hs
    obtain ⟨c1, c2, c3, c4⟩ := app_real hp h
    obtain ⟨d1, d2, d3, _⟩ := sub_real hp q 0 a
    obtain ⟨e1, e2, e3, _⟩ := sub_real hp r 0 m
    obtain ⟨f1, f2, f3, _⟩ := sub_real hp q (a + m) (q.n : Int)
    have hsub : q.sub p 0 a ≠ .nl := by cases q <;> simp [LX.sub] at hq ⊢
    have hsk := b4 hsub
    have hsn : s ≠ .nl := app_ne hs hsub
    have l1 := rSub_length q.toL 0 a (by omega) h0 (by show a ≤ (q.n : Int); omega)
    have l2 := rSub_length r.toL 0 m (by omega) hm (by show m ≤ (r.n : Int); omega)
    have l3 := rSub_length q.toL (a + m) q.n (by omega) (by omega) (by show (q.n : Int) ≤ (q.n : Int); omega)
    have hn : q'.n = q.n := by
      rw [LX.n, c1, b1, d1, e1, f1, List.length_append, List.length_append, l1, l2, l3]; omega
    refine ⟨hn, by rw [c4 hsn, hsk, d3], fun g1 g2 => c2 (b2 (d2 g1) (e2 g2)) (f2 g1), fun x hx => ?_⟩
    rw [LX.at_, c1, b1, d1, e1, f1]
    simp only [List.getD]
    by_cases hx1 : x < a.toNat
    · rw [if_neg (by omega), List.getElem?_append_left (by rw [List.length_append, l1, l2]; omega), List.getElem?_append_left (by rw [l1]; omega)]
      have := rSub_get q.toL 0 a AVal.junk x (by omega)
      simpa [List.getD, LX.at_] using this
    · by_cases hx2 : x < a.toNat + m.toNat
      · rw [if_pos (by omega), List.getElem?_append_left (by rw [List.length_append, l1, l2]; omega), List.getElem?_append_right (by rw [l1]; omega), l1]
        have := rSub_get r.toL 0 m AVal.junk (x - (a - 0).toNat) (by omega)
        simp only [List.getD] at this
        rw [this]
        show _ = (r.toL[x - a.toNat]?).getD AVal.junk
        congr 2; omega
      · rw [if_neg (by omega), List.getElem?_append_right (by rw [List.length_append, l1, l2]; omega)]
        have := rSub_get q.toL (a + m) q.n AVal.junk (x - (rSub q.toL 0 a ++ rSub r.toL 0 m).length) (by rw [List.length_append, l1, l2]; omega)
        simp only [List.getD] at this
        rw [this]
        show _ = (q.toL[x]?).getD AVal.junk
        congr 2
        rw [List.length_append, l1, l2]; omega
  · cases h
/-- A row told anew, its cells not written. -/
theorem row_idle {i g : Nat} {q q' : LX} (ho : e.h[i]? = some (.rw g q)) (hn : q'.n = q.n) (hk : q'.k = q.k) (hf : q.fit → q'.fit) (hat : ∀ x, x < q.n → q'.at_ x = q.at_ x) :
    ∃ e', Good e' ∧ e'.h = e.h.set i (.rw g q') ∧ e'.w = e.w ∧ Upd e e' ∧ Ext e.h.length e e' ∧ e'.sg = e.sg := by
  have hil : i < e.h.length := (List.getElem?_eq_some_iff.1 ho).1
  have hh : ∀ j, j ≠ i → (e.h.set i (.rw g q'))[j]? = e.h[j]? := fun j hj => List.getElem?_set_ne (Ne.symm hj)
  have hi : (e.h.set i (.rw g q'))[i]? = some (.rw g q') := by rw [List.getElem?_set, if_pos rfl, if_pos hil]
  obtain ⟨g1, g2, g3⟩ := gh_good hg (sg' := e.sg) (fun j _ => rfl) hh hi (fun o h => by rw [ho] at h; cases h; exact ⟨Nat.le_refl _, fun _ => ⟨rfl, hn, hk⟩⟩) (fun b _ hs => ⟨_, ho, rfl, hs⟩)
  refine ⟨_, g3 ?_, rfl, rfl, g2, g1, rfl⟩
  rcases hg.obj i _ ho with ⟨h0, hno⟩ | ⟨b, cs, el', k1, k2, k3, k4, k5, k6, k7⟩
  · exact .inl ⟨by omega, hno⟩
  · refine .inr ⟨b, cs, el', k1, k2, by rw [hn, hk]; exact k3, k4, hf k5, fun x hx => by rw [hn] at hx; rw [hat x hx, hk]; exact k6 x hx, fun x j hx hj => ?_⟩
    rw [hn] at hx
    rw [hk] at hj ⊢
    rw [hat x hx]
    exact ⟨(k7 x j hx hj).1.mono (Nat.le_refl _) g1, (k7 x j hx hj).2⟩
/-- Some elements of a row written. -/
theorem row_put {i g b : Nat} {q q' : LX} {cs : Array Value} {el : TypeId} (ho : e.h[i]? = some (.rw g q)) (hsg : e.sg i = some b) (hb : e.w.heap[b]? = some (.cells cs el (0, 0))) (a m : Nat) {r : LX} {news : List Value}
    (hnl : news.length = m * q.k) (ham : a + m ≤ q.n) (hmr : m ≤ r.n) (hn : q'.n = q.n) (hk : q'.k = q.k) (hf : q.fit → q'.fit)
    (hcl : ∀ x, x < r.n → (r.at_ x).cells.length = q.k) (hrel : ∀ x j, x < r.n → j < q.k → VR e ((r.at_ x).cells.getD j .junk) (news.getD (x * q.k + j) undef) ∧ (news.getD (x * q.k + j) undef).oneCell' = true ∨ m ≤ x)
    (hat : ∀ x, x < q.n → q'.at_ x = if a ≤ x ∧ x < a + m then r.at_ (x - a) else q.at_ x) :
    ∃ e', Good e' ∧ e'.h = e.h.set i (.rw g q') ∧ e'.w = e.w.setRow b (spliced cs (a * q.k) news) ∧ Upd e e' ∧ Ext e.h.length e e' ∧ e'.sg = e.sg ∧ a * q.k + news.length ≤ cs.size := by
  have hil : i < e.h.length := (List.getElem?_eq_some_iff.1 ho).1
  have hh : ∀ j, j ≠ i → (e.h.set i (.rw g q'))[j]? = e.h[j]? := fun j hj => List.getElem?_set_ne (Ne.symm hj)
  have hi : (e.h.set i (.rw g q'))[i]? = some (.rw g q') := by rw [List.getElem?_set, if_pos rfl, if_pos hil]
  rcases hg.obj i _ ho with ⟨_, hno⟩ | ⟨b', cs', el', k1, k2, k3, k4, k5, k6, k7⟩
  · rw [hno] at hsg; cases hsg
  obtain rfl : b = b' := by rw [hsg] at k1; exact Option.some.inj k1
  rw [hb] at k2
  obtain ⟨rfl, rfl⟩ : cs = cs' ∧ el = el' := by cases k2; exact ⟨rfl, rfl⟩
  have hmul : (a + m) * q.k ≤ q.n * q.k := Nat.mul_le_mul_right _ ham
  rw [Nat.add_mul] at hmul
  have hfit : a * q.k + news.length ≤ cs.size := by omega
  have hsz : (spliced cs (a * q.k) news).size = cs.size := spliced_size hfit
  have hkeep : ∀ x, x < e.ps b → (spliced cs (a * q.k) news)[x]? = cs[x]? := fun x hx' => by omega
  have hm : OMono e (e.wr b (spliced cs (a * q.k) news) (e.h.set i (.rw g q')) 0) i (.rw g q) (.rw g q') := ⟨Nat.le_refl _, fun _ => ⟨rfl, hn, hk⟩⟩
  have hps : e.ps b ≤ 0 := by omega
  have hext := wr_ext hg ho rfl hsg hb hsz hh hi hm hkeep hps
  have hb2 : (e.wr b (spliced cs (a * q.k) news) (e.h.set i (.rw g q')) 0).w.heap[b]? = some (.cells (spliced cs (a * q.k) news) el (0, 0)) := setRow_heap _ _ _ _ _ _ hb
  refine ⟨_, wr_good hg ho rfl hsg hb hsz hh hi hm hkeep hps (.inr ⟨b, _, el, hsg, hb2, by rw [hn, hk, hsz]; exact k3, by simp [Env.wr], hf k5, fun x hx => ?_, fun x j hx hj => ?_⟩) (Nat.zero_le _), rfl, rfl, wr_upd hg ho rfl hsg hb hh hi, hext, rfl, hfit⟩
  · rw [hn] at hx
    rw [hat x hx, hk]
    split
    · exact hcl _ (by omega)
    · exact k6 x hx
  · rw [hn] at hx
    rw [hk] at hj ⊢
    have hlt : (x + 1) * q.k ≤ q.n * q.k := Nat.mul_le_mul_right _ hx
    rw [Nat.add_mul] at hlt
    rw [hat x hx, spliced_get hfit]
    by_cases hin : a ≤ x ∧ x < a + m
    · have h1 : (x - a + 1) * q.k ≤ m * q.k := Nat.mul_le_mul_right _ (by omega)
      rw [Nat.add_mul] at h1
      have h2 : (a + (x - a)) * q.k = x * q.k := by congr 1; omega
      rw [Nat.add_mul] at h2
      rw [if_pos hin, if_pos (by omega), show x * q.k + j - a * q.k = (x - a) * q.k + j by omega]
      rcases hrel (x - a) j (by omega) hj with h3 | h3
      · exact ⟨h3.1.mono (Nat.le_refl _) hext, h3.2⟩
      · omega
    · rw [if_neg hin, if_neg (fun h => hin ?_)]
      · exact ⟨(k7 x j hx hj).1.mono (Nat.le_refl _) hext, (k7 x j hx hj).2⟩
      · constructor
        · refine Nat.le_of_not_lt fun hlt2 => ?_
          have h1 : (x + 1) * q.k ≤ a * q.k := Nat.mul_le_mul_right _ hlt2
          rw [Nat.add_mul] at h1
          omega
        · refine Nat.lt_of_not_le fun hle2 => ?_
          have h1 : (a + m) * q.k ≤ x * q.k := Nat.mul_le_mul_right _ hle2
          rw [Nat.add_mul] at h1
          omega
omit hp hT in
/-- A full slice: no room behind. -/
theorem slice3_step {q : LX} {dx : Value} (hp' : PVR e.w e.ps (.ls q .any) dx) (hend : ∃ a n, dx = .slice a n n) : Step e (.ls q (.tok e.h.length 0)) (e.h ++ [.tok 0]) dx e.w := by
  obtain ⟨g1, u1, x1⟩ := thaw_env hg
  refine ⟨_, g1, rfl, rfl, .tok q e.h.length 0 dx hp' ?_, u1, x1⟩
  show tokAt (e.h ++ [AObj.tok 0])[e.h.length]? 0 _
  rw [List.getElem?_append_right (Nat.le_refl _)]
  simp only [Nat.sub_self, List.getElem?_cons_zero]
  refine ⟨Nat.le_refl _, fun _ => ?_⟩
  obtain ⟨a, n, rfl⟩ := hend
  cases a with
  | none => trivial
  | some a => exact .inl rfl
theorem aSlice3_ok {t : Nat} {x : AVal} {c : Value} {lo : Option AVal} {hi m : AVal} {clo : Option Value} {chi cm : Value} {same : Bool} (hx : VR e x c) (hlo : OptR e lo clo) (hhi : VR e hi chi) (hm : VR e m cm) (hsame : same = true → chi = cm ∨ ∃ k k' n, chi = .int k n ∧ cm = .int k' n) :
    ARok e (aSlice3 p T t x lo hi m same e.h) ((Instr.sliceAt t c clo (some chi) (some cm)).run P e.w) := by
  unfold aSlice3
  split
  · split
    · rename_i te hte
      obtain ⟨el, hu, hto, _⟩ := slElem_spec hT hg hp hte
      split
      · rename_i a ha
        have hlo' := opt0_spec hT hg hp hlo ha
        split
        · rename_i k b
          have hb := hhi.int_inv
          split
          · rename_i k2 d
            have hd := hm.int_inv
            have hbd : b = d := by
              rcases hsame rfl with h | ⟨_, _, n, h1, h2⟩
              · rw [hb, hd] at h; cases h; rfl
              · rw [hb] at h1; rw [hd] at h2; cases h1; cases h2; rfl
            subst hbd
            subst hb
            subst hd
            have hlo2 : clo = none ∧ a = 0 ∨ ∃ k, clo = some (.int k a) := by
              rcases hlo' with ⟨h, h', _⟩ | h
              · exact .inl ⟨h, h'⟩
              · exact .inr h
            split
            · rename_i q cp
              cases hko : q.kOK te.sz
              · trivial
              intro hq
              rw [len_real hp] at hq
              obtain ⟨q0, q1, q2⟩ := hq
              obtain ⟨ad, cap, hc, _, _⟩ := hx.ls_len
              have hncap : q.n ≤ cap := by
                have h := hx.ls_any
                rw [hc] at h
                generalize hd : (Value.slice ad q.n cap) = d at h
                cases h with
                | lsnil _ _ h0 => rw [h0]; exact Nat.zero_le _
                | lse _ _ h0 => rw [h0]; exact Nat.zero_le _
                | ls _ b2 off cp2 cv hcap => injection hd with e1 e2 e3; rw [e3]; exact hcap
              have hr := run_slice hT hg hp hu hto ad q.n cap clo (some (.int k b)) (some (.int k2 b)) a b b hlo2 (.inr ⟨k, rfl⟩) (.inr ⟨k2, k, rfl, rfl⟩) q0 q1 (Int.le_refl _) (by omega) e.w
              have hsub := PVR.sub hT hg hp (hx.ls_any) hc hko q0 q1 q2 (m := b) (Int.le_refl _) (by omega)
              rw [← hc] at hr
              exact ⟨_, _, hr, slice3_step hg hsub ⟨_, _, rfl⟩⟩
            · rename_i i g l u
              split
              · rename_i g' q hob
                cases hgg : Nat.beq g g'
                · trivial
                obtain rfl := Nat.eq_of_beq_eq_true hgg
                cases hko : q.kOK te.sz
                · trivial
                intro hq
                simp only [hp.sbt] at hq
                obtain ⟨q0, q1, q2⟩ := hq
                subst q1
                obtain ⟨a1, a2, a3, a4⟩ := VR.sl_inv hT hg hp hx hob
                have hsl : ∃ ad n cap : _, c = .slice ad n cap ∧ (a : Int) ≤ cap ∧ (a : Int) ≤ n := by
                  rcases a4 with ⟨rfl, rfl, rfl, _⟩ | ⟨bb, cap, off, rfl, _, hcap, _⟩
                  · exact ⟨none, 0, 0, rfl, by omega, by omega⟩
                  · exact ⟨_, _, cap, rfl, by omega, by omega⟩
                obtain ⟨ad, n, cap, rfl, hcap, hn⟩ := hsl
                have hr := run_slice hT hg hp hu hto ad n cap clo (some (.int k a)) (some (.int k2 a)) a a a hlo2 (.inr ⟨k, rfl⟩) (.inr ⟨k2, k, rfl, rfl⟩) q0 (Int.le_refl _) (Int.le_refl _) hcap e.w
                rw [if_pos rfl, Nat.sub_self] at hr
                have h0 : q.nil0.n = 0 := by cases q <;> rfl
                have hf : q.nil0.fit := by
                  cases q with
                  | gl s xs => intro x hx; simp at hx
                  | _ => trivial
                refine ⟨_, _, hr, ?_⟩
                have hpv : PVR e.w e.ps (.ls q.nil0 .any) (.slice ad 0 0) := by
                  cases ad with
                  | none => exact .lsnil _ _ h0 hf (.inl rfl)
                  | some ad => exact .lse _ _ h0 hf
                have hk : q.nil0.k = q.k := by cases q <;> rfl
                exact slice3_step hg hpv ⟨ad, 0, rfl⟩
              · trivial
            · trivial
          · trivial
        · trivial
      · trivial
    · trivial
  · split
    · rename_i i g l u
      split
      · rename_i te hte
        obtain ⟨el, hu, hto, _⟩ := slElem_spec hT hg hp hte
        split
        · rename_i a ha
          have hlo' := opt0_spec hT hg hp hlo ha
          have hlo2 : clo = none ∧ a = 0 ∨ ∃ k, clo = some (.int k a) := by
            rcases hlo' with ⟨h, h', _⟩ | h
            · exact .inl ⟨h, h'⟩
            · exact .inr h
          split
          · rename_i k b
            have hb := hhi.int_inv
            split
            · rename_i k2 d
              have hd := hm.int_inv
              subst hb
              subst hd
              split
              · rename_i g' q hob
                cases hgg : Nat.beq g g'
                · trivial
                obtain rfl := Nat.eq_of_beq_eq_true hgg
                intro hq
                simp only [hp.sbt] at hq
                obtain ⟨q0, q1, q2, q3⟩ := hq
                obtain ⟨a1, a2, a3, a4⟩ := VR.sl_inv hT hg hp hx hob
                have hsl : ∃ ad n cap : _, c = .slice ad n cap ∧ d ≤ cap := by
                  rcases a4 with ⟨rfl, rfl, rfl, _⟩ | ⟨bb, cap, off, rfl, _, hcap, _⟩
                  · exact ⟨none, 0, 0, rfl, by omega⟩
                  · exact ⟨_, _, cap, rfl, by omega⟩
                obtain ⟨ad, n, cap, rfl, hcap⟩ := hsl
                have hr := run_slice hT hg hp hu hto ad n cap clo (some (.int k b)) (some (.int k2 d)) a b d hlo2 (.inr ⟨k, rfl⟩) (.inr ⟨k2, k, rfl, rfl⟩) q0 q1 q2 hcap e.w
                exact ⟨_, _, hr, .same hg (.pure _ _ (.junk _))⟩
              · trivial
            · trivial
          · trivial
        · trivial
      · trivial
    · exact aSlice_ok hT hg hp hx hlo (.inr ⟨_, _, rfl, rfl, hhi⟩) (.inr ⟨_, _, rfl, rfl, hm⟩)
omit hg hp hT in
theorem run_copy_idle {dT sT ty elem : TypeId} {te : TI} (hu : P.underlying dT = some (.slice elem)) (hte : TIOK P elem te) (w : World) (ba sa : Option Addr) (dLen dCap sLen sCap : Nat) (hn : Nat.min sLen dLen = 0)
    (hf : (Builtin.firstCells te.sz 0 (.slice sa sLen sCap)).run P w = .ok #[] w) : (Builtin.copy_ #[dT, sT] ty #[.slice ba dLen dCap, .slice sa sLen sCap]).run P w = .ok (goInt 0) w := by
  cases ba <;> simp [Builtin.copy_, run_underlying hu, Builtin.lenOf, hte.run_sizeOf, hn, hf, storeCells]
omit hg hp hT in
theorem run_copy_put {dT sT ty elem : TypeId} {te : TI} (hu : P.underlying dT = some (.slice elem)) (hte : TIOK P elem te) (w : World) (b o : Nat) (sa : Option Addr) (dLen dCap sLen sCap n : Nat) (hn : Nat.min sLen dLen = n) {news : List Value}
    (hf : (Builtin.firstCells te.sz n (.slice sa sLen sCap)).run P w = .ok news.toArray w) {cur : Array Value} {el : TypeId} (hb : w.heap[b]? = some (.cells cur el (0, 0))) (hfit : o + news.length ≤ cur.size) (h1 : ∀ v ∈ news, v.oneCell' = true) :
    (Builtin.copy_ #[dT, sT] ty #[.slice (some ⟨b, o, none⟩) dLen dCap, .slice sa sLen sCap]).run P w = .ok (goInt n) (w.setRow b (spliced cur o news)) := by
  have hst := run_storeCells_at P b o el news 0 cur w hb (by simpa using hfit) h1
  simp only [Nat.add_zero] at hst
  simp [Builtin.copy_, run_underlying hu, Builtin.lenOf, hte.run_sizeOf, hn, hf, hst, spliced]
theorem Src.take_one {z : Nat} (hz : 0 < z) {r : LX} {dy : Value} {news : List Value} (h : Src e (P := P) z r dy news) (m : Nat) : ∀ v ∈ news.take (m * z), v.oneCell' = true := fun v hv => by
  obtain ⟨x, hx', rfl⟩ := List.mem_iff_getElem.1 (List.mem_of_mem_take hv)
  have hx2 : x < r.n * z := by rw [← h.len]; exact hx'
  have h1 : x / z < r.n := Nat.div_lt_of_lt_mul (by rw [Nat.mul_comm]; exact hx2)
  have := (h.rel (x / z) (x % z) h1 (Nat.mod_lt _ hz)).2
  rw [show x / z * z + x % z = x by have := Nat.div_add_mod x z; rw [Nat.mul_comm] at this; exact this] at this
  simpa [List.getD, hx'] using this
theorem Src.take_rel {z : Nat} {r : LX} {dy : Value} {news : List Value} (h : Src e (P := P) z r dy news) (m : Nat) : ∀ x j, x < r.n → j < z →
    VR e ((r.at_ x).cells.getD j .junk) ((news.take (m * z)).getD (x * z + j) undef) ∧ ((news.take (m * z)).getD (x * z + j) undef).oneCell' = true ∨ m ≤ x := fun x j hx hj => by
  by_cases hm : m ≤ x
  · exact .inr hm
  · left
    have hlt : (x + 1) * z ≤ m * z := Nat.mul_le_mul_right _ (by omega)
    rw [Nat.add_mul] at hlt
    have e1 : (news.take (m * z)).getD (x * z + j) undef = news.getD (x * z + j) undef := by
      simp only [List.getD]; rw [List.getElem?_take, if_pos (by omega)]
    rw [e1]
    exact h.rel x j hx hj
theorem aCopy_ok {t t2 : Nat} (ty : TypeId) {x y : AVal} {dx dy : Value} (hx : VR e x dx) (hy : VR e y dy) : ARok e (aCopy p T t x y e.h) ((Builtin.copy_ #[t, t2] ty #[dx, dy]).run P e.w) := by
  unfold aCopy
  split
  · rename_i te hte
    obtain ⟨el, hu, hto, _⟩ := slElem_spec hT hg hp hte
    cases hz : Nat.blt 0 te.sz
    · trivial
    have hz : 0 < te.sz := by simpa using hz
    simp only
    split
    · rename_i i g lo hi
      split
      · rename_i g' q ho
        cases hgg : Nat.beq g g'
        · trivial
        obtain rfl := Nat.eq_of_beq_eq_true hgg
        cases hqk : Nat.beq q.k te.sz
        · trivial
        have hqk := Nat.eq_of_beq_eq_true hqk
        simp only
        split
        · rename_i r hr
          cases hkr : r.kOK te.sz
          · trivial
          obtain ⟨news, hS⟩ := src_ok hT hg hp (P := P) hz hy hr hkr
          simp only
          split
          · rename_i q' hq'
            obtain ⟨a1, a2, a3, a4⟩ := VR.sl_inv hT hg hp hx ho
            obtain ⟨sa, scap, rfl⟩ := hS.sl
            obtain ⟨n, hn⟩ : ∃ n : Nat, n = Nat.min r.n (hi - lo).toNat := ⟨_, rfl⟩
            have hmn : p.mn (p.sbt hi lo) (r.len p) = (n : Int) := by
              rw [hp.mn, hp.sbt, len_real hp, hn]
              simp only []
              rcases Nat.le_total r.n (hi - lo).toNat with h | h
              · rw [show Nat.min r.n (hi - lo).toNat = r.n from Nat.min_eq_left h]; split <;> omega
              · rw [show Nat.min r.n (hi - lo).toNat = (hi - lo).toNat from Nat.min_eq_right h]; split <;> omega
            have hnr : n ≤ r.n := by rw [hn]; exact Nat.min_le_left _ _
            have hnd : n ≤ (hi - lo).toNat := by rw [hn]; exact Nat.min_le_right _ _
            have hqnl : q ≠ .nl := fun h => by subst h; simp [LX.k] at hqk; omega
            rw [hmn] at hq' ⊢
            obtain ⟨s1, s2, s3, s4⟩ := splice_real hp hq' a1 (by omega) (by omega) (by omega) hqnl
            have hfn := hS.first n hnr e.w rfl
            rcases Nat.eq_zero_or_pos n with h0 | h0
            · -- nothing goes over
              have hdx : ∃ ba c, dx = .slice ba (hi - lo).toNat c := by
                rcases a4 with ⟨rfl, rfl, rfl, _⟩ | ⟨b, cap, off, rfl, _⟩
                · exact ⟨none, 0, rfl⟩
                · exact ⟨_, _, rfl⟩
              obtain ⟨ba, cap, rfl⟩ := hdx
              have hrun := run_copy_idle (P := P) (sT := t2) (ty := ty) hu hto e.w ba sa (hi - lo).toNat cap r.n scap (by rw [← hn]; exact h0) (by rw [h0] at hfn; simpa using hfn)
              obtain ⟨e', g1, g2, g3, g4, g5, _⟩ := row_idle hT hg hp ho s1 s2 (fun h => s3 h hS.fit) (fun x hx => by rw [s4 x hx, if_neg (by omega)])
              refine ⟨_, _, hrun, e', g1, g2, g3, ?_, g4, g5⟩
              rw [h0]
              exact .pure _ _ (.int _ _)
            · rcases a4 with ⟨rfl, rfl, rfl, _⟩ | ⟨b, cap, off, rfl, hsg, hcap, hoff⟩
              · simp at hnd; omega
              · obtain ⟨o1, o2⟩ := hoff.resolve_left (by omega)
                rcases hg.obj i _ ho with ⟨_, hno⟩ | ⟨b', cs, el', k1, k2, _⟩
                · rw [hno] at hsg; cases hsg
                obtain rfl : b = b' := by rw [hsg] at k1; exact Option.some.inj k1
                have hlen : (news.take (n * te.sz)).length = n * q.k := by
                  rw [List.length_take, hS.len, hqk]
                  exact Nat.min_eq_left (Nat.mul_le_mul_right _ hnr)
                obtain ⟨e', g1, g2, g3, g4, g5, _, g6⟩ := row_put hT hg hp (r := r) (news := news.take (n * te.sz)) ho hsg k2 lo.toNat n hlen (by omega) hnr s1 s2 (fun h => s3 h hS.fit)
                  (fun x hx => by rw [hqk]; exact hS.cl x hx) (by rw [hqk]; exact Src.take_rel hT hg hp hS n) (fun x hx => by rw [s4 x hx]; simp)
                have hrun := run_copy_put (P := P) (sT := t2) (ty := ty) hu hto e.w b off sa (hi - lo).toNat cap r.n scap n hn.symm hfn k2 (by rw [o1]; exact g6) (Src.take_one hT hg hp hz hS n)
                rw [o1] at hrun
                rw [o1]
                exact ⟨_, _, hrun, e', g1, g2, g3, .pure _ _ (.int _ _), g4, g5⟩
          · trivial
        · trivial
      · trivial
    · trivial
  · trivial
theorem aAppend_tok_ok {t t2 : Nat} (ty : TypeId) {x y : AVal} {dx dy : Value} (hx : VR e x dx) (hy : VR e y dy) : ARok e (aAppend p T t t2 x y e.h) ((Builtin.append_ #[t, t2] ty #[dx, dy]).run P e.w) := by
  unfold aAppend
  split
  · rename_i te hte
    obtain ⟨el, hu, hto, _⟩ := slElem_spec hT hg hp hte
    cases h2 : isSl T t2
    · trivial
    obtain ⟨el2, hu2⟩ := isSl_spec hT h2
    simp only
    split
    · rename_i q c
      split
      · rename_i r hr
        cases hkr : r.kOK te.sz
        · trivial
        cases hkq : q.kOK te.sz
        · trivial
        cases hz : Nat.blt 0 te.sz
        · trivial
        have hz : 0 < te.sz := by simpa using hz
        obtain ⟨hdy, hrfit, news, hFn, hS, hfn⟩ := lst_ok hT hg hp (P := P) hz hy hr hkr
        simp only
        split
        · rename_i s happ
          split
          · -- a nil slice
            have hdx : dx = .slice none 0 0 ∧ q.n = 0 := by
              rcases hx.ls_inv with h | h
              · cases hx with
                | pure _ _ h => cases h; rename_i hq hf hc; exact ⟨rfl, hq⟩
              · exact ⟨h.2.1, by cases hx with | pure _ _ h => cases h; assumption⟩
            split
            · intro hq
              simp only [rNd, hp.ad, len_real hp] at hq
              obtain ⟨q0, q1, q2⟩ := hq
              refine append_tok' hT hg hp ty hu hu2 hto hz hx hFn hfn hrfit hdy hkq hkr happ ⟨q1, q2⟩ (fun j hj => ?_) (by simp) (fun o ho => by simp at ho) (.inl ⟨by simp, hdx.1⟩)
              rcases Nat.lt_or_ge j e.h.length with h | h
              · rw [List.getElem?_append_left h]
              · rw [List.getElem?_eq_none (by simp; omega), List.getElem?_eq_none h]
            · -- .. that becomes a row
              cases hrk : Nat.beq r.k te.sz
              · trivial
              have hrk := Nat.eq_of_beq_eq_true hrk
              simp only
              split
              · rename_i s' happ'
                intro hq
                simp only [rNd, hp.ad, len_real hp] at hq
                obtain ⟨q0, q1, q2⟩ := hq
                rw [hdx.2] at q1 q2
                obtain ⟨hdx, _⟩ := hdx
                subst hdx
                have h0n : r.nil0.n = 0 := by cases r <;> rfl
                have h0k : r.nil0.k = r.k := by cases r <;> rfl
                have h0f : r.nil0.fit := by
                  cases r with
                  | gl s xs => intro x hx; simp at hx
                  | _ => trivial
                obtain ⟨g1, u1, x1⟩ := thawR_env hg r.nil0 h0n
                have ho1 : (e.thawR r.nil0).h[e.h.length]? = some (.rw 0 r.nil0) := by
                  show (e.h ++ [AObj.rw 0 r.nil0])[e.h.length]? = _
                  simp
                have hx1 : VR (e.thawR r.nil0) (.sl e.h.length 0 0 r.nil0.n) (.slice none 0 0) := by
                  refine .sl _ _ _ _ _ rfl ?_
                  rw [ho1]
                  exact ⟨Nat.le_refl _, fun _ => ⟨Int.le_refl _, by omega, Int.le_refl _, .inl ⟨rfl, rfl, by rw [h0n]; rfl, h0n⟩⟩⟩
                have hS1 : Src (e.thawR r.nil0) (P := P) te.sz r dy news := ⟨hS.len, hS.cl, fun x j hx hj => ⟨(hS.rel x j hx hj).1.mono (Nat.le_refl _) x1, (hS.rel x j hx hj).2⟩, hS.fit, hS.sl, fun m hm w' hw' => hS.first m hm w' hw'⟩
                obtain ⟨c, w', hrun, e', f1, f2, f3, f4, f5, f6⟩ := append_row hT g1 hp (P := P) ty hu hu2 hto hz ho1 hx1 (h0k.trans hrk) happ' hS1 ⟨by rw [h0n]; exact q1, by rw [h0n]; exact q2⟩
                rw [len_real hp]
                refine ⟨c, w', hrun, e', f1, ?_, f3, f4, u1.trans f5, x1.trans (f6.le (by show e.h.length ≤ (e.h ++ [AObj.rw 0 r.nil0]).length; simp))⟩
                rw [f2]
                show (e.h ++ [AObj.rw 0 r.nil0]).set e.h.length _ = _
                rw [List.set_append_right _ _ (Nat.le_refl _)]
                simp
              · trivial
          · rename_i i n
            split
            · rename_i n' hob
              cases hnn : Nat.beq n n'
              · trivial
              obtain rfl := Nat.eq_of_beq_eq_true hnn
              intro hq
              simp only [rNd, hp.ad, len_real hp] at hq
              obtain ⟨q0, q1, q2⟩ := hq
              have hil : i < e.h.length := (List.getElem?_eq_some_iff.1 hob).1
              have ht := hx.tok_inv
              rw [hob] at ht
              exact append_tok' hT hg hp ty hu hu2 hto hz hx hFn hfn hrfit hdy hkq hkr happ ⟨q1, q2⟩ (fun j hj => by rw [List.getElem?_set_ne (Ne.symm hj)]) (by simp [hil]) (fun o ho => by rw [hob] at ho; cases ho; exact ⟨n, rfl, by omega⟩) (.inr ⟨n, hob, ht.2 rfl⟩)
            · trivial
          · trivial
        · trivial
      · trivial
    · rename_i i g lo hi
      split
      · rename_i g' q ho
        cases hgg : Nat.beq g g'
        · trivial
        obtain rfl := Nat.eq_of_beq_eq_true hgg
        simp only
        split
        · rename_i r hr
          cases hkr : r.kOK te.sz
          · trivial
          cases hkq : Nat.beq q.k te.sz
          · trivial
          have hqk := Nat.eq_of_beq_eq_true hkq
          cases hz : Nat.blt 0 te.sz
          · trivial
          have hz : 0 < te.sz := by simpa using hz
          obtain ⟨news, hS⟩ := src_ok hT hg hp (P := P) hz hy hr hkr
          simp only
          split
          · split
            · rename_i s happ
              intro hq
              simp only [rNd, hp.ad, len_real hp] at hq
              obtain ⟨q1, q2, q3, q4, q5⟩ := hq
              subst q1; subst q2
              rw [len_real hp]
              exact append_row hT hg hp ty hu hu2 hto hz ho hx hqk happ hS ⟨q4, q5⟩
            · trivial
          · split
            · rename_i q' hq'
              intro hq
              simp only [rNd, hp.ad, len_real hp] at hq
              obtain ⟨q0, q1, q2⟩ := hq
              rw [len_real hp] at hq'
              have hqnl : q ≠ .nl := fun h => by subst h; simp [LX.k] at hqk; omega
              obtain ⟨s1, s2, s3, s4⟩ := splice_real hp hq' q0 (by omega) (Int.le_refl _) q2 hqnl
              obtain ⟨a1, a2, a3, a4⟩ := VR.sl_inv hT hg hp hx ho
              have hfn := hS.first r.n (Nat.le_refl _) e.w rfl
              have hdy := hS.sl
              have hlo : (hi - lo).toNat = hi.toNat - lo.toNat := by omega
              rw [hp.ad, len_real hp]
              simp only []
              rcases Nat.eq_zero_or_pos r.n with h0 | h0
              · -- nothing is put behind
                have hdx : ∃ ba c, dx = .slice ba (hi - lo).toNat c ∧ (hi - lo).toNat ≤ c := by
                  rcases a4 with ⟨rfl, rfl, rfl, _⟩ | ⟨b, cap, off, rfl, _, hcap, _⟩
                  · exact ⟨none, 0, rfl, Nat.le_refl _⟩
                  · exact ⟨_, _, rfl, by omega⟩
                obtain ⟨ba, cap, rfl, hcap⟩ := hdx
                have hrun := run_append_idle (P := P) (ty := ty) hu hu2 hto (ba := ba) (n := (hi - lo).toNat) (cap := cap) (m := r.n) (dy := dy) hdy h0 hcap (by
                  rw [h0] at hfn ⊢; simpa using hfn)
                obtain ⟨e', g1, g2, g3, g4, g5, g6⟩ := row_idle hT hg hp ho s1 s2 (fun h => s3 h hS.fit) (fun x hx => by rw [s4 x hx, if_neg (by omega)])
                refine ⟨_, _, hrun, e', g1, g2, g3, ?_, g4, g5⟩
                have := hx.mono (Nat.le_refl _) g5
                rw [show hi + (r.n : Int) = hi by omega]
                exact this
              · rcases a4 with ⟨rfl, rfl, rfl, hqn⟩ | ⟨b, cap, off, rfl, hsg, hcap, hoff⟩
                · omega
                · obtain ⟨o1, o2⟩ := hoff.resolve_left (by omega)
                  rcases hg.obj i _ ho with ⟨_, hno⟩ | ⟨b', cs, el', k1, k2, _⟩
                  · rw [hno] at hsg; cases hsg
                  obtain rfl : b = b' := by rw [hsg] at k1; exact Option.some.inj k1
                  have hnews : news.take (r.n * te.sz) = news := by rw [← hS.len, List.take_length]
                  have hlen : news.length = r.n * q.k := by rw [hS.len, hqk]
                  obtain ⟨e', g1, g2, g3, g4, g5, g7, g6⟩ := row_put hT hg hp (r := r) (news := news) ho hsg k2 hi.toNat r.n hlen (by omega) (Nat.le_refl _) s1 s2 (fun h => s3 h hS.fit)
                    (fun x hx => by rw [hqk]; exact hS.cl x hx) (fun x j hx hj => .inl (by rw [hqk] at hj ⊢; exact hS.rel x j hx hj)) (fun x hx => by rw [s4 x hx]; simp)
                  have hoff2 : off + (hi - lo).toNat * te.sz = hi.toNat * q.k := by
                    rw [o1, hqk, ← Nat.add_mul]; congr 1; omega
                  have hrun := run_append_put (P := P) (ty := ty) hu hu2 hto (ba := some ⟨b, off, none⟩) (n := (hi - lo).toNat) (cap := cap) (m := r.n) (dy := dy) hdy (news := news) (by omega) rfl k2 (by rw [hnews] at hfn; exact hfn) (by rw [hoff2]; exact g6)
                    (by have := Src.take_one hT hg hp hz hS r.n; rwa [hnews] at this)
                  rw [hoff2] at hrun
                  refine ⟨_, _, hrun, e', g1, g2, g3, ?_, g4, g5⟩
                  refine .sl i g lo (hi + r.n) _ rfl ?_
                  have hil : i < e.h.length := (List.getElem?_eq_some_iff.1 ho).1
                  rw [g2, List.getElem?_set, if_pos rfl, if_pos hil]
                  refine ⟨Nat.le_refl _, fun _ => ⟨a1, by omega, by omega, .inr ⟨b, cap, off, by rw [show (hi + (r.n : Int) - lo).toNat = (hi - lo).toNat + r.n by omega], by rw [g7]; exact hsg, by rw [s1]; exact hcap, .inr ⟨by rw [s2]; exact o1, ?_⟩⟩⟩⟩
                  rw [s2]
                  exact Nat.le_trans o2 (g5.size b)
            · trivial
        · trivial
      · trivial
    · trivial
  · trivial
theorem aClear_ok {t : Nat} (ty : TypeId) {x : AVal} {dx : Value} (hx : VR e x dx) : ARok e (aClear p T t x e.h) ((Builtin.clear_ #[t] ty #[dx]).run P e.w) := by
  unfold aClear
  split
  · rename_i te hte
    obtain ⟨el, hu, hto, _⟩ := slElem_spec hT hg hp hte
    cases hz : Nat.blt 0 te.sz
    · trivial
    have hz : 0 < te.sz := by simpa using hz
    cases hon : allOne te.zero.cells
    · trivial
    simp only
    split
    · rename_i i g lo hi
      split
      · rename_i g' q ho
        cases hgg : Nat.beq g g'
        · trivial
        obtain rfl := Nat.eq_of_beq_eq_true hgg
        cases hqk : Nat.beq q.k te.sz
        · trivial
        have hqk := Nat.eq_of_beq_eq_true hqk
        simp only
        split
        · rename_i q' hq'
          obtain ⟨a1, a2, a3, a4⟩ := VR.sl_inv hT hg hp hx ho
          obtain ⟨r1, r2, r3⟩ := rep_real hp (p.sbt hi lo) te.zero
          have hsb : p.sbt hi lo = hi - lo := by rw [hp.sbt]
          rw [hsb] at r1 r2 r3 hq'
          have hrn : (repLX p (hi - lo) te.zero).n = (hi - lo).toNat := by rw [LX.n, r1, List.length_replicate]
          have hrat : ∀ x, x < (hi - lo).toNat → (repLX p (hi - lo) te.zero).at_ x = te.zero := fun x hx => by
            rw [LX.at_, r1]; simp [List.getD, hx]
          have hqnl : q ≠ .nl := fun h => by subst h; simp [LX.k] at hqk; omega
          obtain ⟨s1, s2, s3, s4⟩ := splice_real hp hq' a1 (by omega) (by omega) (by omega) hqnl
          have dead : (hi - lo).toNat = 0 → (∃ ba c, dx = .slice ba 0 c) → ∃ c w', (Builtin.clear_ #[t] ty #[dx]).run P e.w = .ok c w' ∧ Step e (.tup []) (e.h.set i (.rw g q')) c w' := fun h0 ⟨ba, c, hdx⟩ => by
            obtain ⟨e', g1, g2, g3, g4, g5, _⟩ := row_idle hT hg hp ho s1 s2 (fun h => s3 h r2) (fun x hx => by rw [s4 x hx, if_neg (by omega)])
            subst hdx
            refine ⟨.tuple #[], e.w, ?_, e', g1, g2, g3, .pure _ _ (.tup [] #[] rfl (fun i hi => by simp at hi)), g4, g5⟩
            cases ba <;> simp [Builtin.clear_, run_underlying hu]
          rcases a4 with ⟨rfl, rfl, rfl, _⟩ | ⟨b, cap, off, hdx, hsg, hcap, hoff⟩
          · exact dead rfl ⟨none, 0, rfl⟩
          · rcases Nat.eq_zero_or_pos (hi - lo).toNat with h0 | h0
            · exact dead h0 ⟨_, _, by rw [hdx, h0]⟩
            · obtain ⟨o1, o2⟩ := hoff.resolve_left (by omega)
              rcases hg.obj i _ ho with ⟨_, hno⟩ | ⟨b', cs, el', k1, k2, _⟩
              · rw [hno] at hsg; cases hsg
              obtain rfl : b = b' := by rw [hsg] at k1; exact Option.some.inj k1
              obtain ⟨z, hz0, hz1, hz2, hz3⟩ := hto.run_zero
              obtain ⟨hlr, _⟩ := LR.zero hto (hz0 e.w)
              have hzc : ∀ n, (Builtin.zeroCells z.cells n) = zcells z.cells (n * z.cells.size) := fun n => rfl
              have hnl : (zcells z.cells ((hi - lo).toNat * z.cells.size)).toList.length = (hi - lo).toNat * q.k := by
                rw [Array.length_toList, zcells_size, hz1, hqk]
              have hget : ∀ m, m < (hi - lo).toNat * te.sz → (zcells z.cells ((hi - lo).toNat * z.cells.size)).toList.getD m undef = z.cells.getD (m % te.sz) undef := fun m hm => by
                have := zcells_get z.cells ((hi - lo).toNat * z.cells.size) m (by rw [hz1]; exact hm) (by omega)
                rw [hz1] at this ⊢
                rw [← this]
                simp [List.getD]
              have hone : ∀ v ∈ (zcells z.cells ((hi - lo).toNat * z.cells.size)).toList, v.oneCell' = true := fun v hv => by
                obtain ⟨m, hm, rfl⟩ := List.mem_iff_getElem.1 hv
                have hm2 : m < (hi - lo).toNat * te.sz := by rw [hnl, hqk] at hm; exact hm
                have := hget m hm2
                simp only [List.getD, List.getElem?_eq_getElem hm, Option.getD_some] at this
                rw [this]
                have hmod : m % te.sz < z.cells.size := by rw [hz1]; exact Nat.mod_lt _ hz
                simp only [Array.getD_eq_getD_getElem?, Array.getElem?_eq_getElem hmod, Option.getD_some]
                exact hz2 _ (Array.getElem_mem hmod)
              obtain ⟨e', g1, g2, g3, g4, g5, _, g6⟩ := row_put hT hg hp (r := repLX p (hi - lo) te.zero) (news := (zcells z.cells ((hi - lo).toNat * z.cells.size)).toList) ho hsg k2 lo.toNat (hi - lo).toNat hnl (by omega) (by omega) s1 s2 (fun h => s3 h r2)
                (fun x hx => by rw [hrat x (by omega), hqk]; exact hto.zl) (fun x j hx hj => .inl (by
                  rw [hqk] at hj ⊢
                  have hlt : (x + 1) * te.sz ≤ (hi - lo).toNat * te.sz := Nat.mul_le_mul_right _ (by omega)
                  rw [Nat.add_mul] at hlt
                  rw [hrat x (by omega), hget _ (by omega), show (x * te.sz + j) % te.sz = j by rw [Nat.mul_comm, Nat.mul_add_mod, Nat.mod_eq_of_lt hj]]
                  have h9 := hlr.rel j (by rw [hto.zl]; exact hj)
                  exact ⟨h9, h9.one (allOne_mono hon (by rw [hto.zl]; exact hj))⟩)) (fun x hx => by rw [s4 x hx])
              refine ⟨.tuple #[], _, ?_, e', g1, g2, g3, .pure _ _ (.tup [] #[] rfl (fun i hi => by simp at hi)), g4, g5⟩
              have hst := run_storeCells_at P b off el' (zcells z.cells ((hi - lo).toNat * z.cells.size)).toList 0 cs e.w k2 (by rw [o1]; simpa using g6) hone
              simp only [Nat.add_zero] at hst
              rw [hdx]
              obtain ⟨n, hn⟩ : ∃ n, (hi - lo).toNat = n + 1 := ⟨(hi - lo).toNat - 1, by omega⟩
              have hz0' := hz0 e.w
              rw [← o1]
              simp only [Builtin.clear_]
              rw [hn] at hst ⊢
              simp [run_underlying hu, hz0', hzc, hst, spliced]
        · trivial
      · trivial
    · trivial
  · trivial
end
end Go.AL
