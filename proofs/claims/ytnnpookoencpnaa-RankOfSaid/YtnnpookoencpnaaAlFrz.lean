/-
  AL: a row that nobody writes any more is told as a list.
-/
import Derived.Test.YtnnpookoencpnaaAlFreeze
import Derived.Test.YtnnpookoencpnaaAlDrop
set_option linter.unusedSectionVars false
set_option linter.unusedVariables false
set_option linter.unusedSimpArgs false
namespace Go.AL
open Go
def subR : LX → Int → Int → LX
  | .nl, _, _ => .nl
  | .il k l, a, b => .il k (rSub l a b)
  | .gl s xs, a, b => .gl s (rSub xs a b)
mutual
/-- A slice of row i told as the list that it is. -/
def rz (i g : Nat) (q : LX) : AVal → AVal
  | .sl j g' lo hi => match Nat.beq j i with
    | true => match Nat.beq g' g with
      | true => .ls (subR q lo hi) .any
      | false => .junk
    | false => .sl j g' lo hi
  | .pe j g' x o => match Nat.beq j i with
    | true => .junk
    | false => .pe j g' x o
  | .agg us => .agg (rzs i g q us)
  | .tup us => .tup (rzs i g q us)
  | .clo f a b => .clo f (rzs i g q a) (rzs i g q b)
  | .iface t v => .iface t (rz i g q v)
  | v => v
def rzs (i g : Nat) (q : LX) : List AVal → List AVal
  | [] => []
  | v :: r => rz i g q v :: rzs i g q r
end
theorem rzs_len (i g : Nat) (q : LX) : ∀ l, (rzs i g q l).length = l.length
  | [] => rfl
  | v :: r => by simp [rzs, rzs_len i g q r]
theorem rzs_get (i g : Nat) (q : LX) : ∀ l j, j < l.length → (rzs i g q l).getD j .junk = rz i g q (l.getD j .junk)
  | [], j, h => by simp at h
  | v :: r, 0, h => by simp [rzs]
  | v :: r, j + 1, h => by simpa [rzs] using rzs_get i g q r j (by simpa using h)
/-- Elements that lead nowhere. -/
def LX.pureB : LX → Bool
  | .gl s _ => shPure s
  | _ => true
/-- The environment with row i's block written no more. -/
def Env.rz (e : Env) (i g : Nat) (b? : Option Nat) (n : Nat) : Env := ⟨e.w, e.sg, e.h.set i (.dead g), fun b' => if some b' = b? then n else e.ps b'⟩
section
variable {e : Env} (hg : Good e) {i g : Nat} {q : LX} (hi : e.h[i]? = some (.rw g q))
include hg hi
theorem rz_env : ∃ b?, e.sg i = b? ∧ (b? = none → q.n = 0) ∧ (∀ b, b? = some b → Owned e b) ∧ (q.n = 0 ∧ b? = none ∨ ∃ b cs el, b? = some b ∧ e.w.heap[b]? = some (.cells cs el (0, 0)) ∧ q.n * q.k ≤ cs.size ∧ q.fit ∧ (∀ i, i < q.n → (q.at_ i).cells.length = q.k) ∧
      ∀ i j, i < q.n → j < q.k → VR e ((q.at_ i).cells.getD j .junk) (cs.getD (i * q.k + j) undef) ∧ (cs.getD (i * q.k + j) undef).oneCell' = true) ∧
    Good (e.rz i g b? (q.n * q.k)) ∧ ∀ n, Ext n e (e.rz i g b? (q.n * q.k)) := by
  have hil : i < e.h.length := (List.getElem?_eq_some_iff.1 hi).1
  have hob := hg.obj i _ hi
  have hps : ∀ b, e.sg i = some b → e.ps b = 0 ∧ ∃ cs el, e.w.heap[b]? = some (.cells cs el (0, 0)) ∧ q.n * q.k ≤ cs.size := fun b hb => by
    rcases hob with ⟨_, h2⟩ | ⟨b', cs, el, h1, h2, h3, h4, _⟩
    · rw [hb] at h2; cases h2
    · obtain rfl : b = b' := by rw [hb] at h1; exact Option.some.inj h1
      exact ⟨h4, cs, el, h2, h3⟩
  have other : ∀ j o b', j ≠ i → e.h[j]? = some o → o.live = true → e.sg j = some b' → some b' ≠ e.sg i := fun j o b' hne ho hl hs hb => by
    exact hne (hg.inj j i o _ b' ho hl hi rfl hs hb.symm)
  have hext : ∀ n, Ext n e (e.rz i g (e.sg i) (q.n * q.k)) := fun n => by
    refine ⟨fun j o hj ho => ?_, fun b' => ?_, fun b' o ho => rfl, fun b' => Nat.le_refl _⟩
    · by_cases hji : j = i
      · subst hji
        rw [hi] at ho
        cases ho
        exact ⟨.dead g, by simp [Env.rz, hil], Nat.le_refl _⟩
      · refine ⟨o, by simp [Env.rz, List.getElem?_set_ne (Ne.symm hji), ho], ?_⟩
        cases o with
        | box us => exact ⟨rfl, rfl⟩
        | rw g q => exact ⟨Nat.le_refl _, fun _ => ⟨rfl, rfl, rfl⟩⟩
        | tok n => exact ⟨Nat.le_refl _, fun _ => ⟨rfl, fun b' hb' => if_neg (other j _ b' hji ho rfl hb')⟩⟩
        | loop r => exact rfl
        | dead g => exact Nat.le_refl _
    · show e.ps b' ≤ if some b' = e.sg i then q.n * q.k else e.ps b'
      split
      · rename_i h; rw [(hps b' h.symm).1]; exact Nat.zero_le _
      · exact Nat.le_refl _
  have vr : ∀ v c, VR e v c → VR (e.rz i g (e.sg i) (q.n * q.k)) v c := fun v c h => h.mono (Nat.le_refl _) (hext _)
  refine ⟨e.sg i, rfl, fun h => ?_, fun b hb => ⟨i, _, hi, rfl, hb⟩, ?_, ⟨fun j o ho => ?_, ?_, fun b' => ?_⟩, hext⟩
  · rcases hob with ⟨h1, _⟩ | ⟨b', _, _, h1, _⟩
    · exact h1
    · rw [h] at h1; cases h1
  · rcases hob with ⟨h1, h2⟩ | ⟨b', cs, el, h1, h2, h3, h4, h5, h6, h7⟩
    · exact .inl ⟨h1, h2⟩
    · exact .inr ⟨b', cs, el, h1, h2, h3, h5, h6, h7⟩
  · by_cases hji : j = i
    · subst hji
      simp [Env.rz, hil] at ho
      subst ho
      trivial
    · have ho' : e.h[j]? = some o := by simpa [Env.rz, List.getElem?_set_ne (Ne.symm hji)] using ho
      have hob := hg.obj j o ho'
      cases o with
      | box us =>
        obtain ⟨b', cs', el', k1, k2, k3, k4, k5⟩ := hob
        exact ⟨b', cs', el', k1, k2, k3, (if_neg (other j _ b' hji ho' rfl k1)).trans k4, fun m hm => vr _ _ (k5 m hm)⟩
      | rw g q =>
        rcases hob with k | ⟨b', cs', el', k1, k2, k3, k4, k5, k6, k7⟩
        · exact .inl k
        · exact .inr ⟨b', cs', el', k1, k2, k3, (if_neg (other j _ b' hji ho' rfl k1)).trans k4, k5, k6, fun m n hm hn => ⟨vr _ _ (k7 m n hm hn).1, (k7 m n hm hn).2⟩⟩
      | tok n => exact hob
      | loop r => obtain ⟨b2, r2, k1, k2, k3, k4⟩ := hob; exact ⟨b2, r2, k1, k2, k3, fun t => vr _ _ (k4 t)⟩
      | dead g => trivial
  · intro j k oj ok b' hj hjl hk hkl sj sk
    have hji : j ≠ i := fun h => by subst h; simp [Env.rz, hil] at hj; subst hj; cases hjl
    have hki : k ≠ i := fun h => by subst h; simp [Env.rz, hil] at hk; subst hk; cases hkl
    exact hg.inj j k oj ok b' (by simpa [Env.rz, List.getElem?_set_ne (Ne.symm hji)] using hj) hjl (by simpa [Env.rz, List.getElem?_set_ne (Ne.symm hki)] using hk) hkl sj sk
  · show (if some b' = e.sg i then q.n * q.k else e.ps b') ≤ cellsSize e.w b'
    split
    · rename_i h
      obtain ⟨_, cs, el, h2, h3⟩ := hps b' h.symm
      unfold cellsSize
      rw [h2]
      exact h3
    · exact hg.ps b'
theorem subR_n (lo hh : Int) (h0 : 0 ≤ lo) (h1 : lo ≤ hh) (h2 : hh ≤ q.n) : (subR q lo hh).n = (hh - lo).toNat := by
  cases q with
  | nl => simp only [subR, LX.n, LX.toL, List.length_nil] at h2 ⊢; have : (0 : Int) = hh - lo := by simp at h2; omega
          omega
  | il k l =>
    simp only [subR, LX.n, LX.toL, List.length_map] at h2 ⊢
    exact rSub_length l lo hh h0 h1 h2
  | gl s xs =>
    simp only [subR, LX.n, LX.toL] at h2 ⊢
    exact rSub_length xs lo hh h0 h1 h2
theorem subR_toL (lo hh : Int) : (subR q lo hh).toL = rSub q.toL lo hh := by
  cases q <;> simp [subR, LX.toL, rSub, List.map_take, List.map_drop]
theorem subR_k (lo hh : Int) : (subR q lo hh).k = q.k := by cases q <;> rfl
theorem subR_fit (lo hh : Int) (h : q.fit) : (subR q lo hh).fit := by
  cases q with
  | gl s xs => intro x hx; exact h x (List.mem_of_mem_drop (List.mem_of_mem_take hx))
  | _ => trivial
theorem rz_val (hp : q.pureB = true) (hfit : q.fit) {b? : Option Nat} (hb : e.sg i = b?)
    (hcs : q.n = 0 ∧ b? = none ∨ ∃ b cs el, b? = some b ∧ e.w.heap[b]? = some (.cells cs el (0, 0)) ∧ q.n * q.k ≤ cs.size ∧ q.fit ∧ (∀ i, i < q.n → (q.at_ i).cells.length = q.k) ∧
      ∀ i j, i < q.n → j < q.k → VR e ((q.at_ i).cells.getD j .junk) (cs.getD (i * q.k + j) undef) ∧ (cs.getD (i * q.k + j) undef).oneCell' = true)
    (hext : Ext e.h.length e (e.rz i g b? (q.n * q.k))) {v : AVal} {c : Value} (hv : VR e v c) : VR (e.rz i g b? (q.n * q.k)) (Go.AL.rz i g q v) c := by
  have keep : ∀ v c, VR e v c → Go.AL.rz i g q v = v → VR (e.rz i g b? (q.n * q.k)) (Go.AL.rz i g q v) c := fun v c h heq => by rw [heq]; exact h.mono (Nat.le_refl _) hext
  have hlow : ∀ x, x < q.n → ∀ j, j < q.k → (q.at_ x).cells.length = q.k → Go.AL.low 0 ((q.at_ x).cells.getD j .junk) = true := fun x hx j hj hl => by
    have h1 : Go.AL.low 0 (q.at_ x) = true := by
      cases q with
      | nl => simp [LX.n, LX.toL] at hx
      | il k l => simp only [LX.n, LX.toL, List.length_map] at hx; simp [LX.at_, LX.toL, List.getD, hx, Go.AL.low]
      | gl s xs =>
        simp only [LX.n, LX.toL] at hx
        have h2 := hfit xs[x] (List.getElem_mem hx)
        have h3 : (LX.gl s xs).at_ x = xs[x] := by simp [LX.at_, LX.toL, List.getD, hx]
        rw [h3, ← h2]
        exact eta_low 0 s _ hp
    exact lows_get (low_cells h1) j (by rw [hl]; exact hj)
  induction hv with
  | pure v c h =>
    have key : ∀ v c, PVR e.w e.ps v c → PVR (e.rz i g b? (q.n * q.k)).w (e.rz i g b? (q.n * q.k)).ps (Go.AL.rz i g q v) c := fun v c h => by
      have hm : ∀ v c, PVR e.w e.ps v c → PVR (e.rz i g b? (q.n * q.k)).w (e.rz i g b? (q.n * q.k)).ps v c := fun v c h => h.mono hext.ps hext.cell
      induction h with
      | agg us ds hl _ ih => exact .agg _ ds (by rw [rzs_len]; exact hl) fun j hj => by rw [rzs_len] at hj; rw [rzs_get i g q us j hj]; exact ih j hj
      | tup us ds hl _ ih => exact .tup _ ds (by rw [rzs_len]; exact hl) fun j hj => by rw [rzs_len] at hj; rw [rzs_get i g q us j hj]; exact ih j hj
      | clo f fs gs ms ns k1 k2 _ _ ih1 ih2 =>
        exact .clo f _ _ ms ns (by rw [rzs_len]; exact k1) (by rw [rzs_len]; exact k2) (fun j hj => by rw [rzs_len] at hj; rw [rzs_get i g q fs j hj]; exact ih1 j hj) (fun j hj => by rw [rzs_len] at hj; rw [rzs_get i g q gs j hj]; exact ih2 j hj)
      | iface t v c _ ih => exact .iface t _ c ih
      | bool x => exact .bool x
      | int k n => exact .int k n
      | str s => exact .str s
      | lsnil q' c hq hf hc => exact hm _ _ (.lsnil q' c hq hf hc)
      | lse q' a hq hf => exact hm _ _ (.lse q' a hq hf)
      | ls q' b off cap cv k1 k2 k3 k4 k5 k6 k7 _ => exact hm _ _ (.ls q' b off cap cv k1 k2 k3 k4 k5 k6 k7)
      | pp xs b off cv k1 k2 k3 _ => exact hm _ _ (.pp xs b off cv k1 k2 k3)
      | nilp => exact .nilp
      | nilf => exact .nilf
      | nili => exact .nili
      | und => exact .und
      | junk c => exact .junk c
    exact .pure _ _ (key v c h)
  | tok q' j n c h ht => exact keep _ _ (.tok q' j n c h ht) rfl
  | ptr j o c k1 k2 => exact keep _ _ (.ptr j o c k1 k2) rfl
  | yld j c k1 k2 => exact keep _ _ (.yld j c k1 k2) rfl
  | pe j g' x o c k1 k2 =>
    by_cases hji : j = i
    · subst hji
      have : Go.AL.rz j g q (.pe j g' x o) = .junk := by simp [Go.AL.rz]
      rw [this]
      exact .pure _ _ (.junk _)
    · have : Go.AL.rz i g q (.pe j g' x o) = .pe j g' x o := by
        unfold Go.AL.rz
        split
        · rename_i hb; exact absurd (Nat.eq_of_beq_eq_true hb) hji
        · rfl
      exact keep _ _ (.pe j g' x o c k1 k2) this
  | sl j g' lo hh c k1 k2 =>
    by_cases hji : j = i
    · subst hji
      by_cases hgg : g' = g
      · subst hgg
        rw [hi] at k2
        obtain ⟨a1, a2, a3, a4⟩ := k2.2 rfl
        have e1 : Go.AL.rz j g' q (.sl j g' lo hh) = .ls (subR q lo hh) .any := by simp [Go.AL.rz]
        rw [e1]
        have hn := subR_n hg hi lo hh a1 a2 a3
        have hf := subR_fit hg hi lo hh hfit
        rcases a4 with ⟨rfl, rfl, rfl, hq0⟩ | ⟨b, cap, off, rfl, hsg, hcap, hoff⟩
        · exact .pure _ _ (.lsnil _ _ (by rw [hn]; rfl) hf (.inl rfl))
        · rw [← hn]
          rcases Nat.eq_zero_or_pos (subR q lo hh).n with h0 | h0
          · refine .pure _ _ (.ls _ b off cap (fun _ _ => undef) (by omega) hf (fun x hx => by omega) (fun h => absurd h0 h) (fun x y hx => by omega) (fun x y hx => by omega) (fun x y hx => by omega))
          · rcases hcs with ⟨hq0, _⟩ | ⟨b', cs, el, k1, k2, k3, k4, k5, k6⟩
            · omega
            · obtain rfl : b = b' := by rw [hb] at hsg; rw [k1] at hsg; exact (Option.some.inj hsg).symm
              rcases hoff with hc0 | ⟨o1, o2⟩
              · omega
              · have hat : ∀ x, x < (subR q lo hh).n → (subR q lo hh).at_ x = q.at_ (lo.toNat + x) := fun x hx => by
                  rw [LX.at_, subR_toL hg hi, rSub_get _ _ _ _ _ (by omega)]
                have hkk := subR_k hg hi lo hh
                have hlen : (lo.toNat + (subR q lo hh).n) * q.k ≤ q.n * q.k := Nat.mul_le_mul_right _ (by omega)
                rw [Nat.add_mul] at hlen
                have lin : ∀ x y, x < (subR q lo hh).n → y < q.k → off + x * q.k + y = (lo.toNat + x) * q.k + y := fun x y _ _ => by rw [o1, Nat.add_mul]
                have bd : ∀ x y, x < (subR q lo hh).n → y < q.k → (lo.toNat + x) * q.k + y < cs.size := fun x y hx hy => by
                  have h1 : (lo.toNat + x + 1) * q.k ≤ q.n * q.k := Nat.mul_le_mul_right _ (by omega)
                  rw [Nat.add_mul] at h1
                  omega
                refine .pure _ _ (.ls _ b off cap (fun x y => cs.getD ((lo.toNat + x) * q.k + y) undef) (by omega) hf (fun x hx => ?_) (fun h => ?_) (fun x y hx hy => ?_) (fun x y hx hy => ?_) (fun x y hx hy => ?_))
                · rw [hat x hx, hkk]; exact k5 _ (by omega)
                · show off + (subR q lo hh).n * (subR q lo hh).k ≤ if some b = b? then q.n * q.k else e.ps b
                  rw [k1, if_pos rfl, hkk, o1]
                  exact hlen
                · rw [hkk] at hy ⊢
                  rw [lin x y hx hy]
                  show e.w.cell? _ = _
                  simp [World.cell?, k2, bd x y hx hy]
                · rw [hkk] at hy
                  exact (k6 (lo.toNat + x) y (by omega) hy).2
                · rw [hkk] at hy
                  rw [hat x hx]
                  have hx2 : lo.toNat + x < q.n := by omega
                  have h6 := VR.pureOf (e := { e with h := e.h.take 0 }) ((k6 (lo.toNat + x) y hx2 hy).1.low (hlow _ hx2 y hy (k5 _ hx2))) (by simp)
                  exact h6.mono hext.ps hext.cell
      · have : Go.AL.rz j g q (.sl j g' lo hh) = .junk := by
          unfold Go.AL.rz
          split
          · split
            · rename_i hb; exact absurd (Nat.eq_of_beq_eq_true hb) hgg
            · rfl
          · rename_i hb; simp at hb
        rw [this]
        exact .pure _ _ (.junk _)
    · have : Go.AL.rz i g q (.sl j g' lo hh) = .sl j g' lo hh := by
        unfold Go.AL.rz
        split
        · rename_i hb; exact absurd (Nat.eq_of_beq_eq_true hb) hji
        · rfl
      exact keep _ _ (.sl j g' lo hh c k1 k2) this
  | agg us ds hl _ ih => exact .agg _ ds (by rw [rzs_len]; exact hl) fun j hj => by rw [rzs_len] at hj; rw [rzs_get i g q us j hj]; exact ih j hj
  | tup us ds hl _ ih => exact .tup _ ds (by rw [rzs_len]; exact hl) fun j hj => by rw [rzs_len] at hj; rw [rzs_get i g q us j hj]; exact ih j hj
  | clo f fs gs ms ns k1 k2 _ _ ih1 ih2 =>
    exact .clo f _ _ ms ns (by rw [rzs_len]; exact k1) (by rw [rzs_len]; exact k2) (fun j hj => by rw [rzs_len] at hj; rw [rzs_get i g q fs j hj]; exact ih1 j hj) (fun j hj => by rw [rzs_len] at hj; rw [rzs_get i g q gs j hj]; exact ih2 j hj)
  | iface t v c _ ih => exact .iface t _ c ih
end
theorem rz_fit {e : Env} (hg : Good e) {i g : Nat} {q : LX} (hi : e.h[i]? = some (.rw g q)) : q.fit := by
  rcases hg.obj i _ hi with ⟨h0, _⟩ | ⟨_, _, _, _, _, _, _, h5, _⟩
  · cases q with
    | gl s xs =>
      intro x hx'
      simp [LX.n, LX.toL] at h0
      rw [h0] at hx'; simp at hx'
    | _ => trivial
  · exact h5
theorem rz_upd {e0 e : Env} (hg : Good e) {i g : Nat} {q : LX} (hi : e.h[i]? = some (.rw g q)) (hu : Upd e0 e) (b? : Option Nat) (n : Nat) (hb : e.sg i = b?) : Upd e0 (e.rz i g b? n) := by
  refine ⟨hu.os, hu.tape, hu.output, hu.size, fun b' hb' hno => ?_, fun b' ⟨j, o, k1, k2, k3⟩ => ?_⟩
  · have hb2 : some b' ≠ b? := fun h => by
      have hown : Owned e b' := ⟨i, _, hi, rfl, hb.trans h.symm⟩
      rcases hu.own b' hown with h | h
      · exact hno h
      · omega
    exact ⟨(hu.frame b' hb' hno).1, (if_neg hb2).trans (hu.frame b' hb' hno).2⟩
  · refine hu.own b' ⟨j, o, ?_, k2, k3⟩
    have hil : i < e.h.length := (List.getElem?_eq_some_iff.1 hi).1
    have hji : j ≠ i := fun h => by subst h; simp [Env.rz, hil] at k1; subst k1; cases k2
    simpa [Env.rz, List.getElem?_set_ne (Ne.symm hji)] using k1
/-- THE END, row i told as a list. -/
theorem fin_rz {n0 : Nat} {R : AVal → Heap → Prop} {r : AVal} {h : Heap} (i g : Nat) (q : LX) (hi : h[i]? = some (.rw g q)) (hp : q.pureB = true) (hh : rFin n0 R (rz i g q r) (h.set i (.dead g))) : rFin n0 R r h :=
  fun e0 e c hn hg he hv hu hx => by
    subst he
    obtain ⟨b?, h1, _, _, h2, h3, h4⟩ := rz_env hg hi
    exact hh e0 (e.rz i g b? (q.n * q.k)) c hn h3 rfl (rz_val hg hi hp (rz_fit hg hi) h1 h2 (h4 _) hv) (rz_upd hg hi hu b? _ h1) (hx.trans (h4 _))
/-- A STEP ON THE WAY: row i told as a list from here on. -/
theorem Gh.rz {n0 nt : Nat} {tm tm' : Nat → AVal} {h : Heap} (i g : Nat) (q : LX) (hm : n0 ≤ i) (hi : h[i]? = some (.rw g q)) (hp : q.pureB = true) (ht : ∀ t, tm' t = Go.AL.rz i g q (tm t) ∨ tm' t = .junk) : Gh n0 nt ⟨tm, h⟩ ⟨tm', h.set i (.dead g)⟩ := fun e0 e a hn hs => by
  have hh := hs.heap
  simp only at hh
  have hi' : e.h[i]? = some (.rw g q) := by rw [hh]; exact hi
  obtain ⟨b?, h1, _, _, h2, h3, h4⟩ := rz_env hs.good hi'
  have hu : Upd e (e.rz i g b? (q.n * q.k)) := by
    refine ⟨rfl, rfl, rfl, Nat.le_refl _, fun b' hb' hno => ?_, fun b' ⟨j, o, k1, k2, k3⟩ => ?_⟩
    · exact ⟨rfl, if_neg fun h => hno ⟨i, _, hi', rfl, h1.trans h.symm⟩⟩
    · have hil : i < e.h.length := (List.getElem?_eq_some_iff.1 hi').1
      have hji : j ≠ i := fun h => by subst h; simp [Env.rz, hil] at k1; subst k1; cases k2
      exact .inl ⟨j, o, by simpa [Env.rz, List.getElem?_set_ne (Ne.symm hji)] using k1, k2, k3⟩
  refine ⟨e.rz i g b? (q.n * q.k), rfl, h3, by show e.h.set i _ = _; rw [hh], fun t => ?_, hs.size, hs.marks.step rfl hu, hs.upd.trans hu, hs.ext.trans (h4 _)⟩
  rcases ht t with h | h
  · show VR _ (tm' t) _
    rw [h]
    exact rz_val hs.good hi' hp (rz_fit hs.good hi') h1 h2 (h4 _) (hs.tm t)
  · show VR _ (tm' t) _
    rw [h]
    exact .pure _ _ (.junk _)
/-- A contract's end, told otherwise behind it. -/
theorem Does.fin {P : Program} {f : FuncId} {args : List AVal} {h : Heap} {R R' : AVal → Heap → Prop} (hd : Does P f args h R) (hf : ∀ r h', R r h' → rFin h.length R' r h') : Does P f args h R' := by
  refine ⟨hd.1, fun e cs hg he ha => ?_⟩
  refine (hd.2 e cs hg he ha).mono fun x w hp => ?_
  cases x with
  | returned c =>
    obtain ⟨r, e1, hR, hw, g1, v1, u1, x1⟩ := hp
    subst he
    obtain ⟨r', e', k1, k2, k3, k4, k5, k6⟩ := hf r _ hR e e1 c rfl g1 rfl v1 u1 x1
    exact ⟨r', e', k1, k2.trans hw, k3, k4, k5, k6⟩
  | _ => exact hp.elim
theorem Wk.nilI (h : Heap) (k : IntKind) : Wk h (.ls .nl .nil) (.ls (.il k []) .any) := (Wk.empty h (q := .nl) (q' := .il k []) rfl rfl trivial (.inr rfl)).trans (.any h _ _)
/-- .. of a function value. -/
theorem DoesV.fin {P : Program} {v : AVal} {args : List AVal} {h : Heap} {R R' : AVal → Heap → Prop} (hd : DoesV P v args h R) (hf : ∀ r h', R r h' → rFin h.length R' r h') : DoesV P v args h R' := by
  intro e c cs hg he hv ha
  refine (hd e c cs hg he hv ha).mono fun x w hp => ?_
  cases x with
  | returned c =>
    obtain ⟨r, e1, hR, hw, g1, v1, u1, x1⟩ := hp
    subst he
    obtain ⟨r', e', k1, k2, k3, k4, k5, k6⟩ := hf r _ hR e e1 c rfl g1 rfl v1 u1 x1
    exact ⟨r', e', k1, k2.trans hw, k3, k4, k5, k6⟩
  | _ => exact hp.elim
end Go.AL
