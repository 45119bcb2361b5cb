/-
  AL: a variable that nobody writes any more is told as its value ('pp').
-/
import Derived.Test.YtnnpookoencpnaaAlArgs
set_option linter.unusedSectionVars false
set_option linter.unusedVariables false
set_option linter.unusedSimpArgs false
namespace Go.AL
open Go
mutual
/-- Box i's address told as what lies there. -/
def fz (i : Nat) (vs : List AVal) : AVal → AVal
  | .ptr j off => match Nat.beq j i with
    | true => .pp (vs.drop off)
    | false => .ptr j off
  | .agg us => .agg (fzs i vs us)
  | .tup us => .tup (fzs i vs us)
  | .clo f a b => .clo f (fzs i vs a) (fzs i vs b)
  | .iface t v => .iface t (fz i vs v)
  | v => v
def fzs (i : Nat) (vs : List AVal) : List AVal → List AVal
  | [] => []
  | v :: r => fz i vs v :: fzs i vs r
end
theorem fzs_len (i : Nat) (vs : List AVal) : ∀ l, (fzs i vs l).length = l.length
  | [] => rfl
  | v :: r => by simp [fzs, fzs_len i vs r]
theorem fzs_get (i : Nat) (vs : List AVal) : ∀ l j, j < l.length → (fzs i vs l).getD j .junk = fz i vs (l.getD j .junk)
  | [], j, h => by simp at h
  | v :: r, 0, h => by simp [fzs]
  | v :: r, j + 1, h => by simpa [fzs] using fzs_get i vs r j (by simpa using h)
/-- The environment with box i's block written no more. -/
def Env.fz (e : Env) (i b n : Nat) : Env := ⟨e.w, e.sg, e.h.set i (.dead 0), fun b' => if b' = b then n else e.ps b'⟩
section
variable {e : Env} (hg : Good e) {i : Nat} {vs : List AVal} (hi : e.h[i]? = some (.box vs))
include hg hi
theorem fz_env : ∃ b cs el, e.sg i = some b ∧ e.w.heap[b]? = some (.cells cs el (0, 0)) ∧ vs.length = cs.size ∧ e.ps b = 0 ∧ (∀ j, j < vs.length → VR e (vs.getD j .junk) (cs.getD j undef)) ∧
    Good (e.fz i b vs.length) ∧ ∀ n, Ext n e (e.fz i b vs.length) := by
  obtain ⟨b, cs, el, h1, h2, h3, h4, h5⟩ := hg.obj i _ hi
  have hil : i < e.h.length := (List.getElem?_eq_some_iff.1 hi).1
  have other : ∀ j o b', j ≠ i → e.h[j]? = some o → o.live = true → e.sg j = some b' → b' ≠ b := fun j o b' hne ho hl hs hb => by
    subst hb
    exact hne (hg.inj j i o _ b' ho hl hi rfl hs h1)
  have hext : ∀ n, Ext n e (e.fz i b vs.length) := fun n => by
    refine ⟨fun j o hj ho => ?_, fun b' => ?_, fun b' o ho => rfl, fun b' => Nat.le_refl _⟩
    · by_cases hji : j = i
      · subst hji
        rw [hi] at ho
        cases ho
        exact ⟨.dead 0, by simp [Env.fz, hil], trivial⟩
      · refine ⟨o, by simp [Env.fz, List.getElem?_set_ne (Ne.symm hji), ho], ?_⟩
        cases o with
        | box us => exact ⟨rfl, rfl⟩
        | rw g q => exact ⟨Nat.le_refl _, fun _ => ⟨rfl, rfl, rfl⟩⟩
        | tok n => exact ⟨Nat.le_refl _, fun _ => ⟨rfl, fun b' hb' => if_neg (other j _ b' hji ho rfl hb')⟩⟩
        | loop r => exact rfl
        | dead g => exact Nat.le_refl _
    · show e.ps b' ≤ if b' = b then vs.length else e.ps b'
      split
      · rename_i h; subst h; omega
      · exact Nat.le_refl _
  have vr : ∀ v c, VR e v c → VR (e.fz i b vs.length) v c := fun v c h => h.mono (Nat.le_refl _) (hext _)
  refine ⟨b, cs, el, h1, h2, h3, h4, h5, ⟨fun j o ho => ?_, ?_, fun b' => ?_⟩, hext⟩
  · by_cases hji : j = i
    · subst hji
      simp [Env.fz, hil] at ho
      subst ho
      trivial
    · have ho' : e.h[j]? = some o := by simpa [Env.fz, List.getElem?_set_ne (Ne.symm hji)] using ho
      have hob := hg.obj j o ho'
      cases o with
      | box us =>
        obtain ⟨b', cs', el', k1, k2, k3, k4, k5⟩ := hob
        exact ⟨b', cs', el', k1, k2, k3, (if_neg (other j _ b' hji ho' rfl k1)).trans k4, fun m hm => vr _ _ (k5 m hm)⟩
      | rw g q =>
        rcases hob with k | ⟨b', cs', el', k1, k2, k3, k4, k5, k6, k7⟩
        · exact .inl k
        · exact .inr ⟨b', cs', el', k1, k2, k3, (if_neg (other j _ b' hji ho' rfl k1)).trans k4, k5, k6, fun m n hm hn => ⟨vr _ _ (k7 m n hm hn).1, (k7 m n hm hn).2⟩⟩
      | tok n => exact hob
      | loop r => obtain ⟨b2, r2, k1, k2, k3, k4⟩ := hob; exact ⟨b2, r2, k1, k2, k3, fun t => vr _ _ (k4 t)⟩
      | dead g => trivial
  · intro j k oj ok b' hj hjl hk hkl sj sk
    have hji : j ≠ i := fun h => by subst h; simp [Env.fz, hil] at hj; subst hj; cases hjl
    have hki : k ≠ i := fun h => by subst h; simp [Env.fz, hil] at hk; subst hk; cases hkl
    exact hg.inj j k oj ok b' (by simpa [Env.fz, List.getElem?_set_ne (Ne.symm hji)] using hj) hjl (by simpa [Env.fz, List.getElem?_set_ne (Ne.symm hki)] using hk) hkl sj sk
  · show (if b' = b then vs.length else e.ps b') ≤ cellsSize e.w b'
    split
    · rename_i h
      subst h
      unfold cellsSize
      rw [h2, h3]
      exact Nat.le_refl _
    · exact hg.ps b'
theorem fz_val {b : Nat} {cs : Array Value} {el : TypeId} (h1 : e.sg i = some b) (h2 : e.w.heap[b]? = some (.cells cs el (0, 0))) (h3 : vs.length = cs.size) (h5 : ∀ j, j < vs.length → VR e (vs.getD j .junk) (cs.getD j undef))
    (hp : lows 0 vs = true) (hext : Ext e.h.length e (e.fz i b vs.length)) {v : AVal} {c : Value} (hv : VR e v c) : VR (e.fz i b vs.length) (Go.AL.fz i vs v) c := by
  have keep : ∀ v c, VR e v c → Go.AL.fz i vs v = v → VR (e.fz i b vs.length) (Go.AL.fz i vs v) c := fun v c h heq => by rw [heq]; exact h.mono (Nat.le_refl _) hext
  induction hv with
  | pure v c h =>
    have key : ∀ v c, PVR e.w e.ps v c → PVR (e.fz i b vs.length).w (e.fz i b vs.length).ps (Go.AL.fz i vs v) c := fun v c h => by
      have hm : ∀ v c, PVR e.w e.ps v c → PVR (e.fz i b vs.length).w (e.fz i b vs.length).ps v c := fun v c h => h.mono hext.ps hext.cell
      induction h with
      | agg us ds hl _ ih => exact .agg _ ds (by rw [fzs_len]; exact hl) fun j hj => by rw [fzs_len] at hj; rw [fzs_get i vs us j hj]; exact ih j hj
      | tup us ds hl _ ih => exact .tup _ ds (by rw [fzs_len]; exact hl) fun j hj => by rw [fzs_len] at hj; rw [fzs_get i vs us j hj]; exact ih j hj
      | clo f fs gs ms ns k1 k2 _ _ ih1 ih2 =>
        exact .clo f _ _ ms ns (by rw [fzs_len]; exact k1) (by rw [fzs_len]; exact k2) (fun j hj => by rw [fzs_len] at hj; rw [fzs_get i vs fs j hj]; exact ih1 j hj) (fun j hj => by rw [fzs_len] at hj; rw [fzs_get i vs gs j hj]; exact ih2 j hj)
      | iface t v c _ ih => exact .iface t _ c ih
      | bool x => exact .bool x
      | int k n => exact .int k n
      | str s => exact .str s
      | lsnil q c hq hf hc => exact hm _ _ (.lsnil q c hq hf hc)
      | lse q a hq hf => exact hm _ _ (.lse q a hq hf)
      | ls q b off cap cv k1 k2 k3 k4 k5 k6 k7 _ => exact hm _ _ (.ls q b off cap cv k1 k2 k3 k4 k5 k6 k7)
      | pp xs b off cv k1 k2 k3 _ => exact hm _ _ (.pp xs b off cv k1 k2 k3)
      | nilp => exact .nilp
      | nilf => exact .nilf
      | nili => exact .nili
      | und => exact .und
      | junk c => exact .junk c
    exact .pure _ _ (key v c h)
  | tok q j n c h ht => exact keep _ _ (.tok q j n c h ht) rfl
  | sl j g lo hi c k1 k2 => exact keep _ _ (.sl j g lo hi c k1 k2) rfl
  | pe j g ix off c k1 k2 => exact keep _ _ (.pe j g ix off c k1 k2) rfl
  | yld j c k1 k2 => exact keep _ _ (.yld j c k1 k2) rfl
  | ptr j off c k1 k2 =>
    by_cases hji : j = i
    · subst hji
      rw [hi] at k2
      obtain ⟨b', rfl, k3, k4⟩ := k2
      obtain rfl : b = b' := by rw [h1] at k3; exact Option.some.inj k3
      have e1 : Go.AL.fz j vs (.ptr j off) = .pp (vs.drop off) := by simp [Go.AL.fz]
      rw [e1]
      refine .pure _ _ (.pp _ b off (fun m => cs.getD (off + m) undef) (fun hne => ?_) (fun m hm => ?_) (fun m hm => ?_))
      · show off + (vs.drop off).length ≤ if b = b then vs.length else e.ps b
        rw [if_pos rfl]
        simp
        omega
      · rw [List.length_drop] at hm
        show e.w.cell? ⟨b, off + m, none⟩ = _
        have : off + m < cs.size := by omega
        simp [World.cell?, h2, this]
      · rw [List.length_drop] at hm
        have hm' : off + m < vs.length := by omega
        have h6 : PVR e.w e.ps (vs.getD (off + m) .junk) (cs.getD (off + m) undef) := VR.pureOf (e := { e with h := e.h.take 0 }) ((h5 (off + m) hm').low (lows_get hp _ hm')) (by simp)
        have e2 : (vs.drop off).getD m .junk = vs.getD (off + m) .junk := by simp [List.getD, List.getElem?_drop]
        rw [e2]
        exact h6.mono hext.ps hext.cell
    · have : Go.AL.fz i vs (.ptr j off) = .ptr j off := by
        unfold Go.AL.fz
        split
        · rename_i hb; exact absurd (Nat.eq_of_beq_eq_true hb) hji
        · rfl
      exact keep _ _ (.ptr j off c k1 k2) this
  | agg us ds hl _ ih => exact .agg _ ds (by rw [fzs_len]; exact hl) fun j hj => by rw [fzs_len] at hj; rw [fzs_get i vs us j hj]; exact ih j hj
  | tup us ds hl _ ih => exact .tup _ ds (by rw [fzs_len]; exact hl) fun j hj => by rw [fzs_len] at hj; rw [fzs_get i vs us j hj]; exact ih j hj
  | clo f fs gs ms ns k1 k2 _ _ ih1 ih2 =>
    exact .clo f _ _ ms ns (by rw [fzs_len]; exact k1) (by rw [fzs_len]; exact k2) (fun j hj => by rw [fzs_len] at hj; rw [fzs_get i vs fs j hj]; exact ih1 j hj) (fun j hj => by rw [fzs_len] at hj; rw [fzs_get i vs gs j hj]; exact ih2 j hj)
  | iface t v c _ ih => exact .iface t _ c ih
end
/-- THE END, box i told as its value. -/
theorem fin_fz {n0 : Nat} {R : AVal → Heap → Prop} {r : AVal} {h : Heap} (i : Nat) (vs : List AVal) (hi : h[i]? = some (.box vs)) (hp : lows 0 vs = true) (hh : rFin n0 R (fz i vs r) (h.set i (.dead 0))) : rFin n0 R r h :=
  fun e0 e c hn hg he hv hu hx => by
    subst he
    obtain ⟨b, cs, el, h1, h2, h3, h4, h5, h6, h7⟩ := fz_env hg hi
    refine hh e0 (e.fz i b vs.length) c hn h6 rfl (fz_val hg hi h1 h2 h3 h5 hp (h7 _) hv) ?_ (hx.trans (h7 _))
    have hown : Owned e b := ⟨i, _, hi, rfl, h1⟩
    refine ⟨hu.os, hu.tape, hu.output, hu.size, fun b' hb' hno => ?_, fun b' ⟨j, o, k1, k2, k3⟩ => ?_⟩
    · have hb2 : b' ≠ b := fun h => by
        subst h
        rcases hu.own b' hown with h | h
        · exact hno h
        · omega
      exact ⟨(hu.frame b' hb' hno).1, (if_neg hb2).trans (hu.frame b' hb' hno).2⟩
    · refine hu.own b' ⟨j, o, ?_, k2, k3⟩
      have hil : i < e.h.length := (List.getElem?_eq_some_iff.1 hi).1
      have hji : j ≠ i := fun h => by subst h; simp [Env.fz, hil] at k1; subst k1; cases k2
      simpa [Env.fz, List.getElem?_set_ne (Ne.symm hji)] using k1
end Go.AL
