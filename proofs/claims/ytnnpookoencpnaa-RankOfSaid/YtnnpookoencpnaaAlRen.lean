/-
  AL: a contract over a small heap is one over any heap that has its objects somewhere.
-/
import Derived.Test.YtnnpookoencpnaaAlGhost
set_option linter.unusedSectionVars false
set_option linter.unusedVariables false
set_option linter.unusedSimpArgs false
namespace Go.AL
open Go
mutual
/-- Objects' numbers told otherwise. -/
def rn (ρ : Nat → Nat) : AVal → AVal
  | .ls q (.tok i n) => .ls q (.tok (ρ i) n)
  | .sl i g lo hi => .sl (ρ i) g lo hi
  | .ptr i o => .ptr (ρ i) o
  | .pe i g ix o => .pe (ρ i) g ix o
  | .yld i => .yld (ρ i)
  | .agg vs => .agg (rns ρ vs)
  | .tup vs => .tup (rns ρ vs)
  | .clo f a b => .clo f (rns ρ a) (rns ρ b)
  | .iface t v => .iface t (rn ρ v)
  | v => v
def rns (ρ : Nat → Nat) : List AVal → List AVal
  | [] => []
  | v :: r => rn ρ v :: rns ρ r
end
def rnl (ρ : Nat → Nat) : List (Nat × AVal) → List (Nat × AVal)
  | [] => []
  | (d, v) :: r => (d, rn ρ v) :: rnl ρ r
theorem rnl_get (ρ : Nat → Nat) : ∀ l t, tmL (rnl ρ l) t = rn ρ (tmL l t)
  | [], t => rfl
  | (d, v) :: r, t => by
    simp only [rnl, tmL]
    split
    · rfl
    · exact rnl_get ρ r t
def rno (ρ : Nat → Nat) : AObj → AObj
  | .box vs => .box (rns ρ vs)
  | .loop L => .loop { L with l := rnl ρ L.l }
  | o => o
def rnos (ρ : Nat → Nat) : List AObj → List AObj
  | [] => []
  | o :: r => rno ρ o :: rnos ρ r
/-- Where object i of the small heap lies. -/
def rho : List Nat → Nat → Nat → Nat
  | [], N, i => N + i
  | a :: _, _, 0 => a
  | _ :: r, N, i + 1 => rho r N i
/-- The small heap's objects put back. -/
def putH : List Nat → Heap → Heap → Heap
  | [], H, h => H ++ h
  | i :: r, H, o :: h => putH r (H.set i o) h
  | _ :: _, H, [] => H
/-- Does the big heap have the small one's objects? -/
def hasH (ρ : Nat → Nat) (H : Heap) : Nat → Heap → Prop
  | _, [] => True
  | i, o :: h => H[ρ i]? = some (rno ρ o) ∧ hasH ρ H (i + 1) h
def rwPure : Heap → Bool
  | [] => true
  | .rw _ (.gl s _) :: r => match shPure s with
    | true => rwPure r
    | false => false
  | _ :: r => rwPure r
theorem rns_len (ρ : Nat → Nat) : ∀ l, (rns ρ l).length = l.length
  | [] => rfl
  | v :: r => by simp [rns, rns_len ρ r]
theorem rns_get (ρ : Nat → Nat) : ∀ l j, j < l.length → (rns ρ l).getD j .junk = rn ρ (l.getD j .junk)
  | [], j, h => by simp at h
  | v :: r, 0, h => by simp [rns]
  | v :: r, j + 1, h => by simpa [rns] using rns_get ρ r j (by simpa using h)
theorem rnos_get (ρ : Nat → Nat) : ∀ (l : Heap) (j : Nat), (rnos ρ l)[j]? = l[j]?.map (rno ρ)
  | [], j => by simp [rnos]
  | v :: r, 0 => by simp [rnos]
  | v :: r, j + 1 => by simpa [rnos] using rnos_get ρ r j
theorem rnos_len (ρ : Nat → Nat) : ∀ l, (rnos ρ l).length = l.length
  | [] => rfl
  | v :: r => by simp [rnos, rnos_len ρ r]
theorem rwPure_get : ∀ {h : Heap}, rwPure h = true → ∀ (i : Nat) g s xs, h[i]? = some (.rw g (.gl s xs)) → shPure s = true
  | [], _, i, g, s, xs, hi => by simp at hi
  | o :: r, h, 0, g, s, xs, hi => by
    simp at hi
    subst hi
    unfold rwPure at h
    split at h
    · assumption
    · cases h
  | o :: r, h, i + 1, g, s, xs, hi => by
    have hr : rwPure r = true := by
      unfold rwPure at h
      split at h
      · cases ‹_ = []›
      · rename_i e
        split at h
        · injection e with e1 e2; subst e2; exact h
        · cases h
      · rename_i e
        injection e with e1 e2; subst e2; exact h
    exact rwPure_get hr i g s xs (by simpa using hi)
theorem rho_lt (N : Nat) : ∀ (l : List Nat) i, i < l.length → rho l N i = l.getD i 0
  | [], i, h => by simp at h
  | a :: r, 0, h => by simp [rho]
  | a :: r, i + 1, h => by simpa [rho] using rho_lt N r i (by simpa using h)
theorem rho_ge (N : Nat) : ∀ (l : List Nat) i, l.length ≤ i → rho l N i = N + (i - l.length)
  | [], i, h => by simp [rho]
  | a :: r, 0, h => by simp at h
  | a :: r, i + 1, h => by
    rw [rho, rho_ge N r i (by simpa using h)]
    simp
theorem putH_len : ∀ (l : List Nat) (H h : Heap), l.length ≤ h.length → (putH l H h).length = H.length + (h.length - l.length)
  | [], H, h, _ => by simp [putH]
  | i :: r, H, o :: h, hl => by
    rw [putH, putH_len r _ h (by simpa using hl)]
    simp
  | i :: r, H, [], hl => by simp at hl
/-- What lies elsewhere. -/
theorem putH_other : ∀ (l : List Nat) (H h : Heap) (k : Nat), k < H.length → k ∉ l → (putH l H h)[k]? = H[k]?
  | [], H, h, k, hk, _ => by rw [putH, List.getElem?_append_left hk]
  | i :: r, H, o :: h, k, hk, hn => by
    simp only [List.mem_cons, not_or] at hn
    rw [putH, putH_other r _ h k (by simpa using hk) hn.2, List.getElem?_set_ne (Ne.symm hn.1)]
  | i :: r, H, [], k, hk, hn => rfl
theorem putH_at : ∀ (l : List Nat) (H h : Heap), l.Nodup → (∀ x ∈ l, x < H.length) → l.length ≤ h.length → ∀ i, (putH l H h)[rho l H.length i]? = h[i]?
  | [], H, h, _, _, _, i => by
    rw [putH, rho, List.getElem?_append_right (by omega)]
    simp
  | a :: r, H, [], _, _, hl, i => by simp at hl
  | a :: r, H, o :: h, hnd, hlt, hl, 0 => by
    rw [List.nodup_cons] at hnd
    have ha := hlt a (by simp)
    rw [putH, rho, putH_other r _ h a (by simpa using ha) hnd.1, List.getElem?_set_self ha]
    rfl
  | a :: r, H, o :: h, hnd, hlt, hl, i + 1 => by
    rw [List.nodup_cons] at hnd
    have := putH_at r (H.set a o) h hnd.2 (fun x hx => by simpa using hlt x (by simp [hx])) (by simpa using hl) i
    rw [List.length_set] at this
    rw [putH, rho, this]
    rfl
theorem hasH_get {ρ : Nat → Nat} {H : Heap} : ∀ {h : Heap} {j : Nat}, hasH ρ H j h → ∀ (i : Nat) o, h[i]? = some o → H[ρ (j + i)]? = some (rno ρ o)
  | [], j, _, i, o, hi => by simp at hi
  | a :: r, j, hh, 0, o, hi => by
    simp at hi; subst hi; exact hh.1
  | a :: r, j, hh, i + 1, o, hi => by
    have := hasH_get hh.2 i o (by simpa using hi)
    rwa [Nat.add_right_comm, Nat.add_assoc] at this
theorem rno_live (ρ : Nat → Nat) (o : AObj) : (rno ρ o).live = o.live := by cases o <;> rfl
/-- Values that lead nowhere are told the same. -/
theorem PVR.unrn {w : World} {ps : Nat → Nat} {ρ : Nat → Nat} {u : AVal} {c : Value} (h : PVR w ps u c) : ∀ v, u = rn ρ v → PVR w ps v c := by
  induction h with
  | agg vs cs hl hv ih =>
    intro v hv'
    cases v <;> (try simp only [rn] at hv') <;> first | (cases hv'; done) | skip
    case agg us =>
      injection hv' with hv'
      subst hv'
      rw [rns_len] at hl
      exact .agg us cs hl fun i hi => ih i (by rw [rns_len]; exact hi) _ (rns_get ρ us i hi)
    case ls q c => cases c <;> simp [rn] at hv'
  | tup vs cs hl hv ih =>
    intro v hv'
    cases v <;> (try simp only [rn] at hv') <;> first | (cases hv'; done) | skip
    case tup us =>
      injection hv' with hv'
      subst hv'
      rw [rns_len] at hl
      exact .tup us cs hl fun i hi => ih i (by rw [rns_len]; exact hi) _ (rns_get ρ us i hi)
    case ls q c => cases c <;> simp [rn] at hv'
  | clo f fs cs gs ds h1 h2 hf hc ih1 ih2 =>
    intro v hv'
    cases v <;> (try simp only [rn] at hv') <;> first | (cases hv'; done) | skip
    case clo g a b =>
      injection hv' with e1 e2 e3
      subst e1; subst e2; subst e3
      rw [rns_len] at h1 h2
      exact .clo f a b gs ds h1 h2 (fun i hi => ih1 i (by rw [rns_len]; exact hi) _ (rns_get ρ a i hi)) (fun i hi => ih2 i (by rw [rns_len]; exact hi) _ (rns_get ρ b i hi))
    case ls q c => cases c <;> simp [rn] at hv'
  | iface t x c hx ih =>
    intro v hv'
    cases v <;> (try simp only [rn] at hv') <;> first | (cases hv'; done) | skip
    case iface t' x' =>
      injection hv' with e1 e2
      subst e1
      exact .iface t x' c (ih x' e2)
    case ls q c => cases c <;> simp [rn] at hv'
  | ls q b off cap cv k1 k2 k3 k4 k5 k6 k7 ih =>
    intro v hv'
    cases v <;> (try simp only [rn] at hv') <;> first | (cases hv'; done) | skip
    case ls q' c' =>
      cases c' <;> simp only [rn] at hv' <;> cases hv'
      exact .ls q b off cap cv k1 k2 k3 k4 k5 k6 k7
  | lse q a hq hf =>
    intro v hv'
    cases v <;> (try simp only [rn] at hv') <;> first | (cases hv'; done) | skip
    case ls q' c' =>
      cases c' <;> simp only [rn] at hv' <;> cases hv'
      exact .lse q a hq hf
  | lsnil q c hq hf hc =>
    intro v hv'
    cases v <;> (try simp only [rn] at hv') <;> first | (cases hv'; done) | skip
    case ls q' c' =>
      cases c' <;> simp only [rn] at hv' <;> cases hv'
      · exact .lsnil q _ hq hf (.inl rfl)
      · exact .lsnil q _ hq hf (.inr rfl)
      · rcases hc with hc | hc <;> cases hc
  | pp xs b off cv k1 k2 k3 ih =>
    intro v hv'
    cases v <;> (try simp only [rn] at hv') <;> first | (cases hv'; done) | skip
    case pp ys => cases hv'; exact .pp xs b off cv k1 k2 k3
    case ls q c => cases c <;> simp [rn] at hv'
  | bool b => intro v hv'; cases v <;> (try simp only [rn] at hv') <;> first | (cases hv'; first | exact .bool _ | done) | skip; (case ls q c => cases c <;> simp [rn] at hv')
  | int k n => intro v hv'; cases v <;> (try simp only [rn] at hv') <;> first | (cases hv'; first | exact .int _ _ | done) | skip; (case ls q c => cases c <;> simp [rn] at hv')
  | str s => intro v hv'; cases v <;> (try simp only [rn] at hv') <;> first | (cases hv'; first | exact .str _ | done) | skip; (case ls q c => cases c <;> simp [rn] at hv')
  | nilp => intro v hv'; cases v <;> (try simp only [rn] at hv') <;> first | (cases hv'; first | exact .nilp | done) | skip; (case ls q c => cases c <;> simp [rn] at hv')
  | nilf => intro v hv'; cases v <;> (try simp only [rn] at hv') <;> first | (cases hv'; first | exact .nilf | done) | skip; (case ls q c => cases c <;> simp [rn] at hv')
  | nili => intro v hv'; cases v <;> (try simp only [rn] at hv') <;> first | (cases hv'; first | exact .nili | done) | skip; (case ls q c => cases c <;> simp [rn] at hv')
  | und => intro v hv'; cases v <;> (try simp only [rn] at hv') <;> first | (cases hv'; first | exact .und | done) | skip; (case ls q c => cases c <;> simp [rn] at hv')
  | junk c => intro v hv'; cases v <;> (try simp only [rn] at hv') <;> first | (cases hv'; first | exact .junk _ | done) | skip; (case ls q c => cases c <;> simp [rn] at hv')
section
variable {e e' : Env} {ρ : Nat → Nat} {n : Nat}
/-- From the big heap to the small one. -/
theorem VR.unrn (hw : e'.w = e.w) (hps : e'.ps = e.ps) (hsg : ∀ i, i < n → e'.sg i = e.sg (ρ i)) (hh : ∀ i, i < n → e.h[ρ i]? = e'.h[i]?.map (rno ρ)) {u : AVal} {c : Value} (h : VR e u c) : ∀ v, u = rn ρ v → Go.AL.low n v = true → VR e' v c := by
  induction h with
  | pure v c h => intro v hv _; exact .pure _ _ (by rw [hw, hps]; exact h.unrn _ hv)
  | tok q i m c h ht =>
    intro v hv hl
    cases v <;> (try simp only [rn] at hv) <;> first | (cases hv; done) | skip
    case ls q' cp =>
      cases cp <;> simp only [rn] at hv <;> cases hv
      rename_i i'
      have hi : i' < n := by simpa [Go.AL.low] using hl
      refine .tok q i' m c (by rw [hw, hps]; exact h) ?_
      rw [hh i' hi] at ht
      revert ht
      cases e'.h[i']? with
      | none => exact fun h => h
      | some o =>
        cases o <;> simp only [Option.map_some, rno, tokAt] <;> first | exact id | skip
        intro ⟨h1, h2⟩
        refine ⟨h1, fun h3 => ?_⟩
        have h4 := h2 h3
        unfold endOK at h4 ⊢
        rw [hsg i' hi, hw, hps]
        exact h4
  | sl i g lo hi c h1 h =>
    intro v hv hl
    cases v <;> (try simp only [rn] at hv) <;> first | (cases hv; done) | skip
    case ls q' cp => cases cp <;> simp [rn] at hv
    case sl i' g' lo' hi' =>
      cases hv
      have hi2 : i' < n := by simpa [Go.AL.low] using hl
      refine .sl i' g lo hi c h1 ?_
      rw [hh i' hi2] at h
      revert h
      cases e'.h[i']? with
      | none => exact fun h => h
      | some o =>
        cases o <;> simp only [Option.map_some, rno, rwAt] <;> first | exact id | skip
        rw [hsg i' hi2, hw]
        exact id
  | ptr i off c h1 h =>
    intro v hv hl
    cases v <;> (try simp only [rn] at hv) <;> first | (cases hv; done) | skip
    case ls q' cp => cases cp <;> simp [rn] at hv
    case ptr i' off' =>
      cases hv
      have hi2 : i' < n := by simpa [Go.AL.low] using hl
      refine .ptr i' off c h1 ?_
      rw [hh i' hi2] at h
      revert h
      cases e'.h[i']? with
      | none => exact fun h => h
      | some o =>
        cases o <;> simp only [Option.map_some, rno, boxAt] <;> first | exact id | skip
        rw [hsg i' hi2, rns_len]
        exact id
  | pe i g ix off c h1 h =>
    intro v hv hl
    cases v <;> (try simp only [rn] at hv) <;> first | (cases hv; done) | skip
    case ls q' cp => cases cp <;> simp [rn] at hv
    case pe i' g' ix' off' =>
      cases hv
      have hi2 : i' < n := by simpa [Go.AL.low] using hl
      refine .pe i' g ix off c h1 ?_
      rw [hh i' hi2] at h
      revert h
      cases e'.h[i']? with
      | none => exact fun h => h
      | some o =>
        cases o <;> simp only [Option.map_some, rno, rwAt] <;> first | exact id | skip
        rw [hsg i' hi2]
        exact id
  | yld i c h1 h =>
    intro v hv hl
    cases v <;> (try simp only [rn] at hv) <;> first | (cases hv; done) | skip
    case ls q' cp => cases cp <;> simp [rn] at hv
    case yld i' =>
      cases hv
      have hi2 : i' < n := by simpa [Go.AL.low] using hl
      refine .yld i' c h1 ?_
      rw [hh i' hi2] at h
      revert h
      cases e'.h[i']? with
      | none => exact fun h => h
      | some o =>
        cases o <;> simp only [Option.map_some, rno, loopAt] <;> first | exact id | skip
        rw [hsg i' hi2]
        exact id
  | agg vs cs hl hv ih =>
    intro v hv' hlo
    cases v <;> (try simp only [rn] at hv') <;> first | (cases hv'; done) | skip
    case ls q' cp => cases cp <;> simp [rn] at hv'
    case agg us =>
      injection hv' with hv'
      subst hv'
      rw [rns_len] at hl
      exact .agg us cs hl fun i hi => ih i (by rw [rns_len]; exact hi) _ (rns_get ρ us i hi) (lows_get (by simpa [Go.AL.low] using hlo) i hi)
  | tup vs cs hl hv ih =>
    intro v hv' hlo
    cases v <;> (try simp only [rn] at hv') <;> first | (cases hv'; done) | skip
    case ls q' cp => cases cp <;> simp [rn] at hv'
    case tup us =>
      injection hv' with hv'
      subst hv'
      rw [rns_len] at hl
      exact .tup us cs hl fun i hi => ih i (by rw [rns_len]; exact hi) _ (rns_get ρ us i hi) (lows_get (by simpa [Go.AL.low] using hlo) i hi)
  | clo f fs cs gs ds h1 h2 hf hc ih1 ih2 =>
    intro v hv' hlo
    cases v <;> (try simp only [rn] at hv') <;> first | (cases hv'; done) | skip
    case ls q' cp => cases cp <;> simp [rn] at hv'
    case clo g a b =>
      injection hv' with e1 e2 e3
      subst e1; subst e2; subst e3
      rw [rns_len] at h1 h2
      unfold Go.AL.low at hlo
      split at hlo
      · rename_i ha
        exact .clo f a b gs ds h1 h2 (fun i hi => ih1 i (by rw [rns_len]; exact hi) _ (rns_get ρ a i hi) (lows_get ha i hi)) (fun i hi => ih2 i (by rw [rns_len]; exact hi) _ (rns_get ρ b i hi) (lows_get hlo i hi))
      · cases hlo
  | iface t x c hx ih =>
    intro v hv' hlo
    cases v <;> (try simp only [rn] at hv') <;> first | (cases hv'; done) | skip
    case ls q' cp => cases cp <;> simp [rn] at hv'
    case iface t' x' =>
      injection hv' with e1 e2
      subst e1
      exact .iface t x' c (ih x' e2 (by simpa [Go.AL.low] using hlo))
/-- From the small heap to the big one. -/
theorem VR.rn (hw : e'.w = e.w) (hps : e'.ps = e.ps) (hsg : ∀ i o, e.h[i]? = some o → e'.sg (ρ i) = e.sg i) (hh : ∀ i o, e.h[i]? = some o → e'.h[ρ i]? = some (rno ρ o)) {v : AVal} {c : Value} (h : VR e v c) : VR e' (Go.AL.rn ρ v) c := by
  induction h with
  | pure v c h =>
    have key : ∀ v c, PVR e.w e.ps v c → PVR e'.w e'.ps (Go.AL.rn ρ v) c := fun v c h => by
      induction h with
      | agg vs cs hl hv ih => exact .agg _ cs (by rw [rns_len]; exact hl) fun i hi => by rw [rns_len] at hi; rw [rns_get ρ vs i hi]; exact ih i hi
      | tup vs cs hl hv ih => exact .tup _ cs (by rw [rns_len]; exact hl) fun i hi => by rw [rns_len] at hi; rw [rns_get ρ vs i hi]; exact ih i hi
      | clo f fs cs gs ds h1 h2 hf hc ih1 ih2 =>
        exact .clo f _ _ gs ds (by rw [rns_len]; exact h1) (by rw [rns_len]; exact h2) (fun i hi => by rw [rns_len] at hi; rw [rns_get ρ fs i hi]; exact ih1 i hi) (fun i hi => by rw [rns_len] at hi; rw [rns_get ρ cs i hi]; exact ih2 i hi)
      | iface t x c hx ih => exact .iface t _ c ih
      | lsnil q c hq hf hc =>
        rcases hc with rfl | rfl
        · exact .lsnil q .any hq hf (.inl rfl)
        · exact .lsnil q .nil hq hf (.inr rfl)
      | lse q a hq hf => exact .lse q a hq hf
      | ls q b off cap cv k1 k2 k3 k4 k5 k6 k7 _ => rw [hw, hps]; exact .ls q b off cap cv k1 k2 k3 k4 k5 k6 k7
      | pp xs b off cv k1 k2 k3 _ => rw [hw, hps]; exact .pp xs b off cv k1 k2 k3
      | bool b => exact .bool b
      | int k n => exact .int k n
      | str s => exact .str s
      | nilp => exact .nilp
      | nilf => exact .nilf
      | nili => exact .nili
      | und => exact .und
      | junk c => exact .junk c
    exact .pure _ _ (key v c h)
  | tok q i m c h ht =>
    refine .tok q (ρ i) m c (by rw [hw, hps]; exact h) ?_
    unfold tokAt at ht
    split at ht
    · rename_i n' ho
      rw [hh i _ ho]
      refine ⟨ht.1, fun h3 => ?_⟩
      have h4 := ht.2 h3
      unfold endOK at h4 ⊢
      rw [hsg i _ ho, hw, hps]
      exact h4
    · rename_i n' ho
      rw [hh i _ ho]; exact ht
    · exact ht.elim
  | sl i g lo hi c h1 h =>
    refine .sl (ρ i) g lo hi c h1 ?_
    unfold rwAt at h
    split at h
    · rename_i g' q ho
      rw [hh i _ ho]
      show g ≤ g' ∧ _
      rw [hsg i _ ho, hw]; exact h
    · rename_i g' ho
      rw [hh i _ ho]; exact h
    · exact h.elim
  | ptr i off c h1 h =>
    refine .ptr (ρ i) off c h1 ?_
    unfold boxAt at h
    split at h
    · rename_i vs ho
      rw [hh i _ ho]
      show ∃ b, _
      rw [hsg i _ ho, rns_len]; exact h
    · rename_i g' ho
      rw [hh i _ ho]; trivial
    · exact h.elim
  | pe i g ix off c h1 h =>
    refine .pe (ρ i) g ix off c h1 ?_
    unfold rwAt at h
    split at h
    · rename_i g' q ho
      rw [hh i _ ho]
      show g ≤ g' ∧ _
      rw [hsg i _ ho]; exact h
    · rename_i g' ho
      rw [hh i _ ho]; exact h
    · exact h.elim
  | agg vs cs hl hv ih => exact .agg _ cs (by rw [rns_len]; exact hl) fun i hi => by rw [rns_len] at hi; rw [rns_get ρ vs i hi]; exact ih i hi
  | tup vs cs hl hv ih => exact .tup _ cs (by rw [rns_len]; exact hl) fun i hi => by rw [rns_len] at hi; rw [rns_get ρ vs i hi]; exact ih i hi
  | clo f fs cs gs ds h1 h2 hf hc ih1 ih2 =>
    exact .clo f _ _ gs ds (by rw [rns_len]; exact h1) (by rw [rns_len]; exact h2) (fun i hi => by rw [rns_len] at hi; rw [rns_get ρ fs i hi]; exact ih1 i hi) (fun i hi => by rw [rns_len] at hi; rw [rns_get ρ cs i hi]; exact ih2 i hi)
  | yld i c h1 h =>
    refine .yld (ρ i) c h1 ?_
    unfold loopAt at h
    split at h
    · rename_i r ho
      rw [hh i _ ho]
      show ∃ l, _
      rw [hsg i _ ho]; exact h
    · rename_i g' ho
      rw [hh i _ ho]; trivial
    · exact h.elim
  | iface t v c h ih => exact .iface t _ c ih
end
theorem etaR_low {s : Sh} {x : AVal} (hs : shPure s = true) (hf : etaR s x = x) (n : Nat) : Go.AL.low n x = true := by rw [← hf]; exact eta_low n s x hs
theorem VR.of_low {e e' : Env} (hw : e'.w = e.w) (hps : e'.ps = e.ps) {v : AVal} {c : Value} (hl : Go.AL.low 0 v = true) (h : VR e v c) : VR e' v c := by
  have h6 : PVR e.w e.ps v c := VR.pureOf (e := { e with h := e.h.take 0 }) (h.low hl) (by simp)
  exact .pure _ _ (by rw [hw, hps]; exact h6)
/-- An object's block is one that there is. -/
theorem ObjOK.lt {e : Env} {i b : Nat} {o : AObj} (h : ObjOK e i o) (hl : o.live = true) (hb : e.sg i = some b) : b < e.w.heap.size := by
  cases o with
  | box vs => obtain ⟨b', cs, el, k1, k2, _⟩ := h; obtain rfl : b = b' := by rw [hb] at k1; exact Option.some.inj k1
              exact (Array.getElem?_eq_some_iff.1 k2).1
  | rw g q =>
    rcases h with ⟨_, k1⟩ | ⟨b', cs, el, k1, k2, _⟩
    · rw [hb] at k1; cases k1
    · obtain rfl : b = b' := by rw [hb] at k1; exact Option.some.inj k1
      exact (Array.getElem?_eq_some_iff.1 k2).1
  | tok n => obtain ⟨cs, el, k2⟩ := h b hb; exact (Array.getElem?_eq_some_iff.1 k2).1
  | loop r => obtain ⟨b', r2, k1, k2, _⟩ := h; obtain rfl : b = b' := by rw [hb] at k1; exact Option.some.inj k1
              exact (Array.getElem?_eq_some_iff.1 k2).1
  | dead g => cases hl
theorem rho_inj {l : List Nat} {N : Nat} (hnd : l.Nodup) (hlt : ∀ x ∈ l, x < N) {i j : Nat} (h : rho l N i = rho l N j) : i = j := by
  have lt : ∀ i, i < l.length → rho l N i = l.getD i 0 ∧ rho l N i < N := fun i hi => by
    rw [rho_lt N l i hi]
    refine ⟨rfl, hlt _ ?_⟩
    simp [List.getD, hi]
  by_cases hi : i < l.length <;> by_cases hj : j < l.length
  · obtain ⟨a, _⟩ := lt i hi
    obtain ⟨b, _⟩ := lt j hj
    rw [a, b] at h
    simp only [List.getD, List.getElem?_eq_getElem hi, List.getElem?_eq_getElem hj, Option.getD_some] at h
    exact (List.getElem_inj hnd).1 h
  · have := (lt i hi).2
    rw [h, rho_ge N l j (by omega)] at this
    omega
  · have := (lt j hj).2
    rw [← h, rho_ge N l i (by omega)] at this
    omega
  · rw [rho_ge N l i (by omega), rho_ge N l j (by omega)] at h
    omega
open Classical in
/-- Which object of the small heap lies there. -/
noncomputable def inv (ρ : Nat → Nat) (k : Nat) : Option Nat := if h : ∃ i, ρ i = k then some (Classical.choose h) else none
theorem inv_at {ρ : Nat → Nat} (hi : ∀ i j, ρ i = ρ j → i = j) (i : Nat) : inv ρ (ρ i) = some i := by
  have h : ∃ j, ρ j = ρ i := ⟨i, rfl⟩
  unfold inv
  rw [dif_pos h]
  exact congrArg some (hi _ _ (Classical.choose_spec h))
theorem inv_no {ρ : Nat → Nat} {k : Nat} (h : ∀ i, ρ i ≠ k) : inv ρ k = none := by
  unfold inv
  rw [dif_neg (by rintro ⟨i, hi⟩; exact h i hi)]
/-- A CONTRACT ELSEWHERE. -/
theorem Does.ren {P : Program} {f : FuncId} {args : List AVal} {h : Heap} {R : AVal → Heap → Prop} (hd : Does P f args h R) (l : List Nat) (H : Heap) (hl : l.length = h.length) (hnd : l.Nodup) (hlt : ∀ x ∈ l, x < H.length)
    (hH : hasH (rho l H.length) H 0 h) (ha : lows h.length args = true) (hlo : lowOs h.length h = true) (hR : ∀ r h', R r h' → rwPure h' = true) :
    Does P f (rns (rho l H.length) args) H (fun r' H' => ∃ r h', R r h' ∧ r' = Go.AL.rn (rho l H.length) r ∧ H' = putH l H (rnos (rho l H.length) h')) := by
  obtain ⟨N, hN⟩ : ∃ N, N = H.length := ⟨_, rfl⟩
  obtain ⟨ρ, hρ⟩ : ∃ ρ, ρ = rho l N := ⟨_, rfl⟩
  rw [← hN, ← hρ] at hH ⊢
  rw [← hN] at hlt
  have hinj : ∀ i j, ρ i = ρ j → i = j := fun i j h => by rw [hρ] at h; exact rho_inj hnd hlt h
  have hρlt : ∀ i, i < h.length → ρ i < N := fun i hi => by
    rw [hρ, rho_lt N l i (by omega)]
    refine hlt _ ?_
    simp [List.getD, show i < l.length by omega]
  have hρge : ∀ i, h.length ≤ i → ρ i = N + (i - h.length) := fun i hi => by rw [hρ, rho_ge N l i (by omega), hl]
  have hno : ∀ k, (∀ i, ρ i ≠ k) → k < N ∧ k ∉ l := fun k hk => by
    refine ⟨Nat.lt_of_not_le fun hge => hk (h.length + (k - N)) (by rw [hρge _ (by omega)]; omega), fun hm => ?_⟩
    obtain ⟨i, hi, he⟩ := List.mem_iff_getElem.1 hm
    refine hk i ?_
    rw [hρ, rho_lt N l i hi]
    simp [List.getD, hi, he]
  refine ⟨hd.1, fun e cs hg he hargs => ?_⟩
  subst he
  have hHs : ∀ (i : Nat) o, h[i]? = some o → e.h[ρ i]? = some (rno ρ o) := fun i o hi => by
    have := hasH_get hH i o hi
    rwa [Nat.zero_add] at this
  let es : Env := ⟨e.w, fun i => e.sg (ρ i), h, e.ps⟩
  have down : ∀ v c, VR e (Go.AL.rn ρ v) c → Go.AL.low h.length v = true → VR es v c := fun v c hv hlow =>
    VR.unrn (e := e) (e' := es) (n := h.length) rfl rfl (fun i _ => rfl) (fun i hi => by
      show e.h[ρ i]? = h[i]?.map (rno ρ)
      rw [List.getElem?_eq_getElem hi]
      exact hHs i _ (List.getElem?_eq_getElem hi)) hv v rfl hlow
  have hgs : Good es := by
    refine ⟨fun i o hi => ?_, fun i j oi oj b hi hil hj hjl si sj => ?_, hg.ps⟩
    · have hi : h[i]? = some o := hi
      have hb := hg.obj _ _ (hHs i o hi)
      have hlo1 := lowOs_get hlo i o hi
      cases o with
      | box vs =>
        obtain ⟨b, c, el, h1, h2, h3, h4, h5⟩ := hb
        rw [rns_len] at h3 h5
        refine ⟨b, c, el, h1, h2, h3, h4, fun j hj => ?_⟩
        have := h5 j hj
        rw [rns_get ρ vs j hj] at this
        exact down _ _ this (lows_get hlo1 j hj)
      | rw g q =>
        rcases hb with h1 | ⟨b, c, el, h1, h2, h3, h4, h5, h6, h7⟩
        · exact .inl h1
        · refine .inr ⟨b, c, el, h1, h2, h3, h4, h5, h6, fun i j hi hj => ⟨VR.of_low (e := e) (e' := es) rfl rfl ?_ (h7 i j hi hj).1, (h7 i j hi hj).2⟩⟩
          have hc := h6 i hi
          cases q with
          | nl => simp [LX.n, LX.toL] at hi
          | il k l =>
            simp only [LX.n, LX.toL, List.length_map] at hi
            simp only [LX.k] at hj
            have : j = 0 := by omega
            subst this
            simp [LX.at_, LX.toL, List.getD, hi, AVal.cells, Go.AL.low]
          | gl s xs =>
            simp only [LX.n, LX.toL] at hi
            have hx : (LX.gl s xs).at_ i ∈ xs := by simp [LX.at_, LX.toL, List.getD, hi]
            exact lows_get (low_cells (etaR_low hlo1 (h5 _ hx) 0)) j (by rw [hc]; exact hj)
      | tok n => exact hb
      | loop r =>
        obtain ⟨b, r2, h1, h2, h3, h4⟩ := hb
        refine ⟨b, r2, h1, h2, h3, fun t => ?_⟩
        have := h4 t
        simp only [rnl_get] at this
        exact down _ _ this (lowL_get hlo1 t)
      | dead g => trivial
    · have hi : h[i]? = some oi := hi
      have hj : h[j]? = some oj := hj
      exact hinj _ _ (hg.inj (ρ i) (ρ j) _ _ b (hHs i oi hi) (by rw [rno_live]; exact hil) (hHs j oj hj) (by rw [rno_live]; exact hjl) si sj)
  have has : ArgsR es args cs := by
    refine ⟨by have := hargs.len; rwa [rns_len] at this, fun i hi => ?_⟩
    have := hargs.rel i (by rw [rns_len]; exact hi)
    rw [rns_get ρ args i hi] at this
    exact down _ _ this (lows_get ha i hi)
  refine Calls.mono (hd.2 es cs hgs rfl has) fun en w' hp => ?_
  cases en with
  | returned c =>
    obtain ⟨r, e1, hRr, hw, hg1, hv1, hu1, hx1⟩ := hp
    have hpure := hR _ _ hRr
    have hlen1 : h.length ≤ e1.h.length := by
      rcases Nat.eq_zero_or_pos h.length with h0 | h0
      · omega
      · obtain ⟨o', h1, _⟩ := hx1.obj (h.length - 1) (h[h.length - 1]) (by show h.length - 1 < h.length; omega) (by show h[h.length - 1]? = _; rw [List.getElem?_eq_getElem (by omega)])
        have := (List.getElem?_eq_some_iff.1 h1).1
        omega
    let sgb : Nat → Option Nat := fun k => match inv ρ k with
      | some i => e1.sg i
      | none => e.sg k
    have sg_at : ∀ i, sgb (ρ i) = e1.sg i := fun i => by simp only [sgb, inv_at hinj]
    have sg_no : ∀ k, (∀ i, ρ i ≠ k) → sgb k = e.sg k := fun k hk => by simp only [sgb, inv_no hk]
    let eb : Env := ⟨e1.w, sgb, putH l e.h (rnos ρ e1.h), e1.ps⟩
    have hb_at : ∀ i, eb.h[ρ i]? = e1.h[i]?.map (rno ρ) := fun i => by
      show (putH l e.h (rnos ρ e1.h))[ρ i]? = _
      rw [hρ, hN, putH_at l e.h _ hnd (by rw [← hN]; exact hlt) (by rw [rnos_len]; omega), ← hN, ← hρ, rnos_get]
    have hb_no : ∀ k, (∀ i, ρ i ≠ k) → eb.h[k]? = e.h[k]? := fun k hk => by
      obtain ⟨h1, h2⟩ := hno k hk
      exact putH_other l e.h _ k (by omega) h2
    have look : ∀ (k : Nat) o, eb.h[k]? = some o → (∃ i o', ρ i = k ∧ e1.h[i]? = some o' ∧ o = rno ρ o') ∨ ((∀ i, ρ i ≠ k) ∧ e.h[k]? = some o) := fun k o hk => by
      by_cases hex : ∃ i, ρ i = k
      · obtain ⟨i, rfl⟩ := hex
        rw [hb_at] at hk
        cases h1 : e1.h[i]? with
        | none => rw [h1] at hk; cases hk
        | some o' =>
          rw [h1] at hk
          cases hk
          exact .inl ⟨i, o', rfl, h1, rfl⟩
      · have hex' : ∀ i, ρ i ≠ k := fun i hi => hex ⟨i, hi⟩
        rw [hb_no k hex'] at hk
        exact .inr ⟨hex', hk⟩
    have up : ∀ v c, VR e1 v c → VR eb (Go.AL.rn ρ v) c := fun v c hv => VR.rn (e := e1) (e' := eb) rfl rfl (fun i o _ => sg_at i) (fun i o ho => by rw [hb_at, ho]; rfl) hv
    have ownS : ∀ b, Owned es b → Owned e b := fun b ⟨i, o, h1, h2, h3⟩ => ⟨ρ i, _, hHs i o h1, by rw [rno_live]; exact h2, h3⟩
    -- an object elsewhere is nobody's of the small heap
    have apart : ∀ (k : Nat) o b, (∀ i, ρ i ≠ k) → e.h[k]? = some o → o.live = true → e.sg k = some b → ¬ Owned es b := fun k o b hk ho hlv hs ⟨i, oi, h1, h2, h3⟩ =>
      hk i (hg.inj (ρ i) k _ o b (hHs i oi h1) (by rw [rno_live]; exact h2) ho hlv h3 hs)
    have fr : ∀ (k : Nat) o b, (∀ i, ρ i ≠ k) → e.h[k]? = some o → o.live = true → e.sg k = some b → e1.w.heap[b]? = e.w.heap[b]? ∧ e1.ps b = e.ps b := fun k o b hk ho hlv hs =>
      hu1.frame b ((hg.obj k o ho).lt hlv hs) (apart k o b hk ho hlv hs)
    have hext : Ext N e eb := by
      refine ⟨fun k o hk ho => ?_, hx1.ps, hx1.cell, hx1.size⟩
      by_cases hex : ∃ i, ρ i = k
      · obtain ⟨i, rfl⟩ := hex
        have hi : i < h.length := Nat.lt_of_not_le fun hge => by have := hρge i hge; omega
        obtain ⟨o1, h1, hm⟩ := hx1.obj i h[i] hi (List.getElem?_eq_getElem hi)
        have h2 := hHs i _ (List.getElem?_eq_getElem hi)
        rw [h2] at ho
        cases ho
        refine ⟨rno ρ o1, by rw [hb_at, h1]; rfl, ?_⟩
        generalize h[i] = o0 at hm
        cases o0 <;> cases o1 <;> simp only [OMono, rno] at hm ⊢ <;> first | exact hm | skip
        · exact ⟨(sg_at i).trans hm.1, by rw [rns_len, rns_len]; exact hm.2⟩
        · exact ⟨hm.1, fun h => ⟨(sg_at i).trans (hm.2 h).1, (hm.2 h).2⟩⟩
        · exact ⟨hm.1, fun h => ⟨(sg_at i).trans (hm.2 h).1, (hm.2 h).2⟩⟩
        · exact (sg_at i).trans hm
      · have hex' : ∀ i, ρ i ≠ k := fun i hi => hex ⟨i, hi⟩
        refine ⟨o, by rw [hb_no k hex']; exact ho, ?_⟩
        have hs := sg_no k hex'
        cases o with
        | box vs => exact ⟨hs, rfl⟩
        | rw g q => exact ⟨Nat.le_refl _, fun _ => ⟨hs, rfl, rfl⟩⟩
        | tok n => exact ⟨Nat.le_refl _, fun _ => ⟨hs, fun b hb => (fr k _ b hex' ho rfl hb).2⟩⟩
        | loop r => exact hs
        | dead g => exact Nat.le_refl _
    have mono : ∀ v c, VR e v c → VR eb v c := fun v c hv => hv.mono (by omega) hext
    refine ⟨Go.AL.rn ρ r, eb, ⟨r, e1.h, hRr, rfl, rfl⟩, hw, ⟨fun k o hk => ?_, fun k m ok om b hk hkl hm hml sk sm => ?_, hg1.ps⟩, up _ _ hv1, ⟨hu1.os, hu1.tape, hu1.output, hu1.size, fun b hb hno' => hu1.frame b hb (fun h => hno' (ownS b h)), fun b ⟨k, o, hk, hlv, hs⟩ => ?_⟩, hN ▸ hext⟩
    · rcases look k o hk with ⟨i, o', rfl, h1, rfl⟩ | ⟨hex, h1⟩
      · have hob := hg1.obj i o' h1
        cases o' with
        | box vs =>
          obtain ⟨b, c, el, k1, k2, k3, k4, k5⟩ := hob
          refine ⟨b, c, el, (sg_at i).trans k1, k2, by rw [rns_len]; exact k3, k4, fun j hj => ?_⟩
          rw [rns_len] at hj
          rw [rns_get ρ vs j hj]
          exact up _ _ (k5 j hj)
        | rw g q =>
          rcases hob with ⟨k1, k2⟩ | ⟨b, c, el, k1, k2, k3, k4, k5, k6, k7⟩
          · exact .inl ⟨k1, (sg_at i).trans k2⟩
          · refine .inr ⟨b, c, el, (sg_at i).trans k1, k2, k3, k4, k5, k6, fun x j hx hj => ⟨VR.of_low (e := e1) (e' := eb) rfl rfl ?_ (k7 x j hx hj).1, (k7 x j hx hj).2⟩⟩
            have hc := k6 x hx
            cases q with
            | nl => simp [LX.n, LX.toL] at hx
            | il k l =>
              simp only [LX.n, LX.toL, List.length_map] at hx
              simp only [LX.k] at hj
              have : j = 0 := by omega
              subst this
              simp [LX.at_, LX.toL, List.getD, hx, AVal.cells, Go.AL.low]
            | gl s xs =>
              simp only [LX.n, LX.toL] at hx
              have hxm : (LX.gl s xs).at_ x ∈ xs := by simp [LX.at_, LX.toL, List.getD, hx]
              exact lows_get (low_cells (etaR_low (rwPure_get hpure i g s xs h1) (k5 _ hxm) 0)) j (by rw [hc]; exact hj)
        | tok n => intro b hb; rw [show (eb.sg (ρ i)) = e1.sg i from sg_at i] at hb; exact hob b hb
        | loop r =>
          obtain ⟨b, r2, k1, k2, k3, k4⟩ := hob
          refine ⟨b, r2, (sg_at i).trans k1, k2, k3, fun t => ?_⟩
          simp only [rnl_get]
          exact up _ _ (k4 t)
        | dead g => trivial
      · have hob := hg.obj k o h1
        have hs := sg_no k hex
        cases o with
        | box vs =>
          obtain ⟨b, c, el, k1, k2, k3, k4, k5⟩ := hob
          obtain ⟨f1, f2⟩ := fr k _ b hex h1 rfl k1
          exact ⟨b, c, el, hs.trans k1, f1.trans k2, k3, f2.trans k4, fun j hj => mono _ _ (k5 j hj)⟩
        | rw g q =>
          rcases hob with ⟨k1, k2⟩ | ⟨b, c, el, k1, k2, k3, k4, k5, k6, k7⟩
          · exact .inl ⟨k1, hs.trans k2⟩
          · obtain ⟨f1, f2⟩ := fr k _ b hex h1 rfl k1
            exact .inr ⟨b, c, el, hs.trans k1, f1.trans k2, k3, f2.trans k4, k5, k6, fun x j hx hj => ⟨mono _ _ (k7 x j hx hj).1, (k7 x j hx hj).2⟩⟩
        | tok n =>
          intro b hb
          rw [show eb.sg k = e.sg k from hs] at hb
          obtain ⟨c, el, k2⟩ := hob b hb
          exact ⟨c, el, (fr k _ b hex h1 rfl hb).1.trans k2⟩
        | loop r =>
          obtain ⟨b, r2, k1, k2, k3, k4⟩ := hob
          exact ⟨b, r2, hs.trans k1, (fr k _ b hex h1 rfl k1).1.trans k2, k3, fun t => mono _ _ (k4 t)⟩
        | dead g => trivial
    · have mixed : ∀ (i m : Nat) o' om, e1.h[i]? = some o' → o'.live = true → e1.sg i = some b → (∀ j, ρ j ≠ m) → e.h[m]? = some om → om.live = true → e.sg m = some b → False := fun i m o' om h1 h2 h3 h4 h5 h6 h7 => by
        rcases hu1.own b ⟨i, o', h1, h2, h3⟩ with h8 | h8
        · exact apart m om b h4 h5 h6 h7 h8
        · have := (hg.obj m om h5).lt h6 h7
          have h8 : e.w.heap.size ≤ b := h8
          omega
      rcases look k ok hk with ⟨i, oi, rfl, hi, rfl⟩ | ⟨hex1, hk'⟩ <;> rcases look m om hm with ⟨j, oj, rfl, hj, rfl⟩ | ⟨hex2, hm'⟩
      · rw [show eb.sg (ρ i) = e1.sg i from sg_at i] at sk
        rw [show eb.sg (ρ j) = e1.sg j from sg_at j] at sm
        rw [rno_live] at hkl hml
        rw [hg1.inj i j oi oj b hi hkl hj hml sk sm]
      · rw [show eb.sg (ρ i) = e1.sg i from sg_at i] at sk
        rw [show eb.sg m = e.sg m from sg_no m hex2] at sm
        rw [rno_live] at hkl
        exact (mixed i m oi om hi hkl sk hex2 hm' hml sm).elim
      · rw [show eb.sg k = e.sg k from sg_no k hex1] at sk
        rw [show eb.sg (ρ j) = e1.sg j from sg_at j] at sm
        rw [rno_live] at hml
        exact (mixed j k oj ok hj hml sm hex1 hk' hkl sk).elim
      · rw [show eb.sg k = e.sg k from sg_no k hex1] at sk
        rw [show eb.sg m = e.sg m from sg_no m hex2] at sm
        exact hg.inj k m ok om b hk' hkl hm' hml sk sm
    · rcases look k o hk with ⟨i, oi, rfl, hi, rfl⟩ | ⟨hex1, hk'⟩
      · rw [show eb.sg (ρ i) = e1.sg i from sg_at i] at hs
        rw [rno_live] at hlv
        rcases hu1.own b ⟨i, oi, hi, hlv, hs⟩ with h8 | h8
        · exact .inl (ownS b h8)
        · exact .inr h8
      · rw [show eb.sg k = e.sg k from sg_no k hex1] at hs
        exact .inl ⟨k, o, hk', hlv, hs⟩
  | _ => exact hp.elim
/-- .. where one result is told. -/
theorem Does.renI {P : Program} {f : FuncId} {args args' : List AVal} {h h' H H' : Heap} {r r' : AVal} (hd : Does P f args h (Is r h')) (l : List Nat) (hl : l.length = h.length) (hnd : l.Nodup) (hlt : l.all (fun x => Nat.blt x H.length) = true)
    (hH : hasH (rho l H.length) H 0 h) (ha : lows h.length args = true) (hlo : lowOs h.length h = true) (hR : rwPure h' = true) (ea : rns (rho l H.length) args = args') (er : Go.AL.rn (rho l H.length) r = r') (eh : putH l H (rnos (rho l H.length) h') = H') :
    Does P f args' H (Is r' H') := by
  subst ea; subst er; subst eh
  refine (hd.ren l H hl hnd (fun x hx => by simpa [Nat.blt_eq] using List.all_eq_true.1 hlt x hx) hH ha hlo (fun r1 h1 ⟨e1, e2⟩ => by subst e2; exact hR)).mono ?_
  rintro r1 h1 ⟨r2, h2, ⟨e1, e2⟩, e3, e4⟩
  subst e1; subst e2
  exact ⟨e3, e4⟩
end Go.AL
