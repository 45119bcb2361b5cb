/-
  AL: lists behind their shapes: what the hooks' functions come to.
-/
import Derived.Test.YtnnpookoencpnaaAlRel
namespace Go.AL
open Go

theorem IntKind.same_eq {a b : IntKind} (h : IntKind.same a b = true) : a = b := by
  cases a <;> cases b <;> first | rfl | (simp [IntKind.same] at h)
theorem IntKind.same_refl (a : IntKind) : IntKind.same a a = true := by cases a <;> rfl
mutual
theorem Sh.same_eq : ∀ {a b : Sh}, Sh.same a b = true → a = b
  | .int a, .int b, h => by simp only [Sh.same] at h; rw [IntKind.same_eq h]
  | .bool, .bool, _ => rfl
  | .str, .str, _ => rfl
  | .li a, .li b, h => by simp only [Sh.same] at h; rw [IntKind.same_eq h]
  | .lg a, .lg b, h => by simp only [Sh.same] at h; rw [Sh.same_eq h]
  | .rc a, .rc b, h => by simp only [Sh.same] at h; rw [Sh.sames_eq h]
  | .any, .any, _ => rfl
  | .int _, .bool, h | .int _, .str, h | .int _, .li _, h | .int _, .lg _, h | .int _, .rc _, h | .int _, .any, h => by simp [Sh.same] at h
  | .bool, .int _, h | .bool, .str, h | .bool, .li _, h | .bool, .lg _, h | .bool, .rc _, h | .bool, .any, h => by simp [Sh.same] at h
  | .str, .int _, h | .str, .bool, h | .str, .li _, h | .str, .lg _, h | .str, .rc _, h | .str, .any, h => by simp [Sh.same] at h
  | .li _, .int _, h | .li _, .bool, h | .li _, .str, h | .li _, .lg _, h | .li _, .rc _, h | .li _, .any, h => by simp [Sh.same] at h
  | .lg _, .int _, h | .lg _, .bool, h | .lg _, .str, h | .lg _, .li _, h | .lg _, .rc _, h | .lg _, .any, h => by simp [Sh.same] at h
  | .rc _, .int _, h | .rc _, .bool, h | .rc _, .str, h | .rc _, .li _, h | .rc _, .lg _, h | .rc _, .any, h => by simp [Sh.same] at h
  | .any, .int _, h | .any, .bool, h | .any, .str, h | .any, .li _, h | .any, .lg _, h | .any, .rc _, h => by simp [Sh.same] at h
theorem Sh.sames_eq : ∀ {a b : List Sh}, Sh.sames a b = true → a = b
  | [], [], _ => rfl
  | a :: x, b :: y, h => by
    simp only [Sh.sames] at h
    cases hs : Sh.same a b <;> rw [hs] at h
    · cases h
    · rw [Sh.same_eq hs, Sh.sames_eq h]
  | [], _ :: _, h => by simp [Sh.sames] at h
  | _ :: _, [], h => by simp [Sh.sames] at h
end
theorem etasR_shsOf (vs : List AVal) (ih : ∀ v ∈ vs, etaR (shOf v) v = v) : ∀ (l : List AVal) (j : Nat), (∀ i, l[i]? = vs[j + i]?) → etasR (shsOf l) j (.agg vs) = l
  | [], _, _ => rfl
  | v :: r, j, h => by
    have h0 := h 0
    simp at h0
    have hv : v ∈ vs := List.mem_of_getElem? h0.symm
    simp only [shsOf, etasR, rFc, AVal.cells]
    rw [show vs.getD j .junk = v by simp [List.getD, ← h0], ih v hv, etasR_shsOf vs ih r (j + 1) (fun i => by have := h (i + 1); simpa [Nat.add_assoc, Nat.add_comm 1 i] using this)]
theorem etaR_shOf : ∀ (v : AVal), etaR (shOf v) v = v
  | .bool _ => rfl
  | .int _ _ => rfl
  | .str _ => rfl
  | .ls .nl c => by cases c <;> rfl
  | .ls (.il k l) c => by cases c <;> rfl
  | .ls (.gl s l) c => by cases c <;> rfl
  | .sl .. => rfl
  | .ptr .. => rfl
  | .pe .. => rfl
  | .pp _ => rfl
  | .nilp => rfl
  | .agg vs => by
    simp only [shOf, etaR]
    rw [etasR_shsOf vs (fun v hv => etaR_shOf v) vs 0 (fun i => by simp)]
  | .tup _ => rfl
  | .clo .. => rfl
  | .nilf => rfl
  | .yld _ => rfl
  | .iface .. => rfl
  | .nili => rfl
  | .und => rfl
  | .junk => rfl
termination_by v => SizeOf.sizeOf v
decreasing_by
  have := List.sizeOf_lt_of_mem hv
  simp
  omega
theorem shsOf_length : ∀ (l : List AVal), (shsOf l).length = l.length
  | [] => rfl
  | _ :: r => by simp [shsOf, shsOf_length r]
theorem shOf_k (v : AVal) : (shOf v).k = v.cells.length := by
  cases v with
  | agg vs => simp [shOf, Sh.k, AVal.cells, shsOf_length]
  | ls q c => cases q <;> cases c <;> rfl
  | _ => rfl

section
variable {p : Pr} (hp : DataOK p)
include hp
theorem set_real {q q' : LX} {i : Int} {v : AVal} (h : q.set p i v = some q') : q'.toL = q.toL.set i.toNat v ∧ q'.k = q.k ∧ (q.fit → q'.fit) := by
  cases q with
  | nl => simp [LX.set] at h
  | il k l =>
    cases v <;> simp only [LX.set] at h <;> try cases h
    split at h
    · rename_i hk
      obtain rfl := IntKind.same_eq hk
      cases h
      refine ⟨?_, rfl, fun _ => trivial⟩
      simp [LX.toL, hp.stI, List.map_set]
    · cases h
  | gl s xs =>
    simp only [LX.set] at h
    split at h
    · rename_i hk
      have hk := Sh.same_eq hk
      cases h
      refine ⟨by simp [LX.toL, hp.stG], rfl, fun hf x hx => ?_⟩
      simp only [hp.stG] at hx
      rcases List.mem_or_eq_of_mem_set hx with hx | hx
      · exact hf x hx
      · rw [hx, hk]; exact etaR_shOf v
    · cases h
theorem app_real {q r s : LX} (h : q.app p r = some s) : s.toL = q.toL ++ r.toL ∧ (q.fit → r.fit → s.fit) ∧ (∀ z, q.kOK z = true → r.kOK z = true → s.kOK z = true) ∧ (q ≠ .nl → s.k = q.k) := by
  unfold LX.app at h
  split at h
  · cases h; exact ⟨rfl, fun _ h => h, fun _ _ h => h, fun h => absurd rfl h⟩
  · cases h; exact ⟨by simp [LX.toL], fun h _ => h, fun _ h _ => h, fun _ => rfl⟩
  · rename_i k l k' m
    split at h
    · rename_i hk
      obtain rfl := IntKind.same_eq hk
      cases h
      exact ⟨by simp [LX.toL, hp.apI], fun _ _ => trivial, fun _ h _ => h, fun _ => rfl⟩
    · cases h
  · rename_i s1 xs s2 ys
    split at h
    · rename_i hk
      obtain rfl := Sh.same_eq hk
      cases h
      refine ⟨by simp [LX.toL, hp.apG], fun h1 h2 x hx => ?_, fun _ h _ => h, fun _ => rfl⟩
      simp only [hp.apG, List.mem_append] at hx
      exact hx.elim (h1 x) (h2 x)
    · cases h
  · cases h
theorem sub_real (q : LX) (a b : Int) : (q.sub p a b).toL = rSub q.toL a b ∧ (q.fit → (q.sub p a b).fit) ∧ (q.sub p a b).k = q.k ∧ (∀ z, (q.sub p a b).kOK z = q.kOK z) := by
  cases q with
  | nl => exact ⟨by simp [LX.sub, LX.toL, rSub], fun _ => trivial, rfl, fun _ => rfl⟩
  | il k l => exact ⟨by simp [LX.sub, LX.toL, rSub, hp.sbI, List.map_take, List.map_drop], fun _ => trivial, rfl, fun _ => rfl⟩
  | gl s xs =>
    refine ⟨by simp [LX.sub, LX.toL, hp.sbG], fun h x hx => ?_, rfl, fun _ => rfl⟩
    simp only [hp.sbG, rSub] at hx
    exact h x (List.mem_of_mem_drop (List.mem_of_mem_take hx))
theorem rep_real (n : Int) (v : AVal) : (repLX p n v).toL = List.replicate n.toNat v ∧ (repLX p n v).fit ∧ (repLX p n v).k = v.cells.length := by
  unfold repLX
  split
  · exact ⟨by simp [LX.toL, hp.rpI], trivial, rfl⟩
  · refine ⟨by simp [LX.toL, hp.rpG], fun x hx => ?_, shOf_k v⟩
    simp only [hp.rpG] at hx
    rw [List.eq_of_mem_replicate hx]
    exact etaR_shOf v
end
theorem intsOf_spec {k : IntKind} : ∀ {l : List AVal} {m : List Int}, intsOf k l = some m → l = m.map (.int k)
  | [], m, h => by cases h; rfl
  | v :: r, m, h => by
    unfold intsOf at h
    split at h
    · cases ‹_ :: _ = []›
    · rename_i k' n r' heq
      cases heq
      split at h
      · rename_i hk
        obtain rfl := IntKind.same_eq hk
        split at h
        · rename_i l' hl
          cases h
          rw [intsOf_spec hl]
          rfl
        · cases h
      · cases h
    · cases h
theorem allSh_spec {s : Sh} : ∀ {l : List AVal}, allSh s l = true → ∀ x ∈ l, shOf x = s
  | [], _, x, hx => by cases hx
  | v :: r, h, x, hx => by
    unfold allSh at h
    cases hs : Sh.same s (shOf v) <;> rw [hs] at h
    · cases h
    · rcases List.mem_cons.1 hx with rfl | hx
      · exact (Sh.same_eq hs).symm
      · exact allSh_spec h x hx
theorem mkLX_spec {l : List AVal} {q : LX} (h : mkLX l = some q) : q.toL = l ∧ q.fit ∧ ∀ x ∈ l, x.cells.length = q.k := by
  unfold mkLX at h
  split at h
  · cases h; exact ⟨rfl, trivial, fun x hx => by cases hx⟩
  · rename_i k n r
    split at h
    · rename_i m hm
      cases h
      have := intsOf_spec hm
      refine ⟨this.symm, trivial, fun x hx => ?_⟩
      rw [this] at hx
      obtain ⟨a, _, rfl⟩ := List.mem_map.1 hx
      rfl
    · cases h
  · rename_i v r _
    split at h
    · rename_i hs
      cases h
      have := allSh_spec hs
      refine ⟨rfl, fun x hx => ?_, fun x hx => ?_⟩
      · rw [← this x hx]; exact etaR_shOf x
      · rw [← shOf_k x, this x hx]; rfl
    · cases h
theorem kOK_k {q : LX} {z : Nat} (h : q.kOK z = true) : q.toL = [] ∨ q.k = z := by
  cases q with
  | nl => exact .inl rfl
  | il k l => exact .inr (Nat.eq_of_beq_eq_true h)
  | gl s l => exact .inr (Nat.eq_of_beq_eq_true h)
theorem kOK_k' {q : LX} {z : Nat} (h : q.kOK z = true) : q = .nl ∨ q.k = z := by
  cases q with
  | nl => exact .inl rfl
  | il k l => exact .inr (Nat.eq_of_beq_eq_true h)
  | gl s l => exact .inr (Nat.eq_of_beq_eq_true h)
/-! ### Cells put over cells -/
theorem putCells_length : ∀ (xs : List AVal) (n : Nat) (vs : List AVal), n + vs.length ≤ xs.length → (putCells xs n vs).length = xs.length
  | xs, 0, vs, h => by simp [putCells]; omega
  | [], n + 1, vs, h => by simp at h
  | x :: xs, n + 1, vs, h => by simp [putCells, putCells_length xs n vs (by simp at h; omega)]
theorem putCells_get : ∀ (xs : List AVal) (n : Nat) (vs : List AVal) (j : Nat), n + vs.length ≤ xs.length →
    (putCells xs n vs).getD j .junk = if n ≤ j ∧ j < n + vs.length then vs.getD (j - n) .junk else xs.getD j .junk
  | xs, 0, vs, j, h => by
    simp only [putCells, List.getD, List.getElem?_append, List.getElem?_drop, Nat.zero_le, true_and, Nat.zero_add, Nat.sub_zero]
    split
    · rfl
    · congr 2; omega
  | [], n + 1, vs, j, h => by simp at h
  | x :: xs, n + 1, vs, 0, h => by simp [putCells]
  | x :: xs, n + 1, vs, j + 1, h => by
    have := putCells_get xs n vs j (by simp at h; omega)
    simp only [putCells, List.getD_cons_succ, this]
    simp only [Nat.add_le_add_iff_right, Nat.add_sub_add_right]
    congr 1
    simp; omega
end Go.AL
