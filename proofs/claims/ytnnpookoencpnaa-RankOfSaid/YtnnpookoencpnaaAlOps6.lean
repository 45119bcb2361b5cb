/-
  AL: the operations, sixth part: parts of slices and strings; built structs.
-/
import Derived.Test.YtnnpookoencpnaaAlOps5
set_option linter.unusedSectionVars false
set_option linter.unusedVariables false
set_option linter.unusedSimpArgs false
namespace Go.AL
open Go

theorem extract_list (s : ByteArray) (a b : Nat) : (s.extract a b).data.toList = (s.data.toList.drop a).take (b - a) := by
  simp [ByteArray.data_extract, List.extract_eq_take_drop]
theorem PVR.not_tok {w : World} {ps : Nat → Nat} {q : LX} {i n : Nat} {c : Value} (h : PVR w ps (.ls q (.tok i n)) c) : False := by
  generalize hv : AVal.ls q (.tok i n) = v at h
  cases h <;> cases hv
  rename_i h
  rcases h with h | h <;> cases h
theorem VR.tok_inv {e : Env} {q : LX} {i n : Nat} {c : Value} (h : VR e (.ls q (.tok i n)) c) : tokAt e.h[i]? n (endOK e i q.k c) := by
  cases h with
  | pure _ _ h => exact h.not_tok.elim
  | tok _ _ _ _ h ht => exact ht
theorem endOK_sub {e : Env} {i k z : Nat} {ad : Option Addr} {n cap a : Nat} (h : endOK e i k (.slice ad n cap)) (h1 : n ≤ cap) (h2 : a ≤ n) (h3 : n = 0 ∨ z = k) :
    endOK e i k (.slice (if cap = a then ad else ad.map (·.add (a * z))) (n - a) (cap - a)) := by
  cases ad with
  | none => rw [Option.map_none, ite_self]; trivial
  | some ad =>
    by_cases hca : cap = a
    · rw [if_pos hca]
      exact .inl (by omega)
    · rw [if_neg hca]
      simp only [endOK, Option.map_some] at h ⊢
      rcases h with h | ⟨r1, r2, r3, r4⟩
      · exact .inl (by omega)
      · right
        rcases h3 with h3 | h3
        · have : a = 0 := by omega
          subst this
          rw [Nat.zero_mul]
          simp only [Addr.add, if_true, Nat.sub_zero]
          exact ⟨r1, r2, r3, r4⟩
        · subst h3
          have hm1 : (a + (n - a)) * z = n * z := by congr 1; omega
          have hm2 : (a + (cap - a)) * z = cap * z := by congr 1; omega
          rw [Nat.add_mul] at hm1 hm2
          unfold Addr.add
          split
          · exact ⟨r1, by omega, by omega, r4⟩
          · exact ⟨r1, by simp only; omega, by simp only; omega, r4⟩
section
variable {e : Env} {P : Program} {T : Tab} (hT : TabOK P T) (hg : Good e) {p : Pr} (hp : DataOK p)
include hT hg hp
/-- A bound that may not be written. -/
def OptR (e : Env) (v : Option AVal) (c : Option Value) : Prop := (v = none ∧ c = none) ∨ ∃ x y, v = some x ∧ c = some y ∧ VR e x y
theorem opt0_spec {d : Int} {v : Option AVal} {c : Option Value} {n : Int} (h : OptR e v c) (ho : opt0 d v = some n) : (c = none ∧ n = d ∧ v = none) ∨ ∃ k, c = some (.int k n) := by
  rcases h with ⟨rfl, rfl⟩ | ⟨x, y, rfl, rfl, hxy⟩
  · cases ho; exact .inl ⟨rfl, rfl, rfl⟩
  · unfold opt0 at ho
    split at ho
    · cases ‹some _ = none›
    · rename_i k n' heq
      cases heq
      cases ho
      exact .inr ⟨k, by rw [hxy.int_inv]⟩
    · cases ho
theorem slElem_spec {t : Nat} {te : TI} (h : slElem T t = some te) : ∃ el, P.underlying t = some (.slice el) ∧ TIOK P el te ∧ T.get? el = some te := by
  unfold slElem at h
  split at h
  · rename_i ti hti
    split at h
    · rename_i el hd
      obtain ⟨d, hu, hdd⟩ := (hT _ _ hti).under
      rw [hd] at hdd
      simp only [DOK] at hdd
      subst hdd
      exact ⟨el, hu, hT _ _ h, h⟩
    · cases h
  · cases h
theorem run_slice_str {t : Nat} (hu : P.underlying t = some .string) (s : ByteArray) (lo hi : Option Value) (l h : Int)
    (hlo : lo = none ∧ l = 0 ∨ ∃ k, lo = some (.int k l)) (hhi : hi = none ∧ h = s.size ∨ ∃ k, hi = some (.int k h)) (h0 : 0 ≤ l) (h1 : l ≤ h) (h2 : h ≤ s.size) (w : World) :
    (Instr.sliceAt t (.string s) lo hi none).run P w = .ok (.string (s.extract l.toNat h.toNat)) w := by
  have b1 : ∀ (k : IntKind) (i : Int) (y : Nat) (code : BoundsCode), 0 ≤ i → i ≤ y → (Instr.sliceBound (.int k i) y code).run P w = .ok i.toNat w := fun k i y code ha hb => by
    simp [Instr.sliceBound, asIntOf, ha, hb]
  have key : ∃ m, (Instr.sliceBounds false s.size s.size lo hi none).run P w = .ok (l.toNat, h.toNat, m) w := by
    unfold Instr.sliceBounds
    rcases hhi with ⟨rfl, rfl⟩ | ⟨k, rfl⟩
    · rcases hlo with ⟨rfl, rfl⟩ | ⟨k', rfl⟩
      · exact ⟨s.size, by simp⟩
      · exact ⟨s.size, by simp [b1 k' l s.size _ h0 h1]⟩
    · rcases hlo with ⟨rfl, rfl⟩ | ⟨k', rfl⟩
      · exact ⟨s.size, by simp [b1 k h s.size _ (by omega) (by omega)]⟩
      · exact ⟨s.size, by simp [b1 k h s.size _ (by omega) (by omega), b1 k' l h.toNat _ h0 (by omega)]⟩
  obtain ⟨m, key⟩ := key
  simp only [Instr.sliceAt, Instr.slice, Sem.run_bind, run_underlying hu, Result.andThen_ok, Option.isSome_none, Bool.false_eq_true, if_false, key, Sem.run_pure]
theorem aSlice_ok {t : Nat} {x : AVal} {c : Value} {lo hi mx : Option AVal} {clo chi cmx : Option Value} (hx : VR e x c) (hlo : OptR e lo clo) (hhi : OptR e hi chi) (hmx : OptR e mx cmx) :
    ARok e (aSlice p T t x lo hi mx e.h) ((Instr.sliceAt t c clo chi cmx).run P e.w) := by
  unfold aSlice
  split
  · -- no third index
    have hmxn : cmx = none := by
      rcases hmx with ⟨_, h⟩ | ⟨x, y, h, _⟩
      · exact h
      · cases h
    subst hmxn
    split
    · -- a string
      obtain ⟨s, rfl, rfl⟩ := hx.str_inv
      cases hs : T.get? t with
      | none => trivial
      | some ti =>
      obtain ⟨dt, hu, hdt⟩ := (hT _ _ hs).under
      simp only
      cases hk : ti.d <;> (try trivial) <;> rw [hk] at hdt <;> simp only [DOK] at hdt <;> subst hdt <;> simp only
      split
      · rename_i a ha
        split
        · rename_i b hb
          refine ARok.need hg fun hq => ?_
          simp only [hp.sln] at hq hb
          simp only [rNd, Array.length_toList] at hq hb
          obtain ⟨q0, q1, q2⟩ := hq
          refine ⟨.string (s.extract a.toNat b.toNat), ?_, ?_⟩
          · rw [hp.ssb]
            exact .str' (by rw [extract_list, rSub, Int.toNat_sub'']; all_goals omega)
          · refine run_slice_str hT hg hp hu s clo chi a b ?_ ?_ q0 q1 q2 _
            · rcases opt0_spec hT hg hp hlo ha with ⟨h, h', _⟩ | h
              · exact .inl ⟨h, h'⟩
              · exact .inr h
            · rcases opt0_spec hT hg hp hhi hb with ⟨h, h', _⟩ | h
              · exact .inl ⟨h, h'⟩
              · exact .inr h
        · trivial
      · trivial
    · -- a list
      rename_i q cp
      split
      · rename_i te hte
        obtain ⟨el, hu, hto, _⟩ := slElem_spec hT hg hp hte
        cases hko : q.kOK te.sz
        · trivial
        simp only
        split
        · rename_i a ha
          split
          · rename_i b hb
            refine ARok.need hg fun hq => ?_
            rw [len_real hp] at hq hb
            obtain ⟨q0, q1, q2⟩ := hq
            obtain ⟨ad, cap, hc, _, _⟩ := hx.ls_len
            have hncap : q.n ≤ cap := by
              have h := hx.ls_any
              rw [hc] at h
              generalize hd : (Value.slice ad q.n cap) = d at h
              cases h with
              | lsnil _ _ h0 => rw [h0]; exact Nat.zero_le _
              | lse _ _ h0 => rw [h0]; exact Nat.zero_le _
              | ls _ b2 off cp2 cv hcap => injection hd with e1 e2 e3; rw [e3]; exact hcap
            have hlo' := opt0_spec hT hg hp hlo ha
            have hhi' := opt0_spec hT hg hp hhi hb
            have hr := run_slice hT hg hp hu hto ad q.n cap clo chi none a b cap (by
                rcases hlo' with ⟨h, h', _⟩ | h
                · exact .inl ⟨h, h'⟩
                · exact .inr h) (by
                rcases hhi' with ⟨h, h', _⟩ | h
                · exact .inl ⟨h, h'⟩
                · exact .inr h) (.inl ⟨rfl, rfl⟩) q0 q1 (by omega) (by omega) e.w
            have hsub := PVR.sub hT hg hp (hx.ls_any) hc hko q0 q1 q2 (m := cap) (by omega) (by omega)
            refine ⟨_, ?_, by rw [hc]; exact hr⟩
            have hany : ∀ cp', cp' = Cap.any → VR e (.ls (q.sub p a b) cp') (.slice (if (cap : Int).toNat = a.toNat then ad else ad.map (·.add (a.toNat * te.sz))) (b.toNat - a.toNat) ((cap : Int).toNat - a.toNat)) := fun cp' h => by subst h; exact .pure _ _ hsub
            split
            · rename_i i n
              split
              · -- the end is kept
                rename_i hnone
                have hb' : b = q.n := by
                  rcases hhi' with ⟨_, h, _⟩ | ⟨k, h⟩
                  · exact h
                  · rcases hhi with ⟨_, h'⟩ | ⟨x, y, h', _⟩
                    · rw [h'] at h; cases h
                    · cases h'
                refine .tok _ _ _ _ hsub ?_
                have ht := hx.tok_inv
                have hnq : q.n = 0 ∨ te.sz = q.k := by
                  rcases kOK_k hko with h | h
                  · exact .inl (by rw [LX.n, h]; rfl)
                  · exact .inr h.symm
                obtain ⟨_, _, hk2, _⟩ := sub_real hp q a b
                have hmain : endOK e i q.k c → endOK e i (q.sub p a b).k (.slice (if (cap : Int).toNat = a.toNat then ad else ad.map (·.add (a.toNat * te.sz))) (b.toNat - a.toNat) ((cap : Int).toNat - a.toNat)) := fun h => by
                  rw [hc] at h
                  have := endOK_sub (a := a.toNat) h hncap (by omega) hnq
                  rw [hk2]
                  rw [show (cap : Int).toNat = cap by omega, show b.toNat = q.n by omega]
                  exact this
                unfold tokAt at ht ⊢
                split at ht
                · exact ⟨ht.1, fun heq => hmain (ht.2 heq)⟩
                · exact ht
                · exact ht
              · exact hany _ rfl
            · exact hany _ rfl
          · trivial
        · trivial
      · trivial
    · -- a row
      rename_i i g l u
      split
      · rename_i te hte
        obtain ⟨el, hu, hto, _⟩ := slElem_spec hT hg hp hte
        split
        · rename_i g' q hob
          cases hgg : Nat.beq g g'
          · trivial
          obtain rfl := Nat.eq_of_beq_eq_true hgg
          cases hko : q.kOK te.sz
          · trivial
          simp only
          split
          · rename_i a ha
            split
            · rename_i b hb
              refine ARok.need hg fun hq => ?_
              simp only [hp.sbt, len_real hp] at hq hb
              obtain ⟨q0, q1, q2⟩ := hq
              obtain ⟨a1, a2, a3, a4⟩ := VR.sl_inv hT hg hp hx hob
              have hlo' := opt0_spec hT hg hp hlo ha
              have hhi' := opt0_spec hT hg hp hhi hb
              simp only [hp.ad]
              rcases a4 with ⟨rfl, rfl, rfl, hn⟩ | ⟨bb, cap, off, rfl, hsg, hcap, r⟩
              · have hr := run_slice hT hg hp hu hto none 0 0 clo chi none a b 0 (by
                    rcases hlo' with ⟨h, h', _⟩ | h
                    · exact .inl ⟨h, h'⟩
                    · exact .inr h) (by
                    rcases hhi' with ⟨h, h', _⟩ | h
                    · exact .inl ⟨h, by omega⟩
                    · exact .inr h) (.inl ⟨rfl, rfl⟩) q0 q1 (by omega) (by omega) e.w
                refine ⟨_, ?_, hr⟩
                rw [Option.map_none, ite_self]
                refine .sl _ _ _ _ _ rfl ?_
                rw [hob]
                refine ⟨Nat.le_refl _, fun _ => ⟨by omega, by omega, by omega, .inl ⟨?_, by omega, by omega, hn⟩⟩⟩
                rw [show b.toNat - a.toNat = 0 by omega, show (0 : Int).toNat - a.toNat = 0 by omega]
              · have hr := run_slice hT hg hp hu hto (some ⟨bb, off, none⟩) (u - l).toNat cap clo chi none a b cap (by
                    rcases hlo' with ⟨h, h', _⟩ | h
                    · exact .inl ⟨h, h'⟩
                    · exact .inr h) (by
                    rcases hhi' with ⟨h, h', _⟩ | h
                    · exact .inl ⟨h, by omega⟩
                    · exact .inr h) (.inl ⟨rfl, rfl⟩) q0 q1 (by omega) (by omega) e.w
                refine ⟨_, ?_, hr⟩
                have hb2 : b.toNat - a.toNat = ((l + b) - (l + a)).toNat := by omega
                have key : ∀ off', ((cap : Int).toNat - a.toNat ≠ 0 → off' = off + a.toNat * te.sz) → VR e (.sl i g (l + a) (l + b)) (.slice (some ⟨bb, off', none⟩) (b.toNat - a.toNat) ((cap : Int).toNat - a.toNat)) := fun off' ho' => by
                  refine .sl _ _ _ _ _ rfl ?_
                  rw [hob]
                  refine ⟨Nat.le_refl _, fun _ => ⟨by omega, by omega, by omega, .inr ⟨bb, (cap : Int).toNat - a.toNat, off', by rw [hb2], hsg, by omega, ?_⟩⟩⟩
                  by_cases hz : (cap : Int).toNat - a.toNat = 0
                  · exact .inl hz
                  · right
                    rw [ho' hz]
                    rcases r with r | ⟨r1, r2⟩
                    · omega
                    rcases kOK_k hko with h | h
                    · have : q.n = 0 := by rw [LX.n, h]; rfl
                      have e1 : a = 0 := by omega
                      subst e1
                      rw [show (l + 0).toNat = l.toNat by omega]
                      simp only [Int.toNat_zero, Nat.zero_mul, Nat.add_zero, Nat.sub_zero, Int.toNat_natCast]
                      exact ⟨r1, r2⟩
                    · rw [← h, show (l + a).toNat = l.toNat + a.toNat by omega, Nat.add_mul]
                      have hm2 : (a.toNat + ((cap : Int).toNat - a.toNat)) * q.k = cap * q.k := by congr 1; omega
                      rw [Nat.add_mul] at hm2
                      exact ⟨by omega, by omega⟩
                split
                · exact key off (fun h => by omega)
                · simp only [Option.map_some, addr_add']
                  exact key _ (fun _ => rfl)
            · trivial
          · trivial
        · trivial
      · trivial
    · trivial
  · -- a third index
    rename_i m
    split
    · rename_i q cp hv
      split
      · rename_i te hte
        obtain ⟨el, hu, hto, _⟩ := slElem_spec hT hg hp hte
        cases hko : q.kOK te.sz
        · trivial
        simp only
        split
        · rename_i a ha
          split
          · rename_i k b
            split
            · rename_i k2 d
              refine ARok.need hg fun hq => ?_
              rw [len_real hp] at hq
              obtain ⟨q0, q1, q2, q3⟩ := hq
              obtain ⟨ad, cap, hc, _, _⟩ := hx.ls_len
              have hncap : q.n ≤ cap := by
                have h := hx.ls_any
                rw [hc] at h
                generalize hd : (Value.slice ad q.n cap) = d at h
                cases h with
                | lsnil _ _ h0 => rw [h0]; exact Nat.zero_le _
                | lse _ _ h0 => rw [h0]; exact Nat.zero_le _
                | ls _ b2 off cp2 cv hcap => injection hd with e1 e2 e3; rw [e3]; exact hcap
              have hm2 : cmx = some (.int k2 d) := by
                rcases hmx with ⟨h, _⟩ | ⟨x, y, h, h2, h3⟩
                · cases h
                · cases h; rw [h2, h3.int_inv]
              have hh2 : chi = some (.int k b) := by
                rcases hhi with ⟨h, _⟩ | ⟨x, y, h, h2, h3⟩
                · cases h
                · cases h; rw [h2, h3.int_inv]
              have hr := run_slice hT hg hp hu hto ad q.n cap clo chi cmx a b d (by
                  rcases opt0_spec hT hg hp hlo ha with ⟨h, h', _⟩ | h
                  · exact .inl ⟨h, h'⟩
                  · exact .inr h) (.inr ⟨k, hh2⟩) (.inr ⟨k2, k, hm2, hh2⟩) q0 q1 q2 (by omega) e.w
              exact ⟨_, .pure _ _ (PVR.sub hT hg hp (hx.ls_any) hc hko q0 q1 (by omega) q2 (by omega)), by rw [hc]; exact hr⟩
            · trivial
          · trivial
        · trivial
      · trivial
    · trivial
end
end Go.AL
