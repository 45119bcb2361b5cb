/-
  AL: the operations, third part: those that make no memory.
-/
import Derived.Test.YtnnpookoencpnaaAlEq
import Derived.WideLaws
set_option linter.unusedSectionVars false
set_option linter.unusedVariables false
namespace Go.AL
open Go

theorem PVR.int_inv {w : World} {ps : Nat → Nat} {k : IntKind} {n : Int} {c : Value} (h : PVR w ps (.int k n) c) : c = .int k n := by cases h; rfl
theorem PVR.bool_inv {w : World} {ps : Nat → Nat} {b : Bool} {c : Value} (h : PVR w ps (.bool b) c) : c = .bool b := by cases h; rfl
theorem PVR.str_inv {w : World} {ps : Nat → Nat} {s : List UInt8} {c : Value} (h : PVR w ps (.str s) c) : ∃ t : ByteArray, c = .string t ∧ t.data.toList = s := by cases h; exact ⟨_, rfl, rfl⟩
section
variable {e : Env}
theorem VR.int {k : IntKind} {n : Int} : VR e (.int k n) (.int k n) := .pure _ _ (.int k n)
theorem VR.bool {b : Bool} : VR e (.bool b) (.bool b) := .pure _ _ (.bool b)
theorem VR.str' {t : ByteArray} {s : List UInt8} (h : t.data.toList = s) : VR e (.str s) (.string t) := by rw [← h]; exact .pure _ _ (.str t)
theorem VR.int_inv {k : IntKind} {n : Int} {c : Value} (h : VR e (.int k n) c) : c = .int k n := by cases h with | pure _ _ h => exact h.int_inv
theorem VR.bool_inv {b : Bool} {c : Value} (h : VR e (.bool b) c) : c = .bool b := by cases h with | pure _ _ h => exact h.bool_inv
theorem VR.str_inv {s : List UInt8} {c : Value} (h : VR e (.str s) c) : ∃ t : ByteArray, c = .string t ∧ t.data.toList = s := by cases h with | pure _ _ h => exact h.str_inv
theorem VR.iface_inv {t : Nat} {v : AVal} {c : Value} (h : VR e (.iface t v) c) : ∃ d, c = .iface t d ∧ VR e v d := by
  cases h with
  | pure _ _ h => cases h with | iface _ _ d h => exact ⟨d, rfl, .pure _ _ h⟩
  | iface _ _ d h => exact ⟨d, rfl, h⟩
theorem VR.nili_inv {c : Value} (h : VR e .nili c) : c = .nilIface := by cases h with | pure _ _ h => cases h; rfl
theorem VR.tup_inv {vs : List AVal} {c : Value} (h : VR e (.tup vs) c) : ∃ cs, c = .tuple cs ∧ vs.length = cs.size ∧ ∀ i, i < vs.length → VR e (vs.getD i .junk) (cs.getD i undef) := by
  cases h with
  | pure _ _ h => cases h with | tup _ cs hl hv => exact ⟨cs, rfl, hl, fun i hi => .pure _ _ (hv i hi)⟩
  | tup _ cs hl hv => exact ⟨cs, rfl, hl, hv⟩
/-- A list's concrete slice. -/
theorem VR.ls_inv {q : LX} {c : Cap} {d : Value} (h : VR e (.ls q c) d) : PVR e.w e.ps (.ls q .any) d ∨ (c = .nil ∧ d = .slice none 0 0 ∧ q.n = 0 ∧ q.fit) := by
  cases h with
  | pure _ _ h => cases h with
    | lsnil _ _ hq hf hc =>
      rcases hc with rfl | rfl
      · exact .inl (.lsnil q _ hq hf (.inl rfl))
      · exact .inr ⟨rfl, rfl, hq, hf⟩
    | lse _ a hq hf => exact .inl (.lse q a hq hf)
    | ls _ b off cap cv a1 a2 a3 a4 a5 a6 a7 => exact .inl (.ls q b off cap cv a1 a2 a3 a4 a5 a6 a7)
  | tok _ i n _ h ht => exact .inl h
theorem VR.ls_any {q : LX} {c : Cap} {d : Value} (h : VR e (.ls q c) d) : PVR e.w e.ps (.ls q .any) d := by
  rcases h.ls_inv with h | ⟨rfl, rfl, h1, h2⟩
  · exact h
  · exact .lsnil q _ h1 h2 (.inl rfl)
theorem VR.ls_len {q : LX} {c : Cap} {d : Value} (h : VR e (.ls q c) d) : ∃ a cap, d = .slice a q.n cap ∧ (a = none → q.n = 0) ∧ (0 < q.n → ∃ b, a = some b) := by
  have h := h.ls_any
  cases h with
  | lsnil _ _ hq hf hc => exact ⟨none, 0, by rw [hq], fun _ => hq, fun h => by omega⟩
  | lse _ a hq hf => exact ⟨some a, 0, by rw [hq], fun h => (by cases h), fun h => by omega⟩
  | ls _ b off cap cv => exact ⟨_, cap, rfl, fun h => by (cases h), fun _ => ⟨_, rfl⟩⟩

theorem aNil_ok (hg : Good e) {x : AVal} {c : Value} (hx : VR e x c) {o : Oper} {ρ : Operand → Value} {y : Operand} (ho : o.op = .nilCheck y) (hy : ρ y = c) {P : Program} :
    match aNil x e.h with
    | .ok v h => v = x ∧ h = e.h ∧ (execOp ρ o).run P e.w = .ok (.value c) e.w
    | .need _ _ _ => False
    | .stuck => True := by
  unfold aNil
  split
  case _ h =>
    split at h
    · rename_i i off
      split at h
      · rename_i vs hob
        cases h
        refine ⟨rfl, rfl, ?_⟩
        have : boxAt e.h[i]? fun vs => ∃ b, c = .pointer (some ⟨b, off, none⟩) ∧ e.sg i = some b ∧ off ≤ vs.length := by
          cases hx with
          | ptr _ _ _ h1 h => exact h
          | pure _ _ h => cases h
        rw [hob] at this
        obtain ⟨b, rfl, _⟩ := this
        simp only [execOp, ho, hy, Sem.run_pure]
      · cases h
    · cases h
      cases hx with
      | pure _ _ h => cases h; exact ⟨rfl, rfl, by simp only [execOp, ho, hy, Sem.run_pure]⟩
    · cases h
      cases hx with
      | pure _ _ h => cases h; exact ⟨rfl, rfl, by simp only [execOp, ho, hy, Sem.run_pure]⟩
      | clo => exact ⟨rfl, rfl, by simp only [execOp, ho, hy, Sem.run_pure]⟩
    · cases h
      obtain ⟨d, rfl, _⟩ := hx.iface_inv
      exact ⟨rfl, rfl, by simp only [execOp, ho, hy, Sem.run_pure]⟩
    · cases h
  case _ h =>
    split at h <;> first | cases h | (split at h <;> cases h)
  case _ => trivial

section
variable {P : Program} {T : Tab} (hT : TabOK P T) (hg : Good e) {p : Pr} (hp : DataOK p)
include hT hg hp
theorem run_eqGuard_int (op : BinOp) (t : Nat) (x y : Operand) (k k' : IntKind) (a b : Int) (w : World) : (eqGuard op t x y (.int k a) (.int k' b)).run P w = .ok () w := by
  cases op <;> rfl
theorem run_bin_int (op : BinOp) (t : Nat) (k : IntKind) (a b : Int) (w : World) (hs : op ≠ .shl ∧ op ≠ .shr) (hz : (op = .quo ∨ op = .rem) → b ≠ 0) :
    (binOp op t (.int k a) (.int k b)).run P w = .ok (match op with
      | .add | .sub | .mul | .and | .or | .xor | .andNot | .quo | .rem => .int k (rI2 op k a b)
      | _ => .bool (rC2 op a b)) w := by
  cases op <;> first
    | (simp [binOp, Op.intArith, rI2]; done)
    | (simp [binOp, Op.intBits, rI2]; done)
    | (simp [binOp, Op.intCmp, rC2]; done)
    | (have := hz (by simp); simp [binOp, Op.intDiv, this, rI2]; done)
    | (simp at hs)
theorem run_bin_shift (op : BinOp) (t : Nat) (k k' : IntKind) (a b : Int) (w : World) (hs : op = .shl ∨ op = .shr) (hz : 0 ≤ b) :
    (binOp op t (.int k a) (.int k' b)).run P w = .ok (.int k (rI2 op k a b)) w := by
  have : ¬ b < 0 := by omega
  rcases hs with rfl | rfl <;> simp [binOp, Op.shift, this, rI2]
theorem run_bin_str (op : BinOp) (t : Nat) (a b : ByteArray) (w : World) (hs : op = .eql ∨ op = .neq ∨ op = .lss ∨ op = .leq ∨ op = .gtr ∨ op = .geq) :
    (binOp op t (.string a) (.string b)).run P w = .ok (.bool (rSc op a.data.toList b.data.toList)) w := by
  rcases hs with rfl | rfl | rfl | rfl | rfl | rfl <;> simp [binOp, Op.stringOp, rSc, ByteArray.toList_eq]
theorem run_bin_add_str (t : Nat) (a b : ByteArray) (w : World) (h : (a.size : Int) + b.size ≤ 9223372036854775807) :
    (binOp .add t (.string a) (.string b)).run P w = .ok (.string (a ++ b)) w := by
  have : ¬ (9223372036854775807 < (a.size : Int) + b.size) := by omega
  have h2 : ¬ (IntKind.i64.max < (a.size : Int) + b.size) := this
  simp [binOp, Op.stringOp]
  exact h
theorem aBin_ok {op : BinOp} {t : Nat} {x y : AVal} {c d : Value} (hx : VR e x c) (hy : VR e y d) (ox oy : Operand) :
    ARok e (aBin p T op t x y e.h) ((do eqGuard op t ox oy c d; binOp op t c d : Sem Value).run P e.w) := by
  unfold aBin
  split
  · -- numbers
    rename_i k a k' b
    have hx := hx.int_inv
    have hy := hy.int_inv
    subst hx; subst hy
    have hgd : ∀ r : Sem Value, (do eqGuard op t ox oy (.int k a) (.int k' b); r : Sem Value).run P e.w = r.run P e.w := fun r => by
      rw [Sem.run_bind, run_eqGuard_int hT hg hp]; rfl
    split
    · exact ARok.need hg fun hq => ⟨_, .int, by rw [hgd, run_bin_shift hT hg hp _ _ _ _ _ _ _ (.inl rfl) hq, hp.i2]⟩
    · exact ARok.need hg fun hq => ⟨_, .int, by rw [hgd, run_bin_shift hT hg hp _ _ _ _ _ _ _ (.inr rfl) hq, hp.i2]⟩
    · rename_i h1 h2
      cases hk : IntKind.same k k'
      · trivial
      obtain rfl := IntKind.same_eq hk
      simp only
      split
      · exact ARok.need hg fun hq => ⟨_, .int, by rw [hgd, run_bin_int hT hg hp _ _ _ _ _ _ (by simp) (fun _ => hq), hp.i2]⟩
      · exact ARok.need hg fun hq => ⟨_, .int, by rw [hgd, run_bin_int hT hg hp _ _ _ _ _ _ (by simp) (fun _ => hq), hp.i2]⟩
      all_goals first
        | (exact ARok.same hg (c := .int k (rI2 _ k a b)) (by rw [hp.i2]; exact .int) (by rw [hgd, run_bin_int hT hg hp _ _ _ _ _ _ (by simp) (by simp)]))
        | (rename_i n1 n2 n3 n4 n5 n6 n7 n8 n9
           refine ARok.same hg (c := .bool (rC2 op a b)) (by rw [hp.c2]; exact .bool) ?_
           rw [hgd, run_bin_int hT hg hp _ _ _ _ _ _ ⟨h1, h2⟩ (fun h => by rcases h with rfl | rfl <;> contradiction)]
           cases op <;> first | rfl | contradiction)
  · -- bools
    rename_i a b
    have hx := hx.bool_inv
    have hy := hy.bool_inv
    subst hx; subst hy
    cases hti : T.get? t with
    | none => trivial
    | some ti =>
    have hti := hT _ _ hti
    obtain ⟨dd, hu, hdd⟩ := hti.under
    simp only
    cases hk : ti.d <;> (try trivial)
    rw [hk] at hdd
    simp only [DOK] at hdd
    subst hdd
    have hr : (Op.equal t (.bool a) (.bool b)).run P e.w = .ok (a == b) e.w := by
      unfold Op.equal Op.maxDepth
      exact run_equalIn_bool' e.w 9999 t a b hu
    simp only
    split
    · refine ARok.same hg (c := .bool (a == b)) (by rw [hp.bq]; exact .bool) ?_
      simp [eqGuard, binOp, hr]
    · refine ARok.same hg (c := .bool (!(a == b))) (by rw [hp.bq, hp.bn]; exact .bool) ?_
      simp [eqGuard, binOp, hr]
    · trivial
  · -- strings
    rename_i a b
    obtain ⟨s, rfl, rfl⟩ := hx.str_inv
    obtain ⟨u, rfl, rfl⟩ := hy.str_inv
    have hgd : ∀ r : Sem Value, (do eqGuard op t ox oy (.string s) (.string u); r : Sem Value).run P e.w = r.run P e.w := fun r => by
      cases op <;> simp [eqGuard]
    split
    · refine ARok.need hg fun hq => ⟨.string (s ++ u), ?_, ?_⟩
      · rw [hp.sap]; exact .str' (by simp [ByteArray.data_append])
      · rw [hgd, run_bin_add_str hT hg hp]
        rw [hp.ad, hp.sln] at hq
        simp only [rNd, Array.length_toList] at hq
        exact hq
    all_goals first
      | trivial
      | (rename_i n1 n2 n3 n4 n5 n6 n7 n8 n9 n10 n11
         refine ARok.same hg (c := .bool (rSc op s.data.toList u.data.toList)) (by rw [hp.sc]; exact .bool) ?_
         rw [hgd, run_bin_str hT hg hp]
         cases op <;> first | contradiction | simp)
  · -- structs
    rename_i a b
    obtain ⟨X, rfl, hX1, hX2⟩ := hx.agg_inv
    obtain ⟨Y, rfl, hY1, hY2⟩ := hy.agg_inv
    unfold aEqAgg
    split
    · rename_i sh hsh
      split
      · rename_i hflag
        cases hti : T.get? t with
        | none => rw [hti] at hflag; cases hflag
        | some ti =>
        have ht := hT _ _ hti
        rw [hti] at hflag
        simp only at hflag
        have ha : ti.d.isAgg = true := by cases h : ti.d.isAgg <;> simp [h] at hflag ⊢
        rw [ha] at hflag
        simp only at hflag
        cases hfa : fitsSh sh a
        · trivial
        cases hfb : fitsSh sh b
        · trivial
        simp only
        rw [eqs_real hp hfa hfb]
        simp only
        have hcr : ∀ {v : List AVal} {Z : Array Value}, fitsSh sh v = true → v.length = Z.size → (∀ i, i < v.length → VR e (v.getD i .junk) (Z.getD i undef)) → CRs Z 0 sh v := fun hf hl hv =>
          CRs_of (R := VR e) (fun k n c h => h.int_inv) (fun b c h => h.bool_inv) (fun s c h => h.str_inv) hf (by omega) (fun i hi => by rw [Nat.zero_add]; exact hv i hi)
        have hXc := hcr hfa hX1 hX2
        have hYc := hcr hfb hY1 hY2
        obtain ⟨hlen, heq⟩ := flat_ok hT 8 t sh hsh
        have hlen := hlen ti hti
        have hXs : X.size = ti.sz := by rw [← hX1, hXc.length, hlen]
        have hYs : Y.size = ti.sz := by rw [← hY1, hYc.length, hlen]
        obtain ⟨a', b', h1, h2, h3⟩ := heq 10000 (by omega) X Y 0 0 a b hXc hYc e.w
        rw [run_part_agg ht ha] at h1 h2
        simp only [Nat.zero_add, Result.ok.injEq, and_true] at h1 h2
        rw [← hXs, Array.extract_size] at h1
        rw [← hYs, Array.extract_size] at h2
        subst h1; subst h2
        have hgd : ∀ r : Sem Value, (do eqGuard op t ox oy (.agg X) (.agg Y); r : Sem Value).run P e.w = r.run P e.w := fun r => by
          rw [Sem.run_bind, run_eqGuard_agg e.w op t ox oy X Y (ht.eqs hflag ha)]; rfl
        split
        · refine ARok.same hg (c := .bool (eqB a b)) .bool ?_
          rw [hgd, run_eql_struct, h3]; rfl
        · refine ARok.same hg (c := .bool (!(eqB a b))) (by rw [hp.bn]; exact .bool) ?_
          rw [hgd, run_neq_struct, h3]; rfl
        · trivial
      · trivial
    · trivial
  · -- slices and nil
    rename_i q cp
    obtain rfl : d = .slice none 0 0 := by
      cases hy with
      | pure _ _ h => cases h with
        | lsnil => rfl
    cases hti : T.get? t with
    | none => trivial
    | some ti =>
    have hti := hT _ _ hti
    obtain ⟨dd, hu, hdd⟩ := hti.under
    simp only
    cases hk : ti.d <;> (try trivial)
    rename_i el
    rw [hk] at hdd
    simp only [DOK] at hdd
    subst hdd
    have h0 : ∀ a n m, (Op.equal t (.slice a n m) (.slice none 0 0)).run P e.w = .ok a.isNone e.w := fun a n m => by
      unfold Op.equal Op.maxDepth
      rw [show (10000 : Nat) = 9999 + 1 from rfl, Op.equalIn, Sem.run_bind, run_underlying hu]
      cases a <;> rfl
    have hgd : ∀ (op : BinOp) a n m (r : Sem Value), (do eqGuard op t ox oy (.slice a n m) (.slice none 0 0); r : Sem Value).run P e.w = r.run P e.w := fun op a n m r => by
      cases op <;> simp [eqGuard]
    have hnil : cp = .nil → c = .slice none 0 0 := fun h => by
      subst h
      rcases hx.ls_inv with h | h
      · cases hx with
        | pure _ _ h => cases h with
          | lsnil => rfl
      · exact h.2.1
    obtain ⟨a, cap, hc, _, hpos⟩ := hx.ls_len
    simp only
    split
    · split
      · obtain rfl := hnil rfl
        refine ARok.same hg (c := .bool true) .bool ?_
        rw [hgd]; simp [binOp, h0]
      · refine ARok.need hg fun hq => ⟨.bool false, .bool, ?_⟩
        rw [len_real hp] at hq
        obtain ⟨b, rfl⟩ := hpos (by simp only [rNd] at hq; omega)
        subst hc
        rw [hgd]; simp [binOp, h0]
    · split
      · obtain rfl := hnil rfl
        refine ARok.same hg (c := .bool false) .bool ?_
        rw [hgd]; simp [binOp, h0]
      · refine ARok.need hg fun hq => ⟨.bool true, .bool, ?_⟩
        rw [len_real hp] at hq
        obtain ⟨b, rfl⟩ := hpos (by simp only [rNd] at hq; omega)
        subst hc
        rw [hgd]; simp [binOp, h0]
    · trivial
  · -- a row and nil
    rename_i i g lo hi
    obtain rfl : d = .slice none 0 0 := by
      cases hy with
      | pure _ _ h => cases h; rfl
    cases hti : T.get? t with
    | none => trivial
    | some ti =>
    have hti := hT _ _ hti
    obtain ⟨dd, hu, hdd⟩ := hti.under
    simp only
    cases hk : ti.d <;> (try trivial)
    rename_i el
    rw [hk] at hdd
    simp only [DOK] at hdd
    subst hdd
    have h0 : ∀ a n m, (Op.equal t (.slice a n m) (.slice none 0 0)).run P e.w = .ok a.isNone e.w := fun a n m => by
      unfold Op.equal Op.maxDepth
      rw [show (10000 : Nat) = 9999 + 1 from rfl, Op.equalIn, Sem.run_bind, run_underlying hu]
      cases a <;> rfl
    have hgd : ∀ (op : BinOp) a n m (r : Sem Value), (do eqGuard op t ox oy (.slice a n m) (.slice none 0 0); r : Sem Value).run P e.w = r.run P e.w := fun op a n m r => by
      cases op <;> simp [eqGuard]
    simp only
    split
    · rename_i g' q hob
      cases hgg : Nat.beq g g'
      · trivial
      obtain rfl := Nat.eq_of_beq_eq_true hgg
      have hc : rNd (.ne (q.len p)) → ∃ a n m, c = .slice (some a) n m := fun hq => by
        rw [len_real hp] at hq
        cases hx with
        | pure _ _ h => cases h
        | sl _ _ _ _ _ _ h =>
          rw [hob] at h
          rcases (h.2 rfl).2.2.2 with ⟨_, _, _, hn⟩ | ⟨b, cap, off, rfl, _⟩
          · simp only [rNd] at hq; omega
          · exact ⟨_, _, _, rfl⟩
      simp only
      split
      · refine ARok.need hg fun hq => ⟨.bool false, .bool, ?_⟩
        obtain ⟨a, n, m, rfl⟩ := hc hq
        rw [hgd]; simp [binOp, h0]
      · refine ARok.need hg fun hq => ⟨.bool true, .bool, ?_⟩
        obtain ⟨a, n, m, rfl⟩ := hc hq
        rw [hgd]; simp [binOp, h0]
      · trivial
    · trivial
  · -- interface values and nil
    rename_i u v
    obtain ⟨c', rfl, _⟩ := hx.iface_inv
    obtain rfl := hy.nili_inv
    cases hti : T.get? t with
    | none => trivial
    | some ti =>
    have hti := hT _ _ hti
    obtain ⟨dd, hu, hdd⟩ := hti.under
    simp only
    cases hk : ti.d <;> (try trivial)
    rw [hk] at hdd
    simp only [DOK] at hdd
    obtain ⟨ms, rfl⟩ := hdd
    have h0 : (Op.equal t (.iface u c') .nilIface).run P e.w = .ok false e.w := by
      unfold Op.equal Op.maxDepth
      rw [show (10000 : Nat) = 9999 + 1 from rfl, Op.equalIn, Sem.run_bind, run_underlying hu]
      rfl
    have hgd : ∀ (op : BinOp) (r : Sem Value), (do eqGuard op t ox oy (.iface u c') .nilIface; r : Sem Value).run P e.w = r.run P e.w := fun op r => by
      cases op <;> simp [eqGuard]
    simp only
    split
    · refine ARok.same hg (c := .bool false) .bool ?_
      rw [hgd]; simp [binOp, h0]
    · refine ARok.same hg (c := .bool true) .bool ?_
      rw [hgd]; simp [binOp, h0]
    · trivial
  · trivial
end
end
end Go.AL
