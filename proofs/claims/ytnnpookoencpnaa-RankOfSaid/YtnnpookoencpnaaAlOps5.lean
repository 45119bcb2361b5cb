/-
  AL: the operations, fifth part: indices, parts of slices, built structs.
-/
import Derived.Test.YtnnpookoencpnaaAlOps4
set_option linter.unusedSectionVars false
set_option linter.unusedVariables false
set_option linter.unusedSimpArgs false
namespace Go.AL
open Go

theorem addr_add' (b off j : Nat) : ({ block := b, off := off } : Addr).add j = ⟨b, off + j, none⟩ := addr_add b off j
theorem chunk_get (k : Nat) (hk : Nat.beq k 1 = false) : ∀ (m : Nat) (cs : List AVal) (i : Nat), i < m → (chunk k m cs)[i]? = some (.agg ((cs.drop (i * k)).take k))
  | m + 1, cs, 0, _ => by simp [chunk, hk]
  | m + 1, cs, i + 1, h => by
    simp only [chunk, List.getElem?_cons_succ]
    rw [chunk_get k hk m (cs.drop k) i (Nat.lt_of_succ_lt_succ h), List.drop_drop, show k + i * k = (i + 1) * k by rw [Nat.add_mul]; omega]
theorem chunk_length (k : Nat) : ∀ (m : Nat) (cs : List AVal), (chunk k m cs).length = m
  | 0, _ => rfl
  | m + 1, cs => by simp [chunk, chunk_length k m]
theorem rSub_length {α : Type} (l : List α) (a b : Int) (h0 : 0 ≤ a) (h1 : a ≤ b) (h2 : b ≤ l.length) : (rSub l a b).length = (b - a).toNat := by
  simp [rSub]; omega
theorem rSub_get {α : Type} (l : List α) (a b : Int) (d : α) (i : Nat) (h : i < (b - a).toNat) : (rSub l a b).getD i d = l.getD (a.toNat + i) d := by
  simp [rSub, List.getD, List.getElem?_take, h, List.getElem?_drop]
theorem PVR.ls_fit {w : World} {ps : Nat → Nat} {q : LX} {c : Cap} {d : Value} (h : PVR w ps (.ls q c) d) : q.fit := by cases h <;> assumption
section
variable {e : Env} {P : Program} {T : Tab} (hT : TabOK P T) (hg : Good e) {p : Pr} (hp : DataOK p)
include hT hg hp
theorem aIndexAddr_ok {t : Nat} {x i : AVal} {c d : Value} (hx : VR e x c) (hi : VR e i d) {ci : Option Nat} (hci : ∀ n, ci = some n → ∃ k, d = .int k n) :
    ARok e (aIndexAddr p T t x i ci e.h) ((Instr.indexAt t c d).run P e.w) := by
  unfold aIndexAddr
  cases hs : T.get? t with
  | none => trivial
  | some ti =>
  obtain ⟨dt, hu, hdt⟩ := (hT _ _ hs).under
  simp only
  cases hk : ti.d <;> (try trivial) <;> rw [hk] at hdt <;> simp only [DOK] at hdt <;> subst hdt <;> simp only
  · -- a slice
    rename_i el
    cases hte : T.get? el with
    | none => trivial
    | some te =>
    have hte := hT _ _ hte
    simp only
    split
    · rename_i q cp
      split
      · rename_i k n
        have := hi.int_inv; subst this
        cases hsz : Nat.beq te.sz q.k
        · trivial
        have hsz := Nat.eq_of_beq_eq_true hsz
        refine ARok.need hg fun hq => ?_
        rw [len_real hp] at hq
        obtain ⟨hq0, hq1⟩ := hq
        have hpv := hx.ls_any
        cases hpv with
        | lsnil _ _ h0 => omega
        | lse _ _ h0 => omega
        | ls _ b off cap cv hcap hf hkk hps hc h1 hv =>
          have hlt : (n.toNat + 1) * q.k ≤ q.n * q.k := Nat.mul_le_mul_right _ (by omega)
          rw [Nat.add_mul] at hlt
          have hcl := hkk n.toNat (by omega)
          refine ⟨.pointer (some ⟨b, off + n.toNat * q.k, none⟩), ?_, ?_⟩
          · rw [get_real hp hf hq0 hq1]
            refine .pure _ _ (.pp _ _ _ (cv n.toNat) (fun _ => ?_) (fun j hj => ?_) (fun j hj => ?_))
            · have := hps (by omega); omega
            · exact hc _ _ (by omega) (by omega)
            · exact hv _ _ (by omega) (by omega)
          · simp only [Instr.indexAt, asIntOf, Sem.run_bind, Sem.run_pure, Result.andThen_ok, run_underlying hu, hte.run_sizeOf]
            rw [if_pos ⟨hq0, hq1⟩]
            simp [addr_add', hsz, hte.run_sizeOf]
      · trivial
    · rename_i j g lo hh
      split
      · rename_i k n
        have := hi.int_inv; subst this
        split
        · rename_i g' q hob
          cases hgg : Nat.beq g g'
          · trivial
          obtain rfl := Nat.eq_of_beq_eq_true hgg
          cases hsz : Nat.beq te.sz q.k
          · trivial
          have hsz := Nat.eq_of_beq_eq_true hsz
          refine ARok.need hg fun hq => ?_
          simp only [hp.sbt] at hq
          obtain ⟨hq0, hq1⟩ := hq
          obtain ⟨a1, a2, a3, a4⟩ := VR.sl_inv hT hg hp hx hob
          rcases a4 with ⟨_, r1, r2, _⟩ | ⟨b, cap, off, rfl, hsg, hcap, r⟩
          · omega
          · rcases r with r | ⟨r1, r2⟩
            · omega
            refine ⟨.pointer (some ⟨b, off + n.toNat * q.k, none⟩), ?_, ?_⟩
            · simp only [hp.ad]
              refine .pe _ _ _ _ _ rfl ?_
              rw [hob]
              refine ⟨Nat.le_refl _, fun _ => ⟨by omega, by omega, b, ?_, hsg⟩⟩
              rw [show (lo + n).toNat = lo.toNat + n.toNat by omega, Nat.add_mul, r1]
              rfl
            · simp only [Instr.indexAt, asIntOf, Sem.run_bind, Sem.run_pure, Result.andThen_ok, run_underlying hu, hte.run_sizeOf]
              rw [if_pos ⟨hq0, by omega⟩]
              simp [addr_add', hsz, hte.run_sizeOf]
        · trivial
      · trivial
    · trivial
  · -- an array behind a pointer
    rename_i m el
    cases hte : T.get? el with
    | none => trivial
    | some te =>
    have hte := hT _ _ hte
    simp only
    split
    · rename_i n
      obtain ⟨k, rfl⟩ := hci n rfl
      cases hlt : Nat.blt n m
      · trivial
      have hlt : n < m := by simpa using hlt
      have hrun : ∀ b o, (Instr.indexAt t (.pointer (some ⟨b, o, none⟩)) (.int k n)).run P e.w = .ok (.pointer (some ⟨b, o + n * te.sz, none⟩)) e.w := fun b o => by
        simp only [Instr.indexAt, asIntOf, Sem.run_bind, Sem.run_pure, Result.andThen_ok, run_underlying hu, hte.run_sizeOf, Instr.sureAddr]
        rw [if_pos ⟨by omega, by omega⟩]
        simp [addr_add', hte.run_sizeOf]
      simp only
      split
      · rename_i j o
        split
        · rename_i vs hob
          cases hle : Nat.ble (o + n * te.sz) vs.length
          · trivial
          have hle := Nat.le_of_ble_eq_true hle
          have hb : boxAt e.h[j]? fun vs => ∃ b, c = .pointer (some ⟨b, o, none⟩) ∧ e.sg j = some b ∧ o ≤ vs.length := by
            cases hx with
            | ptr _ _ _ h1 h => exact h
            | pure _ _ h => cases h
          rw [hob] at hb
          obtain ⟨b, rfl, hsg, _⟩ := hb
          refine ARok.same hg ?_ (hrun b o)
          refine .ptr _ _ _ rfl ?_
          rw [hob]
          exact ⟨b, rfl, hsg, hle⟩
        · trivial
      · rename_i xs
        cases hle : Nat.ble (n * te.sz) xs.length
        · trivial
        have hle := Nat.le_of_ble_eq_true hle
        cases hx with
        | pure _ _ h => cases h with
          | pp _ b o cv hps hc hv =>
            refine ARok.same hg ?_ (hrun b o)
            refine .pure _ _ (.pp _ _ _ (fun j => cv (n * te.sz + j)) (fun h => ?_) (fun j hj => ?_) (fun j hj => ?_))
            · have : xs ≠ [] := fun h' => h (by rw [h']; simp)
              have := hps this
              simp; omega
            · simp at hj
              have := hc (n * te.sz + j) (by omega)
              rwa [← Nat.add_assoc] at this
            · simp at hj
              rw [getD_drop]
              exact hv _ (by omega)
      · trivial
    · trivial
theorem aIndex_ok {t : Nat} {x i : AVal} {c d : Value} (hx : VR e x c) (hi : VR e i d) {ci : Option Nat} (hci : ∀ n, ci = some n → ∃ k, d = .int k n) :
    ARok e (aIndex p T t x i ci e.h) ((Instr.index t c d).run P e.w) := by
  unfold aIndex
  cases hs : T.get? t with
  | none => trivial
  | some ti =>
  obtain ⟨dt, hu, hdt⟩ := (hT _ _ hs).under
  simp only
  cases hk : ti.d <;> (try trivial) <;> rw [hk] at hdt <;> simp only [DOK] at hdt <;> subst hdt <;> simp only
  · split
    · obtain ⟨s, rfl, rfl⟩ := hx.str_inv
      split
      · rename_i k n
        have := hi.int_inv; subst this
        refine ARok.need hg fun hq => ?_
        rw [hp.sln] at hq
        obtain ⟨hq0, hq1⟩ := hq
        simp only [Array.length_toList] at hq1
        have hlt : n.toNat < s.size := by have : (s.size : Int) = s.data.size := rfl; omega
        refine ⟨.int .u8 ((s.data.toList.getD n.toNat 0).toNat), by rw [hp.sgt]; exact .int, ?_⟩
        simp only [Instr.index, asIntOf, Sem.run_bind, Sem.run_pure, Result.andThen_ok, run_underlying hu, if_pos hq0, bytes_get s _ hlt]
      · trivial
    · trivial
  · rename_i m el
    cases hte : T.get? el with
    | none => trivial
    | some te =>
    have hte := hT _ _ hte
    simp only
    split
    · rename_i cs
      obtain ⟨X, rfl, hl, hv⟩ := hx.agg_inv
      cases hlen : Nat.beq cs.length (m * te.sz)
      · trivial
      have hlen := Nat.eq_of_beq_eq_true hlen
      simp only
      have hrun : ∀ k (n : Int), 0 ≤ n → n < m → (Instr.index t (.agg X) (.int k n)).run P e.w = (Go.part el X (n.toNat * te.sz)).run P e.w := fun k n h0 h1 => by
        simp only [Instr.index, asIntOf, Sem.run_bind, Sem.run_pure, Result.andThen_ok, run_underlying hu, hte.run_sizeOf]
        rw [if_pos ⟨h0, h1⟩]
        simp [hte.run_sizeOf]
      have hpart : ∀ (n : Nat), n < m → ∃ c, (Go.part el X (n * te.sz)).run P e.w = .ok c e.w ∧ VR e (part te cs (n * te.sz)) c ∧
          (te.d.isAgg = false → te.sz = 1 → c = X.getD n undef) ∧ (te.d.isAgg = true → VR e (.agg ((cs.drop (n * te.sz)).take te.sz)) c) := fun n hn => by
        have hlt : (n + 1) * te.sz ≤ m * te.sz := Nat.mul_le_mul_right _ hn
        rw [Nat.add_mul] at hlt
        cases ha : te.d.isAgg
        · have h1 := hte.one ha
          refine ⟨X.getD (n * te.sz) undef, run_part_one hte ha (by simp [show n * te.sz < X.size by omega]) _, ?_, fun _ h => by rw [h, Nat.mul_one], fun h => by cases h⟩
          unfold Go.AL.part; rw [ha]
          exact hv _ (by omega)
        · have hag : VR e (.agg ((cs.drop (n * te.sz)).take te.sz)) (.agg (X.extract (n * te.sz) (n * te.sz + te.sz))) := by
            refine .agg _ _ (by simp; omega) (fun i hi => ?_)
            simp at hi
            have h1 : i < te.sz := by omega
            have := hv (n * te.sz + i) (by omega)
            have h2 : n * te.sz + i < X.size := by omega
            have h3 : i < min (n * te.sz + te.sz) X.size - n * te.sz := by omega
            simpa [List.getD, h1, List.getElem?_take, List.getElem?_drop, Array.getElem?_extract, h2, h3] using this
          refine ⟨_, run_part_agg hte ha _ _ _, ?_, (fun h => by cases h), fun _ => hag⟩
          unfold Go.AL.part; rw [ha]
          exact hag
      split
      · rename_i n
        obtain ⟨k, rfl⟩ := hci n rfl
        cases hlt : Nat.blt n m
        · trivial
        have hlt : n < m := by simpa using hlt
        obtain ⟨c, h1, h2, _⟩ := hpart n hlt
        exact ARok.same hg h2 (by rw [hrun k n (by omega) (by omega)]; simpa using h1)
      · split
        · rename_i k n
          have := hi.int_inv; subst this
          cases ha : te.d.isAgg
          · simp only
            cases h1 : Nat.beq te.sz 1
            · trivial
            have h1 := Nat.eq_of_beq_eq_true h1
            simp only
            split
            · rename_i k' l hmk
              obtain ⟨s1, s2, s3⟩ := mkLX_spec hmk
              refine ARok.need hg fun hq => ?_
              obtain ⟨hq0, hq1⟩ := hq
              obtain ⟨c, r1, r2, r3, _⟩ := hpart n.toNat (by omega)
              have hln : (LX.il k' l).n = cs.length := by rw [LX.n, s1]
              refine ⟨c, ?_, by rw [hrun k n hq0 hq1]; exact r1⟩
              rw [get_real hp s2 hq0 (by rw [hln, hlen, h1]; omega), r3 ha h1, LX.at_, s1]
              exact hv _ (by rw [hlen, h1]; omega)
            · trivial
          · simp only
            split
            · rename_i s xs hmk
              split
              · rename_i l
                cases hll : Nat.beq l.length te.sz
                · trivial
                simp only
                cases h1 : Nat.beq te.sz 1
                · obtain ⟨s1, s2, s3⟩ := mkLX_spec hmk
                  refine ARok.need hg fun hq => ?_
                  obtain ⟨hq0, hq1⟩ := hq
                  obtain ⟨c, r1, r2, _, r4⟩ := hpart n.toNat (by omega)
                  have hln : (LX.gl (.rc l) xs).n = m := by rw [LX.n, s1, chunk_length]
                  refine ⟨c, ?_, by rw [hrun k n hq0 hq1]; exact r1⟩
                  rw [get_real hp s2 hq0 (by rw [hln]; exact hq1), LX.at_, s1, List.getD, chunk_get _ h1 _ _ _ (by omega)]
                  exact r4 ha
                · trivial
              · trivial
            · trivial
        · trivial
    · trivial
theorem run_slice {t el : Nat} {te : TI} (hu : P.underlying t = some (.slice el)) (hte : TIOK P el te) (a : Option Addr) (n cap : Nat) (lo hi mx : Option Value) (l h m : Int)
    (hlo : lo = none ∧ l = 0 ∨ ∃ k, lo = some (.int k l)) (hhi : hi = none ∧ h = n ∨ ∃ k, hi = some (.int k h)) (hmx : mx = none ∧ m = cap ∨ ∃ k k', mx = some (.int k m) ∧ hi = some (.int k' h))
    (h0 : 0 ≤ l) (h1 : l ≤ h) (h2 : h ≤ m) (h3 : m ≤ cap) (w : World) :
    (Instr.sliceAt t (.slice a n cap) lo hi mx).run P w = .ok (.slice (if m.toNat = l.toNat then a else a.map (·.add (l.toNat * te.sz))) (h.toNat - l.toNat) (m.toNat - l.toNat)) w := by
  have b1 : ∀ (k : IntKind) (i : Int) (y : Nat) (code : BoundsCode), 0 ≤ i → i ≤ y → (Instr.sliceBound (.int k i) y code).run P w = .ok i.toNat w := fun k i y code ha hb => by
    simp [Instr.sliceBound, asIntOf, ha, hb]
  have key : (Instr.sliceBounds true n cap lo hi mx).run P w = .ok (l.toNat, h.toNat, m.toNat) w := by
    unfold Instr.sliceBounds
    rcases hmx with ⟨rfl, rfl⟩ | ⟨k, k', rfl, rfl⟩
    · rcases hhi with ⟨rfl, rfl⟩ | ⟨k, rfl⟩
      · rcases hlo with ⟨rfl, rfl⟩ | ⟨k', rfl⟩
        · simp
        · simp [b1 k' l n _ h0 h1]
      · rcases hlo with ⟨rfl, rfl⟩ | ⟨k', rfl⟩
        · simp [b1 k h cap _ (by omega) (by omega)]
        · simp [b1 k h cap _ (by omega) (by omega), b1 k' l h.toNat _ h0 (by omega)]
    · rcases hlo with ⟨rfl, rfl⟩ | ⟨k2, rfl⟩
      · simp [b1 k m cap _ (by omega) h3, b1 k' h m.toNat _ (by omega) (by omega)]
      · simp [b1 k m cap _ (by omega) h3, b1 k' h m.toNat _ (by omega) (by omega), b1 k2 l h.toNat _ h0 (by omega)]
  simp only [Instr.sliceAt, Instr.slice, Sem.run_bind, run_underlying hu, Result.andThen_ok, key, hte.run_sizeOf, Sem.run_pure]
theorem PVR.sub {w : World} {ps : Nat → Nat} {q : LX} {a : Option Addr} {cap : Nat} {d : Value} (h : PVR w ps (.ls q .any) d) (hd : d = .slice a q.n cap) {z : Nat} (hz : q.kOK z = true) {l u m : Int} (h0 : 0 ≤ l) (h1 : l ≤ u) (h2 : u ≤ q.n) (h3 : u ≤ m) (h4 : m ≤ cap) :
    PVR w ps (.ls (q.sub p l u) .any) (.slice (if m.toNat = l.toNat then a else a.map (·.add (l.toNat * z))) (u.toNat - l.toNat) (m.toNat - l.toNat)) := by
  obtain ⟨s1, s2, s3, _⟩ := sub_real hp q l u
  have hn : (q.sub p l u).n = u.toNat - l.toNat := by rw [LX.n, s1, rSub_length _ _ _ h0 h1 h2]; omega
  have hnil : d = .slice none 0 0 → q.n = 0 → PVR w ps (.ls (q.sub p l u) .any) (.slice (if m.toNat = l.toNat then a else a.map (·.add (l.toNat * z))) (u.toNat - l.toNat) (m.toNat - l.toNat)) := fun hdn hq => by
    rw [hdn] at hd
    injection hd with e1 e2 e3
    subst e1; subst e3
    have e5 : u.toNat - l.toNat = 0 := by omega
    have e6 : m.toNat - l.toNat = 0 := by omega
    rw [Option.map_none, ite_self, e5, e6]
    exact .lsnil _ _ (by rw [hn, e5]) (s2 h.ls_fit) (.inl rfl)
  cases h with
  | lsnil _ _ hq hf hc => exact hnil rfl hq
  | lse _ a' hq hf =>
    injection hd with e1 e2 e3
    subst e1; subst e3
    have e5 : u.toNat - l.toNat = 0 := by omega
    have e6 : m.toNat - l.toNat = 0 := by omega
    have e7 : m.toNat = l.toNat := by omega
    rw [if_pos e7, e5, e6]
    exact .lse _ _ (by rw [hn, e5]) (s2 hf)
  | ls _ b off cp cv hcap hf hk hps hc ho hv =>
    injection hd with e1 e2 e3
    subst e1; subst e3
    rcases kOK_k hz with he | he
    · -- no elements at all
      have hq0 : q.n = 0 := by rw [LX.n, he]; rfl
      have e1 : u.toNat - l.toNat = 0 := by omega
      have hsub : (q.sub p l u).n = 0 := by rw [hn]; exact e1
      split
      · rw [← hn]
        refine .ls _ b off _ cv (by omega) (s2 hf) (fun i hi => by omega) (fun h => by omega) (fun i j hi => by omega) (fun i j hi => by omega) (fun i j hi => by omega)
      · simp only [Option.map_some, addr_add]
        rw [← hn]
        refine .ls _ b _ _ cv (by omega) (s2 hf) (fun i hi => by omega) (fun h => by omega) (fun i j hi => by omega) (fun i j hi => by omega) (fun i j hi => by omega)
    · subst he
      have hat : ∀ i, i < u.toNat - l.toNat → (q.sub p l u).at_ i = q.at_ (l.toNat + i) := fun i hi => by
        rw [LX.at_, s1, rSub_get _ _ _ _ _ (by omega)]
      rw [← hn]
      have hoff : ∀ off', (u.toNat - l.toNat ≠ 0 → off' = off + l.toNat * q.k) → PVR w ps (.ls (q.sub p l u) .any) (.slice (some ⟨b, off', none⟩) (q.sub p l u).n (m.toNat - l.toNat)) := fun off' ho' => by
        refine .ls _ b off' _ (fun i j => cv (l.toNat + i) j) (by omega) (s2 hf) (fun i hi => ?_) (fun h => ?_) (fun i j hi hj => ?_) (fun i j hi hj => ?_) (fun i j hi hj => ?_)
        · rw [hat i (by omega), s3]; exact hk _ (by omega)
        · rw [ho' (by omega), s3, hn]
          have := hps (by omega)
          have h5 : (l.toNat + (u.toNat - l.toNat)) * q.k ≤ q.n * q.k := Nat.mul_le_mul_right _ (by omega)
          rw [Nat.add_mul] at h5
          omega
        · rw [ho' (by omega), s3]
          have := hc (l.toNat + i) j (by omega) (by rw [← s3]; exact hj)
          rw [Nat.add_mul] at this
          rw [← this]; congr 2; omega
        · exact ho _ _ (by omega) (by rw [← s3]; exact hj)
        · rw [hat i (by omega)]
          exact hv _ _ (by omega) (by rw [← s3]; exact hj)
      split
      · exact hoff off (fun h => by omega)
      · simp only [Option.map_some, addr_add]
        exact hoff _ (fun _ => rfl)
end
end Go.AL
