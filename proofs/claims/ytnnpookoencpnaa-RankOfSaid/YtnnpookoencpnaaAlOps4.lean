/-
  AL: the operations, fourth part.
-/
import Derived.Test.YtnnpookoencpnaaAlOps3
import Derived.Laws.Slices
import Derived.Laws.BytesString
set_option linter.unusedSectionVars false
set_option linter.unusedVariables false
namespace Go.AL
open Go

theorem fld_of {fields : Array Field} {fs : List (Nat × Nat)} (h : fields.toList.map (fun f => (f.offset, f.type)) = fs) {i off t : Nat} (hi : fs[i]? = some (off, t)) :
    ∃ f, fields[i]? = some f ∧ f.offset = off ∧ f.type = t := by
  rw [← h, List.getElem?_map] at hi
  cases hf : fields.toList[i]? with
  | none => rw [hf] at hi; cases hi
  | some f =>
    rw [hf] at hi
    simp only [Option.map_some, Option.some.injEq, Prod.mk.injEq] at hi
    exact ⟨f, by simpa using hf, hi.1, hi.2⟩
theorem getD_drop (xs : List AVal) (n j : Nat) : (xs.drop n).getD j .junk = xs.getD (n + j) .junk := by simp [List.getD, List.getElem?_drop]
theorem bytes_get (s : ByteArray) (i : Nat) (h : i < s.size) : s[i]? = some ((s.data.toList.getD i 0)) := by
  have h' : i < s.data.size := h
  rw [getElem?_pos s i h]
  simp only [List.getD, Array.getElem?_toList, h', getElem?_pos, Option.getD_some]
  rfl

theorem foldl_push : ∀ (l : List Int) (s : ByteArray), (l.foldl (fun r n => r.push (UInt8.ofNat n.toNat)) s).data.toList = s.data.toList ++ l.map fun n => n.toNat.toUInt8
  | [], s => by simp
  | n :: l, s => by
    rw [List.foldl_cons, foldl_push l]
    simp [ByteArray.push]
/-- Bytes as a text. -/
theorem run_bytes_of {P : Program} (w : World) {ps : Nat → Nat} {l : List Int} {c : Value} (h : PVR w ps (.ls (.il .u8 l) .any) c) :
    ∃ st : ByteArray, (Conv.bytesToString c).run P w = .ok (.string st) w ∧ l.map (fun n => n.toNat.toUInt8) = st.data.toList := by
  have key : ∀ (a : Addr) (len cap : Nat), (loadCells a len).run P w = .ok (l.map (Value.int .u8)).toArray w → ∃ st : ByteArray, (Conv.bytesToString (.slice (some a) len cap)).run P w = .ok (.string st) w ∧ l.map (fun n => n.toNat.toUInt8) = st.data.toList := fun a len cap hl => by
    refine ⟨_, run_bytesToString w a len cap l hl, ?_⟩
    rw [foldl_push]
    simp
  have nil0 : ∀ q : LX, q = .il .u8 l → q.n = 0 → l = [] := fun q hq h => by
    subst hq
    simpa [LX.n, LX.toL] using h
  generalize hv : AVal.ls (.il .u8 l) .any = v at h
  cases h <;> cases hv
  · rename_i hq hf hc
    have := nil0 _ rfl hq
    subst this
    exact ⟨ByteArray.empty, by simp [Conv.bytesToString], by simp⟩
  · rename_i a hq hf
    have := nil0 _ rfl hq
    subst this
    exact key a 0 0 (by simp [loadCells, loadCellsFrom])
  · rename_i b off cap cv hcap hf hk hp hc h1 hv
    have hn : (LX.il .u8 l).n = l.length := by simp [LX.n, LX.toL]
    rw [hn] at hc hv ⊢
    refine key _ _ _ ?_
    have hcv : ∀ i, i < l.length → cv i 0 = .int .u8 (l.getD i 0) := fun i hi => by
      have h2 := hv i 0 hi (show 0 < 1 by decide)
      have h3 : (LX.il .u8 l).at_ i = .int .u8 (l.getD i 0) := by simp [LX.at_, LX.toL, List.getD, hi]
      rw [h3] at h2
      simp only [AVal.cells, List.getD_cons_zero] at h2
      generalize cv i 0 = y at h2
      cases h2; rfl
    have := run_loadCells_list (P := P) w ⟨b, off, none⟩ (l.map (Value.int .u8)) (fun j v hj => by
      have hjl : j < l.length := by have := (List.getElem?_eq_some_iff.1 hj).1; simpa using this
      have h4 := hc j 0 hjl (show 0 < 1 by decide)
      have e1 : off + j * (LX.il .u8 l).k + 0 = off + j := by show off + j * 1 + 0 = _; omega
      rw [e1, hcv j hjl] at h4
      have e2 : (⟨b, off, none⟩ : Addr).add j = ⟨b, off + j, none⟩ := by unfold Addr.add; split <;> simp_all
      rw [e2, h4]
      rw [List.getElem?_map, List.getElem?_eq_getElem hjl] at hj
      simp only [Option.map_some, Option.some.injEq] at hj
      rw [← hj]
      simp [List.getD, hjl])
    rw [List.length_map] at this
    exact this
section
variable {e : Env} {P : Program} {T : Tab} (hT : TabOK P T) (hg : Good e) {p : Pr} (hp : DataOK p)
include hT hg hp
theorem aUn_ok {op : UnOp} {x : AVal} {c : Value} (hx : VR e x c) : ARok e (aUn p op x e.h) ((Op.unary op c).run P e.w) := by
  unfold aUn
  split
  · have := hx.bool_inv; subst this
    exact ARok.same hg (c := .bool _) (by rw [hp.bn]; exact .bool) (by simp [Op.unary])
  · have := hx.int_inv; subst this
    exact ARok.same hg (c := .int _ _) (by rw [hp.u1]; exact .int) (by simp [Op.unary, Op.intArith, rU1])
  · have := hx.int_inv; subst this
    exact ARok.same hg (c := .int _ _) (by rw [hp.u1]; exact .int) (by simp [Op.unary, Op.intBits, rU1])
  · trivial
theorem aConv_ok {s d : Nat} {x : AVal} {c : Value} (hx : VR e x c) : ARok e (aConv p T s d x e.h) ((convert s d c).run P e.w) := by
  unfold aConv
  cases hs : T.get? s with
  | none => trivial
  | some ts =>
  cases hd : T.get? d with
  | none => trivial
  | some td =>
  obtain ⟨ds, hus, hds⟩ := (hT _ _ hs).under
  obtain ⟨dd, hud, hdd⟩ := (hT _ _ hd).under
  simp only
  cases hk : td.d <;> (try trivial)
  · rw [hk] at hdd; simp only [DOK] at hdd; subst hdd
    simp only
    split
    · have := hx.int_inv; subst this
      refine ARok.same hg (c := .int _ _) (by rw [hp.cv]; exact .int) ?_
      simp [convert, run_underlying hus, run_underlying hud, Conv.intToInt]
    · trivial
  · rw [hk] at hdd; simp only [DOK] at hdd; subst hdd
    simp only
    split
    · obtain ⟨t, rfl, rfl⟩ := hx.str_inv
      cases hks : ts.d <;> (try trivial)
      rw [hks] at hds; simp only [DOK] at hds; subst hds
      refine ARok.same hg (c := .string _) (.str' rfl) ?_
      simp [convert, run_underlying hus, run_underlying hud]
    · rename_i q cp
      split
      · rename_i el hks
        rw [hks] at hds; simp only [DOK] at hds; subst hds
        split
        · rename_i te hte
          obtain ⟨dte, hue, hde⟩ := (hT _ _ hte).under
          split
          · rename_i hkt
            rw [hkt] at hde; simp only [DOK] at hde; subst hde
            split
            · rename_i l
              obtain ⟨st, h1, h2⟩ := run_bytes_of (P := P) e.w hx.ls_any
              have hc : ∃ a n m, c = .slice a n m := by
                obtain ⟨a, cap, h, _⟩ := hx.ls_len
                exact ⟨a, _, cap, h⟩
              obtain ⟨a, n, m, rfl⟩ := hc
              refine ARok.same hg (c := .string st) (.str' (by rw [hp.b2s]; exact h2.symm)) ?_
              rw [run_convert_bytes_string e.w s d el a n m hus hue hud]
              exact h1
            · trivial
          · trivial
        · trivial
      · trivial
    · trivial
theorem aMkI_ok {t : Nat} {x : AVal} {c : Value} (hx : VR e x c) : ARok e (aMkI T t x e.h) ((Instr.makeInterface t c).run P e.w) := by
  unfold aMkI
  cases hs : T.get? t with
  | none => trivial
  | some ts =>
  obtain ⟨ds, hus, hds⟩ := (hT _ _ hs).under
  simp only
  have key : (∀ ms, ds ≠ .interface ms) → ARok e (.ok (.iface t x) e.h) ((Instr.makeInterface t c).run P e.w) := fun h => by
    refine ARok.same hg (c := .iface t c) (.iface _ _ _ hx) ?_
    simp only [Instr.makeInterface, Sem.run_bind, run_underlying hus, Result.andThen_ok]
    cases ds <;> first | rfl | exact absurd rfl (h _)
  cases hk : ts.d <;> (try trivial) <;> (refine key fun ms hms => ?_) <;> rw [hk] at hds <;> simp only [DOK] at hds <;> subst hms <;> (first | (obtain ⟨_, h, _⟩ := hds; cases h; done) | (obtain ⟨_, _, _, h⟩ := hds; cases h; done) | (cases hds; done))
theorem aField_ok {s f : Nat} {x : AVal} {c : Value} (hx : VR e x c) : ARok e (aField T s x f e.h) ((Instr.field s c f).run P e.w) := by
  unfold aField
  cases hs : T.get? s with
  | none => trivial
  | some ts =>
  obtain ⟨ds, hus, hds⟩ := (hT _ _ hs).under
  simp only
  cases hk : ts.d <;> (try trivial)
  rename_i fs
  rw [hk] at hds; simp only [DOK] at hds
  obtain ⟨fields, rfl, hfs⟩ := hds
  simp only
  split
  · rename_i off t hft
    cases ht : T.get? t with
    | none => trivial
    | some tf =>
    have htf := hT _ _ ht
    simp only
    split
    · rename_i cs
      cases hle : Nat.ble (off + tf.sz) cs.length
      · trivial
      have hle := Nat.le_of_ble_eq_true hle
      obtain ⟨X, rfl, hl, hv⟩ := hx.agg_inv
      obtain ⟨fl, hfl, ho, hty⟩ := fld_of hfs hft
      subst ho; subst hty
      have hrun : ∀ r, (Go.part fl.type X fl.offset).run P e.w = r → (Instr.field s (.agg X) f).run P e.w = r := fun r h => by
        simp only [Instr.field, Sem.run_bind, run_underlying hus, Result.andThen_ok, hfl, asAgg, Sem.run_pure]
        exact h
      simp only
      cases ha : tf.d.isAgg
      · have h1 := htf.one ha
        refine ARok.same hg (c := X.getD fl.offset undef) ?_ (hrun _ (run_part_one htf ha (by simp [show fl.offset < X.size by omega]) _))
        unfold Go.AL.part; rw [ha]
        exact hv _ (by omega)
      · refine ARok.same hg ?_ (hrun _ (run_part_agg htf ha _ _ _))
        unfold Go.AL.part; rw [ha]
        refine .agg _ _ (by simp; omega) (fun i hi => ?_)
        simp at hi
        have h1 : i < tf.sz := by omega
        have := hv (fl.offset + i) (by omega)
        have h2 : fl.offset + i < X.size := by omega
        have h3 : i < min (fl.offset + tf.sz) X.size - fl.offset := by omega
        simpa [List.getD, h1, List.getElem?_take, List.getElem?_drop, Array.getElem?_extract, h2, h3] using this
    · trivial
  · trivial
theorem aFieldAddr_ok {s f : Nat} {x : AVal} {c : Value} (hx : VR e x c) : ARok e (aFieldAddr T s x f e.h) ((Instr.fieldAt s c f).run P e.w) := by
  unfold aFieldAddr
  cases hs : T.get? s with
  | none => trivial
  | some ts =>
  obtain ⟨ds, hus, hds⟩ := (hT _ _ hs).under
  simp only
  cases hk : ts.d <;> (try trivial)
  rename_i fs
  rw [hk] at hds; simp only [DOK] at hds
  obtain ⟨fields, rfl, hfs⟩ := hds
  simp only
  split
  · rename_i off t hft
    cases ht : T.get? t with
    | none => trivial
    | some tf =>
    have htf := hT _ _ ht
    simp only
    cases hz : Nat.blt 0 tf.sz
    · trivial
    have hz : 0 < tf.sz := by simpa using hz
    obtain ⟨fl, hfl, ho, hty⟩ := fld_of hfs hft
    subst ho; subst hty
    have hrun : ∀ b o, (Instr.fieldAt s (.pointer (some ⟨b, o, none⟩)) f).run P e.w = .ok (.pointer (some ⟨b, o + fl.offset, none⟩)) e.w := fun b o => by
      simp only [Instr.fieldAt, Sem.run_bind, run_underlying hus, Result.andThen_ok, hfl, Instr.sureAddr, Sem.run_pure, fieldPlace, htf.run_sizeOf]
      rw [if_neg (by omega)]
      simp [addr_add]
    simp only
    split
    · rename_i i o
      split
      · rename_i vs hob
        cases hle : Nat.ble (o + fl.offset) vs.length
        · trivial
        have hle := Nat.le_of_ble_eq_true hle
        have hb : boxAt e.h[i]? fun vs => ∃ b, c = .pointer (some ⟨b, o, none⟩) ∧ e.sg i = some b ∧ o ≤ vs.length := by
          cases hx with
          | ptr _ _ _ h1 h => exact h
          | pure _ _ h => cases h
        rw [hob] at hb
        obtain ⟨b, rfl, hsg, _⟩ := hb
        refine ARok.same hg ?_ (hrun b o)
        refine .ptr _ _ _ rfl ?_
        rw [hob]
        exact ⟨b, rfl, hsg, hle⟩
      · trivial
    · rename_i i g ix o
      split
      · rename_i g' q hob
        cases hgg : Nat.beq g g'
        · trivial
        obtain rfl := Nat.eq_of_beq_eq_true hgg
        have hb : rwAt e.h[i]? g fun q => 0 ≤ ix ∧ ix < q.n ∧ ∃ b, c = .pointer (some ⟨b, ix.toNat * q.k + o, none⟩) ∧ e.sg i = some b := by
          cases hx with
          | pe _ _ _ _ _ h1 h => exact h
          | pure _ _ h => cases h
        rw [hob] at hb
        obtain ⟨a1, a2, b, rfl, hsg⟩ := hb.2 rfl
        refine ARok.same hg ?_ (hrun b _)
        refine .pe _ _ _ _ _ rfl ?_
        rw [hob]
        exact ⟨Nat.le_refl _, fun _ => ⟨a1, a2, b, by rw [Nat.add_assoc], hsg⟩⟩
      · trivial
    · rename_i xs
      cases hle : Nat.ble fl.offset xs.length
      · trivial
      have hle := Nat.le_of_ble_eq_true hle
      cases hx with
      | pure _ _ h => cases h with
        | pp _ b o cv hps hc hv =>
          refine ARok.same hg ?_ (hrun b o)
          refine .pure _ _ (.pp _ _ _ (fun j => cv (fl.offset + j)) (fun h => ?_) (fun j hj => ?_) (fun j hj => ?_))
          · have : xs ≠ [] := fun h' => h (by rw [h']; simp)
            have := hps this
            simp; omega
          · simp at hj
            have := hc (fl.offset + j) (by omega)
            rwa [← Nat.add_assoc] at this
          · simp at hj
            rw [getD_drop]
            exact hv _ (by omega)
    · trivial
  · trivial
theorem aExtract_ok {i : Nat} {x : AVal} {c : Value} (hx : VR e x c) : ARok e (aExtract x i e.h) ((Instr.extract c i).run P e.w) := by
  unfold aExtract
  split
  · rename_i vs
    obtain ⟨X, rfl, hl, hv⟩ := hx.tup_inv
    cases hi : vs[i]? with
    | none => trivial
    | some v =>
    have hlt : i < vs.length := (List.getElem?_eq_some_iff.1 hi).1
    have hlt' : i < X.size := by omega
    refine ARok.same hg (c := X.getD i undef) ?_ ?_
    · have := hv i hlt
      simpa [List.getD, hi] using this
    · simp [Instr.extract, hlt']
  · trivial
theorem aAssert_ok {t a : Nat} {ok : Bool} {x : AVal} {c : Value} (hx : VR e x c) : ARok e (aAssert T x a ok e.h) ((Instr.typeAssert c t a ok).run P e.w) := by
  unfold aAssert
  split
  · rename_i u v
    obtain ⟨d, rfl, hv⟩ := hx.iface_inv
    cases hs : T.get? a with
    | none => trivial
    | some ta =>
    obtain ⟨da, hua, hda⟩ := (hT _ _ hs).under
    obtain ⟨z, hz, hz1, hz2, hz3⟩ := (hT _ _ hs).run_zero
    simp only
    have key : (∀ ms, da ≠ .interface ms) → ARok e (match Nat.beq u a with
        | true => match ok with
          | true => .ok (.tup [v, .bool true]) e.h
          | false => .ok v e.h
        | false => match ok with
          | true => .ok (.tup [ta.zero, .bool false]) e.h
          | false => .stuck) ((Instr.typeAssert (.iface u d) t a ok).run P e.w) := fun h => by
      have pair : ∀ {x : AVal} {y : Value} {b : Bool}, VR e x y → VR e (.tup [x, .bool b]) (.tuple #[y, .bool b]) := fun hxy => by
        refine .tup _ _ rfl fun i hi => ?_
        match i, hi with
        | 0, _ => exact hxy
        | 1, _ => exact .bool
      cases hb : Nat.beq u a
      · have hne : u ≠ a := fun h => by rw [h] at hb; simp at hb
        cases ok
        · trivial
        · refine ARok.same hg (c := .tuple #[z, .bool false]) (pair (.pure _ _ (hz3 _ _))) ?_
          simp only [Instr.typeAssert, Sem.run_bind, run_underlying hua, Result.andThen_ok]
          cases da <;> first | exact absurd rfl (h _) | simp [hne, hz]
      · have hne := Nat.eq_of_beq_eq_true hb
        subst hne
        cases ok
        · refine ARok.same hg (c := d) hv ?_
          simp only [Instr.typeAssert, Sem.run_bind, run_underlying hua, Result.andThen_ok]
          cases da <;> first | exact absurd rfl (h _) | simp
        · refine ARok.same hg (c := .tuple #[d, .bool true]) (pair hv) ?_
          simp only [Instr.typeAssert, Sem.run_bind, run_underlying hua, Result.andThen_ok]
          cases da <;> first | exact absurd rfl (h _) | simp
    cases hk : ta.d <;> (try trivial) <;> (refine key fun ms hms => ?_) <;> rw [hk] at hda <;> simp only [DOK] at hda <;> subst hms <;> (first | (obtain ⟨_, h, _⟩ := hda; cases h; done) | (obtain ⟨_, _, _, h⟩ := hda; cases h; done) | (cases hda; done))
  · trivial
theorem aMax_ok {x y : AVal} {c d : Value} (hx : VR e x c) (hy : VR e y d) (ts : Array TypeId) (t : TypeId) : ARok e (aMax p x y e.h) ((Builtin.max_ ts t #[c, d]).run P e.w) := by
  unfold aMax
  split
  · have := hx.int_inv; have := hy.int_inv; subst_vars
    exact ARok.same hg (c := .int _ _) (by rw [hp.mx]; exact .int) (by simp [Builtin.max_, Builtin.max2])
  · trivial
theorem aMin_ok {x y : AVal} {c d : Value} (hx : VR e x c) (hy : VR e y d) (ts : Array TypeId) (t : TypeId) : ARok e (aMin p x y e.h) ((Builtin.min_ ts t #[c, d]).run P e.w) := by
  unfold aMin
  split
  · have := hx.int_inv; have := hy.int_inv; subst_vars
    exact ARok.same hg (c := .int _ _) (by rw [hp.mn]; exact .int) (by simp [Builtin.min_, Builtin.min2])
  · trivial
theorem VR.sl_inv {i g : Nat} {lo hi : Int} {c : Value} (h : VR e (.sl i g lo hi) c) {q : LX} (hob : e.h[i]? = some (.rw g q)) : 0 ≤ lo ∧ lo ≤ hi ∧ hi ≤ q.n ∧
      ((c = .slice none 0 0 ∧ lo = 0 ∧ hi = 0 ∧ q.n = 0) ∨
        ∃ b cap off : Nat, c = .slice (some ⟨b, off, none⟩) (hi - lo).toNat cap ∧ e.sg i = some b ∧ q.n - lo.toNat ≤ cap ∧
          (cap = 0 ∨ (off = lo.toNat * q.k ∧ off + cap * q.k ≤ cellsSize e.w b))) := by
  cases h with
  | pure _ _ h => cases h
  | sl _ _ _ _ _ h1 h => rw [hob] at h; exact h.2 rfl
theorem aLen_ok {t : Nat} {x : AVal} {c : Value} (hx : VR e x c) (ty : TypeId) : ARok e (aLen p T t x e.h) ((Builtin.len_ #[t] ty #[c]).run P e.w) := by
  unfold aLen
  cases hs : T.get? t with
  | none => trivial
  | some ti =>
  obtain ⟨d, hu, hd⟩ := (hT _ _ hs).under
  simp only
  cases hk : ti.d <;> (try trivial) <;> rw [hk] at hd <;> simp only [DOK] at hd <;> subst hd <;> simp only
  · split
    · obtain ⟨s, rfl, rfl⟩ := hx.str_inv
      exact ARok.same hg (c := .int .i64 s.size) (by rw [hp.sln]; simp only [Array.length_toList]; exact .int) (by simp [Builtin.len_, goInt, run_underlying hu])
    · trivial
  · split
    · obtain ⟨a, cap, rfl, _⟩ := hx.ls_len
      exact ARok.same hg (c := .int .i64 _) (by rw [len_real hp]; exact .int) (by simp [Builtin.len_, goInt, run_underlying hu])
    · rename_i i g lo hi
      split
      · rename_i g' q hob
        cases hgg : Nat.beq g g'
        · trivial
        obtain rfl := Nat.eq_of_beq_eq_true hgg
        obtain ⟨a1, a2, a3, a4⟩ := VR.sl_inv hT hg hp hx hob
        rcases a4 with ⟨rfl, rfl, rfl, _⟩ | ⟨b, cap, off, rfl, _⟩
        · exact ARok.same hg (c := .int .i64 0) (by rw [hp.sbt]; exact .int) (by simp [Builtin.len_, goInt, run_underlying hu])
        · exact ARok.same hg (c := .int .i64 (hi - lo)) (by rw [hp.sbt]; exact .int) (by simp [Builtin.len_, goInt, run_underlying hu]; omega)
      · trivial
    · trivial
  · exact ARok.same hg (c := .int .i64 _) .int (by simp [Builtin.len_, goInt, run_underlying hu])
end
end Go.AL
