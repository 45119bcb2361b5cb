/-
  AL: the operations, fourth part.
-/
import Derived.Test.YtoeekjddeknmbaaGreatAl1
import Derived.Laws.Slices
import Derived.Laws.BytesString
import Derived.Laws.CopyRow
import Derived.RangeFuncRecord
set_option linter.unusedSectionVars false
set_option linter.unusedVariables false
namespace Go.AL
open Go
theorem fld_of {fields : Array Field} {fs : List (Nat × Nat)} (h : fields.toList.map (fun f => (f.offset, f.type)) = fs) {i off t : Nat} (hi : fs[i]? = some (off, t)) :
 ∃ f, fields[i]? = some f ∧ f.offset = off ∧ f.type = t := by
 rw [← h, List.getElem?_map] at hi
 cases hf : fields.toList[i]? with
 | none => rw [hf] at hi; cases hi
 | some f =>
   rw [hf] at hi
   simp only [Option.map_some, Option.some.injEq, Prod.mk.injEq] at hi
   exact ⟨f, by simpa using hf, hi.1, hi.2⟩
theorem getD_drop (xs : List AVal) (n j : Nat) : (xs.drop n).getD j .junk = xs.getD (n + j) .junk := by simp [List.getD, List.getElem?_drop]
theorem bytes_get (s : ByteArray) (i : Nat) (h : i < s.size) : s[i]? = some ((s.data.toList.getD i 0)) := by
 have h' : i < s.data.size := h
 rw [getElem?_pos s i h]
 simp only [List.getD, Array.getElem?_toList, h', getElem?_pos, Option.getD_some]
 rfl
theorem foldl_push : ∀ (l : List Int) (s : ByteArray), (l.foldl (fun r n => r.push (UInt8.ofNat n.toNat)) s).data.toList = s.data.toList ++ l.map fun n => n.toNat.toUInt8
 | [], s => by simp
 | n :: l, s => by
   rw [List.foldl_cons, foldl_push l]
   simp [ByteArray.push]
theorem run_bytes_of {P : Program} (w : World) {ps : Nat → Nat} {l : List Int} {c : Value} (h : PVR w ps (.ls (.il .u8 l) .any) c) :
 ∃ st : ByteArray, (Conv.bytesToString c).run P w = .ok (.string st) w ∧ l.map (fun n => n.toNat.toUInt8) = st.data.toList := by
 have key : ∀ (a : Addr) (len cap : Nat), (loadCells a len).run P w = .ok (l.map (Value.int .u8)).toArray w → ∃ st : ByteArray, (Conv.bytesToString (.slice (some a) len cap)).run P w = .ok (.string st) w ∧ l.map (fun n => n.toNat.toUInt8) = st.data.toList := fun a len cap hl => by
  refine ⟨_, run_bytesToString w a len cap l hl, ?_⟩
  rw [foldl_push]
  simp
 have nil0 : ∀ q : LX, q = .il .u8 l → q.n = 0 → l = [] := fun q hq h => by
  subst hq
  simpa [LX.n, LX.toL] using h
 generalize hv : AVal.ls (.il .u8 l) .any = v at h
 cases h <;> cases hv
 ·rename_i hq hf hc
  have := nil0 _ rfl hq
  subst this
  exact ⟨ByteArray.empty, by simp [Conv.bytesToString], by simp⟩
 ·rename_i a hq hf
  have := nil0 _ rfl hq
  subst this
  exact key a 0 0 (by simp [loadCells, loadCellsFrom])
 ·rename_i b off cap cv hcap hf hk hp hc h1 hv
  have hn : (LX.il .u8 l).n = l.length := by simp [LX.n, LX.toL]
  rw [hn] at hc hv ⊢
  refine key _ _ _ ?_
  have hcv : ∀ i, i < l.length → cv i 0 = .int .u8 (l.getD i 0) := fun i hi => by
   have h2 := hv i 0 hi (show 0 < 1 by decide)
   have h3 : (LX.il .u8 l).at_ i = .int .u8 (l.getD i 0) := by simp [LX.at_, LX.toL, List.getD, hi]
   rw [h3] at h2
   simp only [AVal.cells, List.getD_cons_zero] at h2
   generalize cv i 0 = y at h2
   cases h2; rfl
  have := run_loadCells_list (P := P) w ⟨b, off, none⟩ (l.map (Value.int .u8)) (fun j v hj => by
   have hjl : j < l.length := by have := (List.getElem?_eq_some_iff.1 hj).1; simpa using this
   have h4 := hc j 0 hjl (show 0 < 1 by decide)
   have e1 : off + j * (LX.il .u8 l).k + 0 = off + j := by show off + j * 1 + 0 = _; omega
   rw [e1, hcv j hjl] at h4
   have e2 : (⟨b, off, none⟩ : Addr).add j = ⟨b, off + j, none⟩ := by unfold Addr.add; split <;> simp_all
   rw [e2, h4]
   rw [List.getElem?_map, List.getElem?_eq_getElem hjl] at hj
   simp only [Option.map_some, Option.some.injEq] at hj
   rw [← hj]
   simp [List.getD, hjl])
  rw [List.length_map] at this
  exact this
section
variable {e : Env} {P : Program} {T : Tab} (hT : TabOK P T) (hg : Good e) {p : Pr} (hp : DataOK p)
include hT hg hp
theorem aUn_ok {op : UnOp} {x : AVal} {c : Value} (hx : VR e x c) : ARok e (aUn p op x e.h) ((Op.unary op c).run P e.w) := by
 unfold aUn
 split
 ·have := hx.bool_inv; subst this
  exact ARok.same hg (c := .bool _) (by rw [hp.bn]; exact .bool) (by simp [Op.unary])
 ·have := hx.int_inv; subst this
  exact ARok.same hg (c := .int _ _) (by rw [hp.u1]; exact .int) (by simp [Op.unary, Op.intArith, rU1])
 ·have := hx.int_inv; subst this
  exact ARok.same hg (c := .int _ _) (by rw [hp.u1]; exact .int) (by simp [Op.unary, Op.intBits, rU1])
 ·trivial
theorem aConv_ok {s d : Nat} {x : AVal} {c : Value} (hx : VR e x c) : ARok e (aConv p T s d x e.h) ((convert s d c).run P e.w) := by
 unfold aConv
 cases hs : T.get? s with
 | none => trivial
 | some ts =>
 cases hd : T.get? d with
 | none => trivial
 | some td =>
 obtain ⟨ds, hus, hds⟩ := (hT _ _ hs).under
 obtain ⟨dd, hud, hdd⟩ := (hT _ _ hd).under
 simp only
 cases hk : td.d <;> (try trivial)
 ·rw [hk] at hdd; simp only [DOK] at hdd; subst hdd
  simp only
  split
  ·have := hx.int_inv; subst this
   refine ARok.same hg (c := .int _ _) (by rw [hp.cv]; exact .int) ?_
   simp [convert, run_underlying hus, run_underlying hud, Conv.intToInt]
  ·trivial
 ·rw [hk] at hdd; simp only [DOK] at hdd; subst hdd
  simp only
  split
  ·obtain ⟨t, rfl, rfl⟩ := hx.str_inv
   cases hks : ts.d <;> (try trivial)
   rw [hks] at hds; simp only [DOK] at hds; subst hds
   refine ARok.same hg (c := .string _) (.str' rfl) ?_
   simp [convert, run_underlying hus, run_underlying hud]
  ·rename_i q cp
   split
   ·rename_i el hks
    rw [hks] at hds; simp only [DOK] at hds; subst hds
    split
    ·rename_i te hte
     obtain ⟨dte, hue, hde⟩ := (hT _ _ hte).under
     split
     ·rename_i hkt
      rw [hkt] at hde; simp only [DOK] at hde; subst hde
      split
      ·rename_i l
       obtain ⟨st, h1, h2⟩ := run_bytes_of (P := P) e.w hx.ls_any
       have hc : ∃ a n m, c = .slice a n m := by
        obtain ⟨a, cap, h, _⟩ := hx.ls_len
        exact ⟨a, _, cap, h⟩
       obtain ⟨a, n, m, rfl⟩ := hc
       refine ARok.same hg (c := .string st) (.str' (by rw [hp.b2s]; exact h2.symm)) ?_
       rw [run_convert_bytes_string e.w s d el a n m hus hue hud]
       exact h1
      ·trivial
     ·trivial
    ·trivial
   ·trivial
  ·trivial
theorem aMkI_ok {t : Nat} {x : AVal} {c : Value} (hx : VR e x c) : ARok e (aMkI T t x e.h) ((Instr.makeInterface t c).run P e.w) := by
 unfold aMkI
 cases hs : T.get? t with
 | none => trivial
 | some ts =>
 obtain ⟨ds, hus, hds⟩ := (hT _ _ hs).under
 simp only
 have key : (∀ ms, ds ≠ .interface ms) → ARok e (.ok (.iface t x) e.h) ((Instr.makeInterface t c).run P e.w) := fun h => by
  refine ARok.same hg (c := .iface t c) (.iface _ _ _ hx) ?_
  simp only [Instr.makeInterface, Sem.run_bind, run_underlying hus, Result.andThen_ok]
  cases ds <;> first | rfl | exact absurd rfl (h _)
 cases hk : ts.d <;> (try trivial) <;> (refine key fun ms hms => ?_) <;> rw [hk] at hds <;> simp only [DOK] at hds <;> subst hms <;> (first | (obtain ⟨_, h, _⟩ := hds; cases h; done) | (obtain ⟨_, _, _, h⟩ := hds; cases h; done) | (cases hds; done))
theorem aField_ok {s f : Nat} {x : AVal} {c : Value} (hx : VR e x c) : ARok e (aField T s x f e.h) ((Instr.field s c f).run P e.w) := by
 unfold aField
 cases hs : T.get? s with
 | none => trivial
 | some ts =>
 obtain ⟨ds, hus, hds⟩ := (hT _ _ hs).under
 simp only
 cases hk : ts.d <;> (try trivial)
 rename_i fs
 rw [hk] at hds; simp only [DOK] at hds
 obtain ⟨fields, rfl, hfs⟩ := hds
 simp only
 split
 ·rename_i off t hft
  cases ht : T.get? t with
  | none => trivial
  | some tf =>
  have htf := hT _ _ ht
  simp only
  split
  ·rename_i cs
   cases hle : Nat.ble (off + tf.sz) cs.length
   ·trivial
   have hle := Nat.le_of_ble_eq_true hle
   obtain ⟨X, rfl, hl, hv⟩ := hx.agg_inv
   obtain ⟨fl, hfl, ho, hty⟩ := fld_of hfs hft
   subst ho; subst hty
   have hrun : ∀ r, (Go.part fl.type X fl.offset).run P e.w = r → (Instr.field s (.agg X) f).run P e.w = r := fun r h => by
    simp only [Instr.field, Sem.run_bind, run_underlying hus, Result.andThen_ok, hfl, asAgg, Sem.run_pure]
    exact h
   simp only
   cases ha : tf.d.isAgg
   ·have h1 := htf.one ha
    refine ARok.same hg (c := X.getD fl.offset undef) ?_ (hrun _ (run_part_one htf ha (by simp [show fl.offset < X.size by omega]) _))
    unfold Go.AL.part; rw [ha]
    exact hv _ (by omega)
   ·refine ARok.same hg ?_ (hrun _ (run_part_agg htf ha _ _ _))
    unfold Go.AL.part; rw [ha]
    refine .agg _ _ (by simp; omega) (fun i hi => ?_)
    simp at hi
    have h1 : i < tf.sz := by omega
    have := hv (fl.offset + i) (by omega)
    have h2 : fl.offset + i < X.size := by omega
    have h3 : i < min (fl.offset + tf.sz) X.size - fl.offset := by omega
    simpa [List.getD, h1, List.getElem?_take, List.getElem?_drop, Array.getElem?_extract, h2, h3] using this
  ·trivial
 ·trivial
theorem aFieldAddr_ok {s f : Nat} {x : AVal} {c : Value} (hx : VR e x c) : ARok e (aFieldAddr T s x f e.h) ((Instr.fieldAt s c f).run P e.w) := by
 unfold aFieldAddr
 cases hs : T.get? s with
 | none => trivial
 | some ts =>
 obtain ⟨ds, hus, hds⟩ := (hT _ _ hs).under
 simp only
 cases hk : ts.d <;> (try trivial)
 rename_i fs
 rw [hk] at hds; simp only [DOK] at hds
 obtain ⟨fields, rfl, hfs⟩ := hds
 simp only
 split
 ·rename_i off t hft
  cases ht : T.get? t with
  | none => trivial
  | some tf =>
  have htf := hT _ _ ht
  simp only
  cases hz : Nat.blt 0 tf.sz
  ·trivial
  have hz : 0 < tf.sz := by simpa using hz
  obtain ⟨fl, hfl, ho, hty⟩ := fld_of hfs hft
  subst ho; subst hty
  have hrun : ∀ b o, (Instr.fieldAt s (.pointer (some ⟨b, o, none⟩)) f).run P e.w = .ok (.pointer (some ⟨b, o + fl.offset, none⟩)) e.w := fun b o => by
   simp only [Instr.fieldAt, Sem.run_bind, run_underlying hus, Result.andThen_ok, hfl, Instr.sureAddr, Sem.run_pure, fieldPlace, htf.run_sizeOf]
   rw [if_neg (by omega)]
   simp [addr_add]
  simp only
  split
  ·rename_i i o
   split
   ·rename_i vs hob
    cases hle : Nat.ble (o + fl.offset) vs.length
    ·trivial
    have hle := Nat.le_of_ble_eq_true hle
    have hb : boxAt e.h[i]? fun vs => ∃ b, c = .pointer (some ⟨b, o, none⟩) ∧ e.sg i = some b ∧ o ≤ vs.length := by
     cases hx with
     | ptr _ _ _ h1 h => exact h
     | pure _ _ h => cases h
    rw [hob] at hb
    obtain ⟨b, rfl, hsg, _⟩ := hb
    refine ARok.same hg ?_ (hrun b o)
    refine .ptr _ _ _ rfl ?_
    rw [hob]
    exact ⟨b, rfl, hsg, hle⟩
   ·trivial
  ·rename_i i g ix o
   split
   ·rename_i g' q hob
    cases hgg : Nat.beq g g'
    ·trivial
    obtain rfl := Nat.eq_of_beq_eq_true hgg
    have hb : rwAt e.h[i]? g fun q => 0 ≤ ix ∧ ix < q.n ∧ ∃ b, c = .pointer (some ⟨b, ix.toNat * q.k + o, none⟩) ∧ e.sg i = some b := by
     cases hx with
     | pe _ _ _ _ _ h1 h => exact h
     | pure _ _ h => cases h
    rw [hob] at hb
    obtain ⟨a1, a2, b, rfl, hsg⟩ := hb.2 rfl
    refine ARok.same hg ?_ (hrun b _)
    refine .pe _ _ _ _ _ rfl ?_
    rw [hob]
    exact ⟨Nat.le_refl _, fun _ => ⟨a1, a2, b, by rw [Nat.add_assoc], hsg⟩⟩
   ·trivial
  ·rename_i xs
   cases hle : Nat.ble fl.offset xs.length
   ·trivial
   have hle := Nat.le_of_ble_eq_true hle
   cases hx with
   | pure _ _ h => cases h with
     | pp _ b o cv hps hc hv =>
       refine ARok.same hg ?_ (hrun b o)
       refine .pure _ _ (.pp _ _ _ (fun j => cv (fl.offset + j)) (fun h => ?_) (fun j hj => ?_) (fun j hj => ?_))
       ·have : xs ≠ [] := fun h' => h (by rw [h']; simp)
        have := hps this
        simp; omega
       ·simp at hj
        have := hc (fl.offset + j) (by omega)
        rwa [← Nat.add_assoc] at this
       ·simp at hj
        rw [getD_drop]
        exact hv _ (by omega)
  ·trivial
 ·trivial
theorem aExtract_ok {i : Nat} {x : AVal} {c : Value} (hx : VR e x c) : ARok e (aExtract x i e.h) ((Instr.extract c i).run P e.w) := by
 unfold aExtract
 split
 ·rename_i vs
  obtain ⟨X, rfl, hl, hv⟩ := hx.tup_inv
  cases hi : vs[i]? with
  | none => trivial
  | some v =>
  have hlt : i < vs.length := (List.getElem?_eq_some_iff.1 hi).1
  have hlt' : i < X.size := by omega
  refine ARok.same hg (c := X.getD i undef) ?_ ?_
  ·have := hv i hlt
   simpa [List.getD, hi] using this
  ·simp [Instr.extract, hlt']
 ·trivial
theorem aAssert_ok {t a : Nat} {ok : Bool} {x : AVal} {c : Value} (hx : VR e x c) : ARok e (aAssert T x a ok e.h) ((Instr.typeAssert c t a ok).run P e.w) := by
 unfold aAssert
 split
 ·rename_i u v
  obtain ⟨d, rfl, hv⟩ := hx.iface_inv
  cases hs : T.get? a with
  | none => trivial
  | some ta =>
  obtain ⟨da, hua, hda⟩ := (hT _ _ hs).under
  obtain ⟨z, hz, hz1, hz2, hz3⟩ := (hT _ _ hs).run_zero
  simp only
  have key : (∀ ms, da ≠ .interface ms) → ARok e (match Nat.beq u a with
   | true => match ok with
     | true => .ok (.tup [v, .bool true]) e.h
     | false => .ok v e.h
   | false => match ok with
     | true => .ok (.tup [ta.zero, .bool false]) e.h
     | false => .stuck) ((Instr.typeAssert (.iface u d) t a ok).run P e.w) := fun h => by
   have pair : ∀ {x : AVal} {y : Value} {b : Bool}, VR e x y → VR e (.tup [x, .bool b]) (.tuple #[y, .bool b]) := fun hxy => by
    refine .tup _ _ rfl fun i hi => ?_
    match i, hi with
    | 0, _ => exact hxy
    | 1, _ => exact .bool
   cases hb : Nat.beq u a
   ·have hne : u ≠ a := fun h => by rw [h] at hb; simp at hb
    cases ok
    ·trivial
    ·refine ARok.same hg (c := .tuple #[z, .bool false]) (pair (.pure _ _ (hz3 _ _))) ?_
     simp only [Instr.typeAssert, Sem.run_bind, run_underlying hua, Result.andThen_ok]
     cases da <;> first | exact absurd rfl (h _) | simp [hne, hz]
   ·have hne := Nat.eq_of_beq_eq_true hb
    subst hne
    cases ok
    ·refine ARok.same hg (c := d) hv ?_
     simp only [Instr.typeAssert, Sem.run_bind, run_underlying hua, Result.andThen_ok]
     cases da <;> first | exact absurd rfl (h _) | simp
    ·refine ARok.same hg (c := .tuple #[d, .bool true]) (pair hv) ?_
     simp only [Instr.typeAssert, Sem.run_bind, run_underlying hua, Result.andThen_ok]
     cases da <;> first | exact absurd rfl (h _) | simp
  cases hk : ta.d <;> (try trivial) <;> (refine key fun ms hms => ?_) <;> rw [hk] at hda <;> simp only [DOK] at hda <;> subst hms <;> (first | (obtain ⟨_, h, _⟩ := hda; cases h; done) | (obtain ⟨_, _, _, h⟩ := hda; cases h; done) | (cases hda; done))
 ·trivial
theorem aMax_ok {x y : AVal} {c d : Value} (hx : VR e x c) (hy : VR e y d) (ts : Array TypeId) (t : TypeId) : ARok e (aMax p x y e.h) ((Builtin.max_ ts t #[c, d]).run P e.w) := by
 unfold aMax
 split
 ·have := hx.int_inv; have := hy.int_inv; subst_vars
  exact ARok.same hg (c := .int _ _) (by rw [hp.mx]; exact .int) (by simp [Builtin.max_, Builtin.max2])
 ·trivial
theorem aMin_ok {x y : AVal} {c d : Value} (hx : VR e x c) (hy : VR e y d) (ts : Array TypeId) (t : TypeId) : ARok e (aMin p x y e.h) ((Builtin.min_ ts t #[c, d]).run P e.w) := by
 unfold aMin
 split
 ·have := hx.int_inv; have := hy.int_inv; subst_vars
  exact ARok.same hg (c := .int _ _) (by rw [hp.mn]; exact .int) (by simp [Builtin.min_, Builtin.min2])
 ·trivial
theorem VR.sl_inv {i g : Nat} {lo hi : Int} {c : Value} (h : VR e (.sl i g lo hi) c) {q : LX} (hob : e.h[i]? = some (.rw g q)) : 0 ≤ lo ∧ lo ≤ hi ∧ hi ≤ q.n ∧
 (((∃ ad : Option Addr, c = .slice ad 0 0) ∧ lo = 0 ∧ hi = 0 ∧ q.n = 0) ∨
   ∃ b cap off : Nat, c = .slice (some ⟨b, off, none⟩) (hi - lo).toNat cap ∧ e.sg i = some b ∧ q.n - lo.toNat ≤ cap ∧
    (cap = 0 ∨ (off = lo.toNat * q.k ∧ off + cap * q.k ≤ cellsSize e.w b))) := by
 cases h with
 | pure _ _ h => cases h
 | sl _ _ _ _ _ h1 h => rw [hob] at h; exact h.2 rfl
theorem aLen_ok {t : Nat} {x : AVal} {c : Value} (hx : VR e x c) (ty : TypeId) : ARok e (aLen p T t x e.h) ((Builtin.len_ #[t] ty #[c]).run P e.w) := by
 unfold aLen
 cases hs : T.get? t with
 | none => trivial
 | some ti =>
 obtain ⟨d, hu, hd⟩ := (hT _ _ hs).under
 simp only
 cases hk : ti.d <;> (try trivial) <;> rw [hk] at hd <;> simp only [DOK] at hd <;> subst hd <;> simp only
 ·split
  ·obtain ⟨s, rfl, rfl⟩ := hx.str_inv
   exact ARok.same hg (c := .int .i64 s.size) (by rw [hp.sln]; simp only [Array.length_toList]; exact .int) (by simp [Builtin.len_, goInt, run_underlying hu])
  ·trivial
 ·split
  ·obtain ⟨a, cap, rfl, _⟩ := hx.ls_len
   exact ARok.same hg (c := .int .i64 _) (by rw [len_real hp]; exact .int) (by simp [Builtin.len_, goInt, run_underlying hu])
  ·rename_i i g lo hi
   split
   ·rename_i g' q hob
    cases hgg : Nat.beq g g'
    ·trivial
    obtain rfl := Nat.eq_of_beq_eq_true hgg
    obtain ⟨a1, a2, a3, a4⟩ := VR.sl_inv hT hg hp hx hob
    rcases a4 with ⟨⟨ad0, rfl⟩, rfl, rfl, _⟩ | ⟨b, cap, off, rfl, _⟩
    ·exact ARok.same hg (c := .int .i64 0) (by rw [hp.sbt]; exact .int) (by simp [Builtin.len_, goInt, run_underlying hu])
    ·exact ARok.same hg (c := .int .i64 (hi - lo)) (by rw [hp.sbt]; exact .int) (by simp [Builtin.len_, goInt, run_underlying hu]; omega)
   ·trivial
  ·trivial
 ·exact ARok.same hg (c := .int .i64 _) .int (by simp [Builtin.len_, goInt, run_underlying hu])
end
end Go.AL
/-
  AL: the operations, fifth part: indices, parts of slices, built structs.
-/
set_option linter.unusedSectionVars false
set_option linter.unusedVariables false
set_option linter.unusedSimpArgs false
namespace Go.AL
open Go
theorem addr_add' (b off j : Nat) : ({ block := b, off := off } : Addr).add j = ⟨b, off + j, none⟩ := addr_add b off j
theorem chunk_get (k : Nat) (hk : Nat.beq k 1 = false) : ∀ (m : Nat) (cs : List AVal) (i : Nat), i < m → (chunk k m cs)[i]? = some (.agg ((cs.drop (i * k)).take k))
 | m + 1, cs, 0, _ => by simp [chunk, hk]
 | m + 1, cs, i + 1, h => by
   simp only [chunk, List.getElem?_cons_succ]
   rw [chunk_get k hk m (cs.drop k) i (Nat.lt_of_succ_lt_succ h), List.drop_drop, show k + i * k = (i + 1) * k by rw [Nat.add_mul]; omega]
theorem chunk_length (k : Nat) : ∀ (m : Nat) (cs : List AVal), (chunk k m cs).length = m
 | 0, _ => rfl
 | m + 1, cs => by simp [chunk, chunk_length k m]
theorem rSub_length {α : Type} (l : List α) (a b : Int) (h0 : 0 ≤ a) (h1 : a ≤ b) (h2 : b ≤ l.length) : (rSub l a b).length = (b - a).toNat := by
 simp [rSub]; omega
theorem rSub_get {α : Type} (l : List α) (a b : Int) (d : α) (i : Nat) (h : i < (b - a).toNat) : (rSub l a b).getD i d = l.getD (a.toNat + i) d := by
 simp [rSub, List.getD, List.getElem?_take, h, List.getElem?_drop]
theorem PVR.ls_fit {w : World} {ps : Nat → Nat} {q : LX} {c : Cap} {d : Value} (h : PVR w ps (.ls q c) d) : q.fit := by cases h <;> assumption
section
variable {e : Env} {P : Program} {T : Tab} (hT : TabOK P T) (hg : Good e) {p : Pr} (hp : DataOK p)
include hT hg hp
theorem aIndexAddr_ok {t : Nat} {x i : AVal} {c d : Value} (hx : VR e x c) (hi : VR e i d) {ci : Option Nat} (hci : ∀ n, ci = some n → ∃ k, d = .int k n) :
 ARok e (aIndexAddr p T t x i ci e.h) ((Instr.indexAt t c d).run P e.w) := by
 unfold aIndexAddr
 cases hs : T.get? t with
 | none => trivial
 | some ti =>
 obtain ⟨dt, hu, hdt⟩ := (hT _ _ hs).under
 simp only
 cases hk : ti.d <;> (try trivial) <;> rw [hk] at hdt <;> simp only [DOK] at hdt <;> subst hdt <;> simp only
 ·-- a slice
  rename_i el
  cases hte : T.get? el with
  | none => trivial
  | some te =>
  have hte := hT _ _ hte
  simp only
  split
  ·rename_i q cp
   split
   ·rename_i k n
    have := hi.int_inv; subst this
    cases hsz : Nat.beq te.sz q.k
    ·trivial
    have hsz := Nat.eq_of_beq_eq_true hsz
    refine ARok.need hg fun hq => ?_
    rw [len_real hp] at hq
    obtain ⟨hq0, hq1⟩ := hq
    have hpv := hx.ls_any
    cases hpv with
    | lsnil _ _ h0 => omega
    | lse _ _ h0 => omega
    | ls _ b off cap cv hcap hf hkk hps hc h1 hv =>
      have hlt : (n.toNat + 1) * q.k ≤ q.n * q.k := Nat.mul_le_mul_right _ (by omega)
      rw [Nat.add_mul] at hlt
      have hcl := hkk n.toNat (by omega)
      refine ⟨.pointer (some ⟨b, off + n.toNat * q.k, none⟩), ?_, ?_⟩
      ·rw [get_real hp hf hq0 hq1]
       refine .pure _ _ (.pp _ _ _ (cv n.toNat) (fun _ => ?_) (fun j hj => ?_) (fun j hj => ?_))
       ·have := hps (by omega); omega
       ·exact hc _ _ (by omega) (by omega)
       ·exact hv _ _ (by omega) (by omega)
      ·simp only [Instr.indexAt, asIntOf, Sem.run_bind, Sem.run_pure, Result.andThen_ok, run_underlying hu, hte.run_sizeOf]
       rw [if_pos ⟨hq0, hq1⟩]
       simp [addr_add', hsz, hte.run_sizeOf]
   ·trivial
  ·rename_i j g lo hh
   split
   ·rename_i k n
    have := hi.int_inv; subst this
    split
    ·rename_i g' q hob
     cases hgg : Nat.beq g g'
     ·trivial
     obtain rfl := Nat.eq_of_beq_eq_true hgg
     cases hsz : Nat.beq te.sz q.k
     ·trivial
     have hsz := Nat.eq_of_beq_eq_true hsz
     refine ARok.need hg fun hq => ?_
     simp only [hp.sbt] at hq
     obtain ⟨hq0, hq1⟩ := hq
     obtain ⟨a1, a2, a3, a4⟩ := VR.sl_inv hT hg hp hx hob
     rcases a4 with ⟨_, r1, r2, _⟩ | ⟨b, cap, off, rfl, hsg, hcap, r⟩
     ·omega
     ·rcases r with r | ⟨r1, r2⟩
      ·omega
      refine ⟨.pointer (some ⟨b, off + n.toNat * q.k, none⟩), ?_, ?_⟩
      ·simp only [hp.ad]
       refine .pe _ _ _ _ _ rfl ?_
       rw [hob]
       refine ⟨Nat.le_refl _, fun _ => ⟨by omega, by omega, b, ?_, hsg⟩⟩
       rw [show (lo + n).toNat = lo.toNat + n.toNat by omega, Nat.add_mul, r1]
       rfl
      ·simp only [Instr.indexAt, asIntOf, Sem.run_bind, Sem.run_pure, Result.andThen_ok, run_underlying hu, hte.run_sizeOf]
       rw [if_pos ⟨hq0, by omega⟩]
       simp [addr_add', hsz, hte.run_sizeOf]
    ·trivial
   ·trivial
  ·trivial
 ·-- an array behind a pointer
  rename_i m el
  cases hte : T.get? el with
  | none => trivial
  | some te =>
  have hte := hT _ _ hte
  simp only
  split
  ·rename_i n
   obtain ⟨k, rfl⟩ := hci n rfl
   cases hlt : Nat.blt n m
   ·trivial
   have hlt : n < m := by simpa using hlt
   have hrun : ∀ b o, (Instr.indexAt t (.pointer (some ⟨b, o, none⟩)) (.int k n)).run P e.w = .ok (.pointer (some ⟨b, o + n * te.sz, none⟩)) e.w := fun b o => by
    simp only [Instr.indexAt, asIntOf, Sem.run_bind, Sem.run_pure, Result.andThen_ok, run_underlying hu, hte.run_sizeOf, Instr.sureAddr]
    rw [if_pos ⟨by omega, by omega⟩]
    simp [addr_add', hte.run_sizeOf]
   simp only
   split
   ·rename_i j o
    split
    ·rename_i vs hob
     cases hle : Nat.ble (o + n * te.sz) vs.length
     ·trivial
     have hle := Nat.le_of_ble_eq_true hle
     have hb : boxAt e.h[j]? fun vs => ∃ b, c = .pointer (some ⟨b, o, none⟩) ∧ e.sg j = some b ∧ o ≤ vs.length := by
      cases hx with
      | ptr _ _ _ h1 h => exact h
      | pure _ _ h => cases h
     rw [hob] at hb
     obtain ⟨b, rfl, hsg, _⟩ := hb
     refine ARok.same hg ?_ (hrun b o)
     refine .ptr _ _ _ rfl ?_
     rw [hob]
     exact ⟨b, rfl, hsg, hle⟩
    ·trivial
   ·rename_i xs
    cases hle : Nat.ble (n * te.sz) xs.length
    ·trivial
    have hle := Nat.le_of_ble_eq_true hle
    cases hx with
    | pure _ _ h => cases h with
      | pp _ b o cv hps hc hv =>
        refine ARok.same hg ?_ (hrun b o)
        refine .pure _ _ (.pp _ _ _ (fun j => cv (n * te.sz + j)) (fun h => ?_) (fun j hj => ?_) (fun j hj => ?_))
        ·have : xs ≠ [] := fun h' => h (by rw [h']; simp)
         have := hps this
         simp; omega
        ·simp at hj
         have := hc (n * te.sz + j) (by omega)
         rwa [← Nat.add_assoc] at this
        ·simp at hj
         rw [getD_drop]
         exact hv _ (by omega)
   ·trivial
  ·trivial
theorem aIndex_ok {t : Nat} {x i : AVal} {c d : Value} (hx : VR e x c) (hi : VR e i d) {ci : Option Nat} (hci : ∀ n, ci = some n → ∃ k, d = .int k n) :
 ARok e (aIndex p T t x i ci e.h) ((Instr.index t c d).run P e.w) := by
 unfold aIndex
 cases hs : T.get? t with
 | none => trivial
 | some ti =>
 obtain ⟨dt, hu, hdt⟩ := (hT _ _ hs).under
 simp only
 cases hk : ti.d <;> (try trivial) <;> rw [hk] at hdt <;> simp only [DOK] at hdt <;> subst hdt <;> simp only
 ·split
  ·obtain ⟨s, rfl, rfl⟩ := hx.str_inv
   split
   ·rename_i k n
    have := hi.int_inv; subst this
    refine ARok.need hg fun hq => ?_
    rw [hp.sln] at hq
    obtain ⟨hq0, hq1⟩ := hq
    simp only [Array.length_toList] at hq1
    have hlt : n.toNat < s.size := by have : (s.size : Int) = s.data.size := rfl; omega
    refine ⟨.int .u8 ((s.data.toList.getD n.toNat 0).toNat), by rw [hp.sgt]; exact .int, ?_⟩
    simp only [Instr.index, asIntOf, Sem.run_bind, Sem.run_pure, Result.andThen_ok, run_underlying hu, if_pos hq0, bytes_get s _ hlt]
   ·trivial
  ·trivial
 ·rename_i m el
  cases hte : T.get? el with
  | none => trivial
  | some te =>
  have hte := hT _ _ hte
  simp only
  split
  ·rename_i cs
   obtain ⟨X, rfl, hl, hv⟩ := hx.agg_inv
   cases hlen : Nat.beq cs.length (m * te.sz)
   ·trivial
   have hlen := Nat.eq_of_beq_eq_true hlen
   simp only
   have hrun : ∀ k (n : Int), 0 ≤ n → n < m → (Instr.index t (.agg X) (.int k n)).run P e.w = (Go.part el X (n.toNat * te.sz)).run P e.w := fun k n h0 h1 => by
    simp only [Instr.index, asIntOf, Sem.run_bind, Sem.run_pure, Result.andThen_ok, run_underlying hu, hte.run_sizeOf]
    rw [if_pos ⟨h0, h1⟩]
    simp [hte.run_sizeOf]
   have hpart : ∀ (n : Nat), n < m → ∃ c, (Go.part el X (n * te.sz)).run P e.w = .ok c e.w ∧ VR e (part te cs (n * te.sz)) c ∧
    (te.d.isAgg = false → te.sz = 1 → c = X.getD n undef) ∧ (te.d.isAgg = true → VR e (.agg ((cs.drop (n * te.sz)).take te.sz)) c) := fun n hn => by
    have hlt : (n + 1) * te.sz ≤ m * te.sz := Nat.mul_le_mul_right _ hn
    rw [Nat.add_mul] at hlt
    cases ha : te.d.isAgg
    ·have h1 := hte.one ha
     refine ⟨X.getD (n * te.sz) undef, run_part_one hte ha (by simp [show n * te.sz < X.size by omega]) _, ?_, fun _ h => by rw [h, Nat.mul_one], fun h => by cases h⟩
     unfold Go.AL.part; rw [ha]
     exact hv _ (by omega)
    ·have hag : VR e (.agg ((cs.drop (n * te.sz)).take te.sz)) (.agg (X.extract (n * te.sz) (n * te.sz + te.sz))) := by
      refine .agg _ _ (by simp; omega) (fun i hi => ?_)
      simp at hi
      have h1 : i < te.sz := by omega
      have := hv (n * te.sz + i) (by omega)
      have h2 : n * te.sz + i < X.size := by omega
      have h3 : i < min (n * te.sz + te.sz) X.size - n * te.sz := by omega
      simpa [List.getD, h1, List.getElem?_take, List.getElem?_drop, Array.getElem?_extract, h2, h3] using this
     refine ⟨_, run_part_agg hte ha _ _ _, ?_, (fun h => by cases h), fun _ => hag⟩
     unfold Go.AL.part; rw [ha]
     exact hag
   split
   ·rename_i n
    obtain ⟨k, rfl⟩ := hci n rfl
    cases hlt : Nat.blt n m
    ·trivial
    have hlt : n < m := by simpa using hlt
    obtain ⟨c, h1, h2, _⟩ := hpart n hlt
    exact ARok.same hg h2 (by rw [hrun k n (by omega) (by omega)]; simpa using h1)
   ·split
    ·rename_i k n
     have := hi.int_inv; subst this
     cases ha : te.d.isAgg
     ·simp only
      cases h1 : Nat.beq te.sz 1
      ·trivial
      have h1 := Nat.eq_of_beq_eq_true h1
      simp only
      split
      ·rename_i k' l hmk
       obtain ⟨s1, s2, s3⟩ := mkLX_spec hmk
       refine ARok.need hg fun hq => ?_
       obtain ⟨hq0, hq1⟩ := hq
       obtain ⟨c, r1, r2, r3, _⟩ := hpart n.toNat (by omega)
       have hln : (LX.il k' l).n = cs.length := by rw [LX.n, s1]
       refine ⟨c, ?_, by rw [hrun k n hq0 hq1]; exact r1⟩
       rw [get_real hp s2 hq0 (by rw [hln, hlen, h1]; omega), r3 ha h1, LX.at_, s1]
       exact hv _ (by rw [hlen, h1]; omega)
      ·trivial
     ·simp only
      split
      ·rename_i s xs hmk
       split
       ·rename_i l
        cases hll : Nat.beq l.length te.sz
        ·trivial
        simp only
        cases h1 : Nat.beq te.sz 1
        ·obtain ⟨s1, s2, s3⟩ := mkLX_spec hmk
         refine ARok.need hg fun hq => ?_
         obtain ⟨hq0, hq1⟩ := hq
         obtain ⟨c, r1, r2, _, r4⟩ := hpart n.toNat (by omega)
         have hln : (LX.gl (.rc l) xs).n = m := by rw [LX.n, s1, chunk_length]
         refine ⟨c, ?_, by rw [hrun k n hq0 hq1]; exact r1⟩
         rw [get_real hp s2 hq0 (by rw [hln]; exact hq1), LX.at_, s1, List.getD, chunk_get _ h1 _ _ _ (by omega)]
         exact r4 ha
        ·trivial
       ·trivial
      ·trivial
    ·trivial
  ·trivial
theorem run_slice {t el : Nat} {te : TI} (hu : P.underlying t = some (.slice el)) (hte : TIOK P el te) (a : Option Addr) (n cap : Nat) (lo hi mx : Option Value) (l h m : Int)
 (hlo : lo = none ∧ l = 0 ∨ ∃ k, lo = some (.int k l)) (hhi : hi = none ∧ h = n ∨ ∃ k, hi = some (.int k h)) (hmx : mx = none ∧ m = cap ∨ ∃ k k', mx = some (.int k m) ∧ hi = some (.int k' h))
 (h0 : 0 ≤ l) (h1 : l ≤ h) (h2 : h ≤ m) (h3 : m ≤ cap) (w : World) :
 (Instr.sliceAt t (.slice a n cap) lo hi mx).run P w = .ok (.slice (if m.toNat = l.toNat then a else a.map (·.add (l.toNat * te.sz))) (h.toNat - l.toNat) (m.toNat - l.toNat)) w := by
 have b1 : ∀ (k : IntKind) (i : Int) (y : Nat) (code : BoundsCode), 0 ≤ i → i ≤ y → (Instr.sliceBound (.int k i) y code).run P w = .ok i.toNat w := fun k i y code ha hb => by
  simp [Instr.sliceBound, asIntOf, ha, hb]
 have key : (Instr.sliceBounds true n cap lo hi mx).run P w = .ok (l.toNat, h.toNat, m.toNat) w := by
  unfold Instr.sliceBounds
  rcases hmx with ⟨rfl, rfl⟩ | ⟨k, k', rfl, rfl⟩
  ·rcases hhi with ⟨rfl, rfl⟩ | ⟨k, rfl⟩
   ·rcases hlo with ⟨rfl, rfl⟩ | ⟨k', rfl⟩
    ·simp
    ·simp [b1 k' l n _ h0 h1]
   ·rcases hlo with ⟨rfl, rfl⟩ | ⟨k', rfl⟩
    ·simp [b1 k h cap _ (by omega) (by omega)]
    ·simp [b1 k h cap _ (by omega) (by omega), b1 k' l h.toNat _ h0 (by omega)]
  ·rcases hlo with ⟨rfl, rfl⟩ | ⟨k2, rfl⟩
   ·simp [b1 k m cap _ (by omega) h3, b1 k' h m.toNat _ (by omega) (by omega)]
   ·simp [b1 k m cap _ (by omega) h3, b1 k' h m.toNat _ (by omega) (by omega), b1 k2 l h.toNat _ h0 (by omega)]
 simp only [Instr.sliceAt, Instr.slice, Sem.run_bind, run_underlying hu, Result.andThen_ok, key, hte.run_sizeOf, Sem.run_pure]
theorem PVR.sub {w : World} {ps : Nat → Nat} {q : LX} {a : Option Addr} {cap : Nat} {d : Value} (h : PVR w ps (.ls q .any) d) (hd : d = .slice a q.n cap) {z : Nat} (hz : q.kOK z = true) {l u m : Int} (h0 : 0 ≤ l) (h1 : l ≤ u) (h2 : u ≤ q.n) (h3 : u ≤ m) (h4 : m ≤ cap) :
 PVR w ps (.ls (q.sub p l u) .any) (.slice (if m.toNat = l.toNat then a else a.map (·.add (l.toNat * z))) (u.toNat - l.toNat) (m.toNat - l.toNat)) := by
 obtain ⟨s1, s2, s3, _⟩ := sub_real hp q l u
 have hn : (q.sub p l u).n = u.toNat - l.toNat := by rw [LX.n, s1, rSub_length _ _ _ h0 h1 h2]; omega
 have hnil : d = .slice none 0 0 → q.n = 0 → PVR w ps (.ls (q.sub p l u) .any) (.slice (if m.toNat = l.toNat then a else a.map (·.add (l.toNat * z))) (u.toNat - l.toNat) (m.toNat - l.toNat)) := fun hdn hq => by
  rw [hdn] at hd
  injection hd with e1 e2 e3
  subst e1; subst e3
  have e5 : u.toNat - l.toNat = 0 := by omega
  have e6 : m.toNat - l.toNat = 0 := by omega
  rw [Option.map_none, ite_self, e5, e6]
  exact .lsnil _ _ (by rw [hn, e5]) (s2 h.ls_fit) (.inl rfl)
 cases h with
 | lsnil _ _ hq hf hc => exact hnil rfl hq
 | lse _ a' hq hf =>
   injection hd with e1 e2 e3
   subst e1; subst e3
   have e5 : u.toNat - l.toNat = 0 := by omega
   have e6 : m.toNat - l.toNat = 0 := by omega
   have e7 : m.toNat = l.toNat := by omega
   rw [if_pos e7, e5, e6]
   exact .lse _ _ (by rw [hn, e5]) (s2 hf)
 | ls _ b off cp cv hcap hf hk hps hc ho hv =>
   injection hd with e1 e2 e3
   subst e1; subst e3
   rcases kOK_k hz with he | he
   ·-- no elements at all
    have hq0 : q.n = 0 := by rw [LX.n, he]; rfl
    have e1 : u.toNat - l.toNat = 0 := by omega
    have hsub : (q.sub p l u).n = 0 := by rw [hn]; exact e1
    split
    ·rw [← hn]
     refine .ls _ b off _ cv (by omega) (s2 hf) (fun i hi => by omega) (fun h => by omega) (fun i j hi => by omega) (fun i j hi => by omega) (fun i j hi => by omega)
    ·simp only [Option.map_some, addr_add]
     rw [← hn]
     refine .ls _ b _ _ cv (by omega) (s2 hf) (fun i hi => by omega) (fun h => by omega) (fun i j hi => by omega) (fun i j hi => by omega) (fun i j hi => by omega)
   ·subst he
    have hat : ∀ i, i < u.toNat - l.toNat → (q.sub p l u).at_ i = q.at_ (l.toNat + i) := fun i hi => by
     rw [LX.at_, s1, rSub_get _ _ _ _ _ (by omega)]
    rw [← hn]
    have hoff : ∀ off', (u.toNat - l.toNat ≠ 0 → off' = off + l.toNat * q.k) → PVR w ps (.ls (q.sub p l u) .any) (.slice (some ⟨b, off', none⟩) (q.sub p l u).n (m.toNat - l.toNat)) := fun off' ho' => by
     refine .ls _ b off' _ (fun i j => cv (l.toNat + i) j) (by omega) (s2 hf) (fun i hi => ?_) (fun h => ?_) (fun i j hi hj => ?_) (fun i j hi hj => ?_) (fun i j hi hj => ?_)
     ·rw [hat i (by omega), s3]; exact hk _ (by omega)
     ·rw [ho' (by omega), s3, hn]
      have := hps (by omega)
      have h5 : (l.toNat + (u.toNat - l.toNat)) * q.k ≤ q.n * q.k := Nat.mul_le_mul_right _ (by omega)
      rw [Nat.add_mul] at h5
      omega
     ·rw [ho' (by omega), s3]
      have := hc (l.toNat + i) j (by omega) (by rw [← s3]; exact hj)
      rw [Nat.add_mul] at this
      rw [← this]; congr 2; omega
     ·exact ho _ _ (by omega) (by rw [← s3]; exact hj)
     ·rw [hat i (by omega)]
      exact hv _ _ (by omega) (by rw [← s3]; exact hj)
    split
    ·exact hoff off (fun h => by omega)
    ·simp only [Option.map_some, addr_add]
     exact hoff _ (fun _ => rfl)
end
end Go.AL
/-
  AL: the operations, sixth part: parts of slices and strings; built structs.
-/
set_option linter.unusedSectionVars false
set_option linter.unusedVariables false
set_option linter.unusedSimpArgs false
namespace Go.AL
open Go
theorem extract_list (s : ByteArray) (a b : Nat) : (s.extract a b).data.toList = (s.data.toList.drop a).take (b - a) := by
 simp [ByteArray.data_extract, List.extract_eq_take_drop]
theorem PVR.not_tok {w : World} {ps : Nat → Nat} {q : LX} {i n : Nat} {c : Value} (h : PVR w ps (.ls q (.tok i n)) c) : False := by
 generalize hv : AVal.ls q (.tok i n) = v at h
 cases h <;> cases hv
 rename_i h
 rcases h with h | h <;> cases h
theorem VR.tok_inv {e : Env} {q : LX} {i n : Nat} {c : Value} (h : VR e (.ls q (.tok i n)) c) : tokAt e.h[i]? n (endOK e i q.k c) := by
 cases h with
 | pure _ _ h => exact h.not_tok.elim
 | tok _ _ _ _ h ht => exact ht
theorem endOK_sub {e : Env} {i k z : Nat} {ad : Option Addr} {n cap a : Nat} (h : endOK e i k (.slice ad n cap)) (h1 : n ≤ cap) (h2 : a ≤ n) (h3 : n = 0 ∨ z = k) :
 endOK e i k (.slice (if cap = a then ad else ad.map (·.add (a * z))) (n - a) (cap - a)) := by
 cases ad with
 | none => rw [Option.map_none, ite_self]; trivial
 | some ad =>
   by_cases hca : cap = a
   ·rw [if_pos hca]
    exact .inl (by omega)
   ·rw [if_neg hca]
    simp only [endOK, Option.map_some] at h ⊢
    rcases h with h | ⟨r1, r2, r3, r4⟩
    ·exact .inl (by omega)
    ·right
     rcases h3 with h3 | h3
     ·have : a = 0 := by omega
      subst this
      rw [Nat.zero_mul]
      simp only [Addr.add, if_true, Nat.sub_zero]
      exact ⟨r1, r2, r3, r4⟩
     ·subst h3
      have hm1 : (a + (n - a)) * z = n * z := by congr 1; omega
      have hm2 : (a + (cap - a)) * z = cap * z := by congr 1; omega
      rw [Nat.add_mul] at hm1 hm2
      unfold Addr.add
      split
      ·exact ⟨r1, by omega, by omega, r4⟩
      ·exact ⟨r1, by simp only; omega, by simp only; omega, r4⟩
section
variable {e : Env} {P : Program} {T : Tab} (hT : TabOK P T) (hg : Good e) {p : Pr} (hp : DataOK p)
include hT hg hp
def OptR (e : Env) (v : Option AVal) (c : Option Value) : Prop := (v = none ∧ c = none) ∨ ∃ x y, v = some x ∧ c = some y ∧ VR e x y
theorem opt0_spec {d : Int} {v : Option AVal} {c : Option Value} {n : Int} (h : OptR e v c) (ho : opt0 d v = some n) : (c = none ∧ n = d ∧ v = none) ∨ ∃ k, c = some (.int k n) := by
 rcases h with ⟨rfl, rfl⟩ | ⟨x, y, rfl, rfl, hxy⟩
 ·cases ho; exact .inl ⟨rfl, rfl, rfl⟩
 ·unfold opt0 at ho
  split at ho
  ·cases ‹some _ = none›
  ·rename_i k n' heq
   cases heq
   cases ho
   exact .inr ⟨k, by rw [hxy.int_inv]⟩
  ·cases ho
theorem slElem_spec {t : Nat} {te : TI} (h : slElem T t = some te) : ∃ el, P.underlying t = some (.slice el) ∧ TIOK P el te ∧ T.get? el = some te := by
 unfold slElem at h
 split at h
 ·rename_i ti hti
  split at h
  ·rename_i el hd
   obtain ⟨d, hu, hdd⟩ := (hT _ _ hti).under
   rw [hd] at hdd
   simp only [DOK] at hdd
   subst hdd
   exact ⟨el, hu, hT _ _ h, h⟩
  ·cases h
 ·cases h
theorem run_slice_str {t : Nat} (hu : P.underlying t = some .string) (s : ByteArray) (lo hi : Option Value) (l h : Int)
 (hlo : lo = none ∧ l = 0 ∨ ∃ k, lo = some (.int k l)) (hhi : hi = none ∧ h = s.size ∨ ∃ k, hi = some (.int k h)) (h0 : 0 ≤ l) (h1 : l ≤ h) (h2 : h ≤ s.size) (w : World) :
 (Instr.sliceAt t (.string s) lo hi none).run P w = .ok (.string (s.extract l.toNat h.toNat)) w := by
 have b1 : ∀ (k : IntKind) (i : Int) (y : Nat) (code : BoundsCode), 0 ≤ i → i ≤ y → (Instr.sliceBound (.int k i) y code).run P w = .ok i.toNat w := fun k i y code ha hb => by
  simp [Instr.sliceBound, asIntOf, ha, hb]
 have key : ∃ m, (Instr.sliceBounds false s.size s.size lo hi none).run P w = .ok (l.toNat, h.toNat, m) w := by
  unfold Instr.sliceBounds
  rcases hhi with ⟨rfl, rfl⟩ | ⟨k, rfl⟩
  ·rcases hlo with ⟨rfl, rfl⟩ | ⟨k', rfl⟩
   ·exact ⟨s.size, by simp⟩
   ·exact ⟨s.size, by simp [b1 k' l s.size _ h0 h1]⟩
  ·rcases hlo with ⟨rfl, rfl⟩ | ⟨k', rfl⟩
   ·exact ⟨s.size, by simp [b1 k h s.size _ (by omega) (by omega)]⟩
   ·exact ⟨s.size, by simp [b1 k h s.size _ (by omega) (by omega), b1 k' l h.toNat _ h0 (by omega)]⟩
 obtain ⟨m, key⟩ := key
 simp only [Instr.sliceAt, Instr.slice, Sem.run_bind, run_underlying hu, Result.andThen_ok, Option.isSome_none, Bool.false_eq_true, if_false, key, Sem.run_pure]
theorem aSlice_ok {t : Nat} {x : AVal} {c : Value} {lo hi mx : Option AVal} {clo chi cmx : Option Value} (hx : VR e x c) (hlo : OptR e lo clo) (hhi : OptR e hi chi) (hmx : OptR e mx cmx) :
 ARok e (aSlice p T t x lo hi mx e.h) ((Instr.sliceAt t c clo chi cmx).run P e.w) := by
 unfold aSlice
 split
 ·-- no third index
  have hmxn : cmx = none := by
   rcases hmx with ⟨_, h⟩ | ⟨x, y, h, _⟩
   ·exact h
   ·cases h
  subst hmxn
  split
  ·-- a string
   obtain ⟨s, rfl, rfl⟩ := hx.str_inv
   cases hs : T.get? t with
   | none => trivial
   | some ti =>
   obtain ⟨dt, hu, hdt⟩ := (hT _ _ hs).under
   simp only
   cases hk : ti.d <;> (try trivial) <;> rw [hk] at hdt <;> simp only [DOK] at hdt <;> subst hdt <;> simp only
   split
   ·rename_i a ha
    split
    ·rename_i b hb
     refine ARok.need hg fun hq => ?_
     simp only [hp.sln] at hq hb
     simp only [rNd, Array.length_toList] at hq hb
     obtain ⟨q0, q1, q2⟩ := hq
     refine ⟨.string (s.extract a.toNat b.toNat), ?_, ?_⟩
     ·rw [hp.ssb]
      exact .str' (by rw [extract_list, rSub, Int.toNat_sub'']; all_goals omega)
     ·refine run_slice_str hT hg hp hu s clo chi a b ?_ ?_ q0 q1 q2 _
      ·rcases opt0_spec hT hg hp hlo ha with ⟨h, h', _⟩ | h
       ·exact .inl ⟨h, h'⟩
       ·exact .inr h
      ·rcases opt0_spec hT hg hp hhi hb with ⟨h, h', _⟩ | h
       ·exact .inl ⟨h, h'⟩
       ·exact .inr h
    ·trivial
   ·trivial
  ·-- a list
   rename_i q cp
   split
   ·rename_i te hte
    obtain ⟨el, hu, hto, _⟩ := slElem_spec hT hg hp hte
    cases hko : q.kOK te.sz
    ·trivial
    simp only
    split
    ·rename_i a ha
     split
     ·rename_i b hb
      refine ARok.need hg fun hq => ?_
      rw [len_real hp] at hq hb
      obtain ⟨q0, q1, q2⟩ := hq
      obtain ⟨ad, cap, hc, _, _⟩ := hx.ls_len
      have hncap : q.n ≤ cap := by
       have h := hx.ls_any
       rw [hc] at h
       generalize hd : (Value.slice ad q.n cap) = d at h
       cases h with
       | lsnil _ _ h0 => rw [h0]; exact Nat.zero_le _
       | lse _ _ h0 => rw [h0]; exact Nat.zero_le _
       | ls _ b2 off cp2 cv hcap => injection hd with e1 e2 e3; rw [e3]; exact hcap
      have hlo' := opt0_spec hT hg hp hlo ha
      have hhi' := opt0_spec hT hg hp hhi hb
      have hr := run_slice hT hg hp hu hto ad q.n cap clo chi none a b cap (by
       rcases hlo' with ⟨h, h', _⟩ | h
       ·exact .inl ⟨h, h'⟩
       ·exact .inr h) (by
       rcases hhi' with ⟨h, h', _⟩ | h
       ·exact .inl ⟨h, h'⟩
       ·exact .inr h) (.inl ⟨rfl, rfl⟩) q0 q1 (by omega) (by omega) e.w
      have hsub := PVR.sub hT hg hp (hx.ls_any) hc hko q0 q1 q2 (m := cap) (by omega) (by omega)
      refine ⟨_, ?_, by rw [hc]; exact hr⟩
      have hany : ∀ cp', cp' = Cap.any → VR e (.ls (q.sub p a b) cp') (.slice (if (cap : Int).toNat = a.toNat then ad else ad.map (·.add (a.toNat * te.sz))) (b.toNat - a.toNat) ((cap : Int).toNat - a.toNat)) := fun cp' h => by subst h; exact .pure _ _ hsub
      split
      ·rename_i i n
       split
       ·-- the end is kept
        rename_i hnone
        have hb' : b = q.n := by
         rcases hhi' with ⟨_, h, _⟩ | ⟨k, h⟩
         ·exact h
         ·rcases hhi with ⟨_, h'⟩ | ⟨x, y, h', _⟩
          ·rw [h'] at h; cases h
          ·cases h'
        refine .tok _ _ _ _ hsub ?_
        have ht := hx.tok_inv
        have hnq : q.n = 0 ∨ te.sz = q.k := by
         rcases kOK_k hko with h | h
         ·exact .inl (by rw [LX.n, h]; rfl)
         ·exact .inr h.symm
        obtain ⟨_, _, hk2, _⟩ := sub_real hp q a b
        have hmain : endOK e i q.k c → endOK e i (q.sub p a b).k (.slice (if (cap : Int).toNat = a.toNat then ad else ad.map (·.add (a.toNat * te.sz))) (b.toNat - a.toNat) ((cap : Int).toNat - a.toNat)) := fun h => by
         rw [hc] at h
         have := endOK_sub (a := a.toNat) h hncap (by omega) hnq
         rw [hk2]
         rw [show (cap : Int).toNat = cap by omega, show b.toNat = q.n by omega]
         exact this
        unfold tokAt at ht ⊢
        split at ht
        ·exact ⟨ht.1, fun heq => hmain (ht.2 heq)⟩
        ·exact ht
        ·exact ht
       ·exact hany _ rfl
      ·exact hany _ rfl
     ·trivial
    ·trivial
   ·trivial
  ·-- a row
   rename_i i g l u
   split
   ·rename_i te hte
    obtain ⟨el, hu, hto, _⟩ := slElem_spec hT hg hp hte
    split
    ·rename_i g' q hob
     cases hgg : Nat.beq g g'
     ·trivial
     obtain rfl := Nat.eq_of_beq_eq_true hgg
     cases hko : q.kOK te.sz
     ·trivial
     simp only
     split
     ·rename_i a ha
      split
      ·rename_i b hb
       refine ARok.need hg fun hq => ?_
       simp only [hp.sbt, len_real hp] at hq hb
       obtain ⟨q0, q1, q2⟩ := hq
       obtain ⟨a1, a2, a3, a4⟩ := VR.sl_inv hT hg hp hx hob
       have hlo' := opt0_spec hT hg hp hlo ha
       have hhi' := opt0_spec hT hg hp hhi hb
       simp only [hp.ad]
       rcases a4 with ⟨⟨ad0, rfl⟩, rfl, rfl, hn⟩ | ⟨bb, cap, off, rfl, hsg, hcap, r⟩
       ·have hr := run_slice hT hg hp hu hto ad0 0 0 clo chi none a b 0 (by
         rcases hlo' with ⟨h, h', _⟩ | h
         ·exact .inl ⟨h, h'⟩
         ·exact .inr h) (by
         rcases hhi' with ⟨h, h', _⟩ | h
         ·exact .inl ⟨h, by omega⟩
         ·exact .inr h) (.inl ⟨rfl, rfl⟩) q0 q1 (by omega) (by omega) e.w
        refine ⟨_, ?_, hr⟩
        refine .sl _ _ _ _ _ rfl ?_
        rw [hob]
        refine ⟨Nat.le_refl _, fun _ => ⟨by omega, by omega, by omega, .inl ⟨by rw [show b.toNat - a.toNat = 0 by omega, show (0 : Int).toNat - a.toNat = 0 by omega]; exact ⟨_, rfl⟩, by omega, by omega, hn⟩⟩⟩
       ·have hr := run_slice hT hg hp hu hto (some ⟨bb, off, none⟩) (u - l).toNat cap clo chi none a b cap (by
         rcases hlo' with ⟨h, h', _⟩ | h
         ·exact .inl ⟨h, h'⟩
         ·exact .inr h) (by
         rcases hhi' with ⟨h, h', _⟩ | h
         ·exact .inl ⟨h, by omega⟩
         ·exact .inr h) (.inl ⟨rfl, rfl⟩) q0 q1 (by omega) (by omega) e.w
        refine ⟨_, ?_, hr⟩
        have hb2 : b.toNat - a.toNat = ((l + b) - (l + a)).toNat := by omega
        have key : ∀ off', ((cap : Int).toNat - a.toNat ≠ 0 → off' = off + a.toNat * te.sz) → VR e (.sl i g (l + a) (l + b)) (.slice (some ⟨bb, off', none⟩) (b.toNat - a.toNat) ((cap : Int).toNat - a.toNat)) := fun off' ho' => by
         refine .sl _ _ _ _ _ rfl ?_
         rw [hob]
         refine ⟨Nat.le_refl _, fun _ => ⟨by omega, by omega, by omega, .inr ⟨bb, (cap : Int).toNat - a.toNat, off', by rw [hb2], hsg, by omega, ?_⟩⟩⟩
         by_cases hz : (cap : Int).toNat - a.toNat = 0
         ·exact .inl hz
         ·right
          rw [ho' hz]
          rcases r with r | ⟨r1, r2⟩
          ·omega
          rcases kOK_k hko with h | h
          ·have : q.n = 0 := by rw [LX.n, h]; rfl
           have e1 : a = 0 := by omega
           subst e1
           rw [show (l + 0).toNat = l.toNat by omega]
           simp only [Int.toNat_zero, Nat.zero_mul, Nat.add_zero, Nat.sub_zero, Int.toNat_natCast]
           exact ⟨r1, r2⟩
          ·rw [← h, show (l + a).toNat = l.toNat + a.toNat by omega, Nat.add_mul]
           have hm2 : (a.toNat + ((cap : Int).toNat - a.toNat)) * q.k = cap * q.k := by congr 1; omega
           rw [Nat.add_mul] at hm2
           exact ⟨by omega, by omega⟩
        split
        ·exact key off (fun h => by omega)
        ·simp only [Option.map_some, addr_add']
         exact key _ (fun _ => rfl)
      ·trivial
     ·trivial
    ·trivial
   ·trivial
  ·trivial
 ·-- a third index
  rename_i m
  split
  ·rename_i q cp hv
   split
   ·rename_i te hte
    obtain ⟨el, hu, hto, _⟩ := slElem_spec hT hg hp hte
    cases hko : q.kOK te.sz
    ·trivial
    simp only
    split
    ·rename_i a ha
     split
     ·rename_i k b
      split
      ·rename_i k2 d
       refine ARok.need hg fun hq => ?_
       rw [len_real hp] at hq
       obtain ⟨q0, q1, q2, q3⟩ := hq
       obtain ⟨ad, cap, hc, _, _⟩ := hx.ls_len
       have hncap : q.n ≤ cap := by
        have h := hx.ls_any
        rw [hc] at h
        generalize hd : (Value.slice ad q.n cap) = d at h
        cases h with
        | lsnil _ _ h0 => rw [h0]; exact Nat.zero_le _
        | lse _ _ h0 => rw [h0]; exact Nat.zero_le _
        | ls _ b2 off cp2 cv hcap => injection hd with e1 e2 e3; rw [e3]; exact hcap
       have hm2 : cmx = some (.int k2 d) := by
        rcases hmx with ⟨h, _⟩ | ⟨x, y, h, h2, h3⟩
        ·cases h
        ·cases h; rw [h2, h3.int_inv]
       have hh2 : chi = some (.int k b) := by
        rcases hhi with ⟨h, _⟩ | ⟨x, y, h, h2, h3⟩
        ·cases h
        ·cases h; rw [h2, h3.int_inv]
       have hr := run_slice hT hg hp hu hto ad q.n cap clo chi cmx a b d (by
        rcases opt0_spec hT hg hp hlo ha with ⟨h, h', _⟩ | h
        ·exact .inl ⟨h, h'⟩
        ·exact .inr h) (.inr ⟨k, hh2⟩) (.inr ⟨k2, k, hm2, hh2⟩) q0 q1 q2 (by omega) e.w
       exact ⟨_, .pure _ _ (PVR.sub hT hg hp (hx.ls_any) hc hko q0 q1 (by omega) q2 (by omega)), by rw [hc]; exact hr⟩
      ·trivial
     ·trivial
    ·trivial
   ·trivial
  ·trivial
end
end Go.AL
/-
  AL: the operations, seventh part: structs, arrays and slices that are built.
-/
set_option linter.unusedSectionVars false
set_option linter.unusedVariables false
set_option linter.unusedSimpArgs false
namespace Go.AL
open Go
theorem foldl_set (off : Nat) : ∀ (l : List Value) (s : Nat) (X : Array Value), off + s + l.length ≤ X.size →
 ((l.zipIdx s).foldl (fun cs (p : Value × Nat) => cs.setIfInBounds (off + p.2) p.1) X).size = X.size ∧
 ∀ m, ((l.zipIdx s).foldl (fun cs (p : Value × Nat) => cs.setIfInBounds (off + p.2) p.1) X).getD m undef = if off + s ≤ m ∧ m < off + s + l.length then l.getD (m - off - s) undef else X.getD m undef
 | [], s, X, _ => ⟨rfl, fun m => by simp; omega⟩
 | c :: r, s, X, h => by
   simp only [List.zipIdx_cons, List.foldl_cons]
   simp at h
   obtain ⟨h1, h2⟩ := foldl_set off r (s + 1) (X.setIfInBounds (off + s) c) (by simp; omega)
   refine ⟨by rw [h1]; simp, fun m => ?_⟩
   rw [h2]
   simp only [List.length_cons]
   by_cases a1 : off + (s + 1) ≤ m ∧ m < off + (s + 1) + r.length
   ·rw [if_pos a1, if_pos (by omega), show m - off - s = (m - off - (s + 1)) + 1 by omega, List.getD_cons_succ]
   ·rw [if_neg a1]
    by_cases a2 : m = off + s
    ·subst a2
     rw [if_pos (by omega)]
     have : off + s < X.size := by omega
     simp [this, show off + s - off - s = 0 by omega]
    ·rw [if_neg (by omega)]
     simp [Array.getElem?_setIfInBounds_ne (show off + s ≠ m by omega)]
structure LR (e : Env) (cs : List AVal) (X : Array Value) : Prop where
 len : cs.length = X.size
 rel : ∀ i, i < cs.length → VR e (cs.getD i .junk) (X.getD i undef)
inductive PR (e : Env) : List (Nat × AVal) → List (Nat × Value) → Prop
 | nil : PR e [] []
 | cons (i : Nat) (v : AVal) (c : Value) (r : List (Nat × AVal)) (s : List (Nat × Value)) (h : VR e v c) (hr : PR e r s) : PR e ((i, v) :: r) ((i, c) :: s)
theorem allOne_mono {l : List AVal} (h : allOne l = true) {i : Nat} (hi : i < l.length) : oneA (l.getD i .junk) = true := allOne_iff.1 h i hi
theorem PVR.not_agg {w : World} {ps : Nat → Nat} {v : AVal} {c : Value} (h : PVR w ps v c) (hv : ∀ vs, v ≠ .agg vs) (hj : v ≠ .junk) : ∀ cs, c ≠ .agg cs := by
 cases h <;> first | (intro cs e; cases e; done) | exact absurd rfl (hv _) | exact absurd rfl hj
theorem noJunk_spec : ∀ {l : List (Nat × AVal)}, noJunk l = true → ∀ x ∈ l, x.2 ≠ .junk
 | [], _, x, hx => by cases hx
 | (i, v) :: r, h, x, hx => by
   have : v ≠ .junk ∧ noJunk r = true := by cases v <;> simp_all [noJunk]
   rcases List.mem_cons.1 hx with rfl | hx
   ·exact this.1
   ·exact noJunk_spec this.2 x hx
theorem VR.cells' {e : Env} {v : AVal} {c : Value} (h : VR e v c) (hj : v ≠ .junk) : v.cells.length = c.cells.size ∧ ∀ i, i < v.cells.length → VR e (v.cells.getD i .junk) (c.cells.getD i undef) := by
 by_cases hv : ∃ vs, v = .agg vs
 ·obtain ⟨vs, rfl⟩ := hv
  obtain ⟨cs, rfl, h1, h2⟩ := h.agg_inv
  exact ⟨h1, h2⟩
 ·have hv' : ∀ vs, v ≠ .agg vs := fun vs e => hv ⟨vs, e⟩
  have e1 : v.cells = [v] := by cases v <;> first | rfl | exact absurd rfl (hv' _)
  have e2 : c.cells = #[c] := by
   have : ∀ cs, c ≠ .agg cs := by
    intro cs hc
    subst hc
    cases h with
    | pure _ _ h => exact h.not_agg hv' hj cs rfl
    | tok _ _ _ _ h _ => exact h.not_agg (by simp) (by simp) cs rfl
    | sl _ _ _ _ _ h1 => simp [Value.oneCell'] at h1
    | ptr _ _ _ h1 => simp [Value.oneCell'] at h1
    | pe _ _ _ _ _ h1 => simp [Value.oneCell'] at h1
    | agg vs => exact hv' vs rfl
    | yld _ _ h1 => simp [Value.oneCell'] at h1
    | hnd _ _ _ h1 => simp [Value.oneCell'] at h1
   cases c <;> first | rfl | exact absurd rfl (this _)
  rw [e1, e2]
  refine ⟨rfl, fun i hi => ?_⟩
  have : i = 0 := by simp at hi; omega
  subst this
  exact h
theorem fill_ok {e : Env} {place : Nat → Option (Nat × Nat)} : ∀ {ps : List (Nat × AVal)} {qs : List (Nat × Value)} {cs cs' : List AVal} {X : Array Value}, PR e ps qs → (∀ x ∈ ps, x.2 ≠ .junk) → LR e cs X → fillA place ps cs = some cs' →
 ∃ Y, Instr.fill place X qs = some Y ∧ LR e cs' Y
 | [], _, cs, cs', X, .nil, _, h, hf => by cases hf; exact ⟨X, rfl, h⟩
 | (i, v) :: r, _, cs, cs', X, .cons _ _ c _ s hv hr, hj, h, hf => by
   unfold fillA at hf
   unfold Instr.fill
   split at hf
   ·cases hf
   ·rename_i off size hpl
    rw [hpl]
    split at hf
    ·rename_i hsz
     have hsz := Nat.eq_of_beq_eq_true hsz
     split at hf
     ·rename_i hle
      have hle := Nat.le_of_ble_eq_true hle
      obtain ⟨c1, c2⟩ := hv.cells' (hj _ (List.mem_cons_self))
      have hlen := h.len
      simp only
      rw [if_neg (by simp; omega)]
      have hfold := foldl_set off c.cells.toList 0 X (by simp; omega)
      rw [Array.toList_zipIdx.symm] at hfold
      simp only [Array.foldl_toList, Nat.add_zero, Nat.sub_zero] at hfold
      refine fill_ok hr (fun x hx => hj x (List.mem_cons_of_mem _ hx)) ⟨?_, fun m hm => ?_⟩ hf
      ·rw [putCells_length _ _ _ (by omega)]
       exact hlen.trans hfold.1.symm
      ·rw [putCells_length _ _ _ (by omega)] at hm
       have h2 := hfold.2 m
       rw [putCells_get _ _ _ _ (by omega)]
       have : (c.cells.zipIdx.foldl (fun cs (x : Value × Nat) => cs.setIfInBounds (off + x.2) x.1) X).getD m undef = _ := h2
       refine this ▸ ?_
       by_cases hin : off ≤ m ∧ m < off + v.cells.length
       ·rw [if_pos hin, if_pos (by simp; omega)]
        have := c2 (m - off) (by omega)
        simpa [List.getD] using this
       ·rw [if_neg hin, if_neg (by simp; omega)]
        exact h.rel m hm
     ·cases hf
    ·cases hf
theorem LR.zero {e : Env} {P : Program} {t : Nat} {ti : TI} (h : TIOK P t ti) {z : Value} (hz : (zeroValue t).run P e.w = .ok z e.w) : LR e ti.zero.cells z.cells ∧ (∀ c ∈ z.cells, c.oneCell' = true) := by
 obtain ⟨z', hz', hz1, hz2, hz3⟩ := h.run_zero
 have : z = z' := by have := hz' e.w; rw [hz] at this; exact (Result.ok.inj this).1
 subst this
 refine ⟨⟨by rw [h.zl, hz1], fun i hi => ?_⟩, hz2⟩
 have hv := hz3 e.w e.ps
 by_cases hj : ti.zero = .junk
 ·rw [hj] at hi ⊢
  have : i = 0 := by simp [AVal.cells] at hi; omega
  subst this
  exact .pure _ _ (.junk _)
 ·exact ((VR.pure _ _ hv).cells' hj).2 i hi
theorem allIn_spec {T : Tab} : ∀ {l : List (Nat × Nat)}, allIn T l = true → ∀ x ∈ l, ∃ ti, T.get? x.2 = some ti
 | [], _, x, hx => by cases hx
 | (o, t) :: r, h, x, hx => by
   unfold allIn at h
   split at h
   ·rename_i ti hti
    rcases List.mem_cons.1 hx with rfl | hx
    ·exact ⟨ti, hti⟩
    ·exact allIn_spec h x hx
   ·cases h
theorem mapM_places {P : Program} {w : World} {T : Tab} (hT : TabOK P T) : ∀ (l : List Field), (∀ f ∈ l, ∃ ti, T.get? f.type = some ti) →
 (l.mapM fun f => (do pure (f.offset, ← sizeOf f.type) : Sem (Nat × Nat))).run P w = .ok (l.map fun f => (f.offset, ((T.get? f.type).map (·.sz)).getD 0)) w
 | [], _ => by simp
 | f :: r, h => by
   obtain ⟨ti, hti⟩ := h f (by simp)
   have ih := mapM_places hT (w := w) r (fun f hf => h f (by simp [hf]))
   simp only [List.mapM_cons, Sem.run_bind, (hT _ _ hti).run_sizeOf, Result.andThen_ok, Sem.run_pure, ih, List.map_cons, hti, Option.map_some, Option.getD_some]
theorem run_places {P : Program} {w : World} {T : Tab} (hT : TabOK P T) (fields : Array Field) (h : ∀ f ∈ fields.toList, ∃ ti, T.get? f.type = some ti) :
 (fields.mapM fun f => (do pure (f.offset, ← sizeOf f.type) : Sem (Nat × Nat))).run P w = .ok (fields.toList.map fun f => (f.offset, ((T.get? f.type).map (·.sz)).getD 0)).toArray w := by
 rw [Array.mapM_eq_mapM_toList, Sem.run_map, mapM_places hT _ h]
 rfl
section
variable {e : Env} {P : Program} {T : Tab} (hT : TabOK P T) (hg : Good e) {p : Pr} (hp : DataOK p)
include hT hg
theorem aBuild_ok {t : Nat} {ps : List (Nat × AVal)} {qs : Array (Nat × Value)} (hps : PR e ps qs.toList) : ARok e (aBuild T t ps e.h) ((Instr.build t qs).run P e.w) := by
 unfold aBuild
 cases hnj : noJunk ps
 ·trivial
 have hnj := noJunk_spec hnj
 simp only
 cases hs : T.get? t with
 | none => trivial
 | some ti =>
 have hti := hT _ _ hs
 obtain ⟨dt, hu, hdt⟩ := hti.under
 obtain ⟨z, hz, _⟩ := hti.run_zero
 obtain ⟨hlr, _⟩ := LR.zero hti (hz e.w)
 simp only
 cases hk : ti.d <;> (try trivial) <;> rw [hk] at hdt <;> simp only [DOK] at hdt
 ·subst hdt
  rename_i m el
  simp only
  cases hte : T.get? el with
  | none => trivial
  | some te =>
  have hte := hT _ _ hte
  simp only
  split
  ·rename_i cs' hf
   obtain ⟨Y, hY, hLY⟩ := fill_ok hps hnj hlr hf
   refine ARok.same hg (c := .agg Y) (.agg _ _ hLY.len hLY.rel) ?_
   simp only [Instr.build, Sem.run_bind, hz, Result.andThen_ok, run_underlying hu, hte.run_sizeOf, hY, Sem.run_pure]
  ·trivial
 ·obtain ⟨fields, rfl, hfs⟩ := hdt
  rename_i fs
  simp only
  cases hin : allIn T fs
  ·trivial
  simp only
  split
  ·rename_i cs' hf
   have hall : ∀ f ∈ fields.toList, ∃ ti, T.get? f.type = some ti := fun f hf => by
    have := allIn_spec hin (f.offset, f.type) (by rw [← hfs]; exact List.mem_map.2 ⟨f, hf, rfl⟩)
    exact this
   have hpl : placeOf fs T = fun i => (fields.toList.map fun f => (f.offset, ((T.get? f.type).map (·.sz)).getD 0)).toArray[i]? := by
    funext i
    unfold placeOf
    rw [← hfs]
    simp only [List.getElem?_map, List.getElem?_toArray]
    cases hfi : fields.toList[i]? with
    | none => rfl
    | some f =>
      obtain ⟨tf, htf⟩ := hall f (List.mem_of_getElem? hfi)
      simp [htf]
   rw [hpl] at hf
   obtain ⟨Y, hY, hLY⟩ := fill_ok hps hnj hlr hf
   refine ARok.same hg (c := .agg Y) (.agg _ _ hLY.len hLY.rel) ?_
   simp only [Instr.build, Sem.run_bind, hz, Result.andThen_ok, run_underlying hu, run_places hT fields hall, hY, Sem.run_pure]
  ·trivial
end
end Go.AL
/-
  AL: the operations, eighth part: slices that are made.
-/
set_option linter.unusedSectionVars false
set_option linter.unusedVariables false
set_option linter.unusedSimpArgs false
namespace Go.AL
open Go
theorem wrap_i64_id {n : Int} (h0 : -9223372036854775808 ≤ n) (h1 : n ≤ 9223372036854775807) : IntKind.i64.wrap n = n := by
 have e : IntKind.i64.bits = 64 := rfl
 have s : IntKind.i64.signed = true := rfl
 simp only [IntKind.wrap, e, s, Bool.true_and, decide_eq_true_eq]
 rw [show (2 : Int) ^ 64 = 18446744073709551616 from rfl, show (2 : Int) ^ (64 - 1) = 9223372036854775808 from rfl]
 split <;> omega
theorem allPure_get : ∀ {l : List AVal}, allPure l = true → ∀ {i : Nat}, i < l.length → allPure.isPure (l.getD i .junk) = true
 | v :: r, h, i, hi => by
   unfold allPure at h
   split at h
   ·rename_i hv
    cases i with
    | zero => simpa using hv
    | succ i => have := allPure_get h (i := i) (by simpa using hi); simpa using this
   ·cases h
theorem VR.pured {e : Env} {v : AVal} {c : Value} (h : VR e v c) (hp : allPure.isPure v = true) : PVR e.w e.ps v c := by
 induction h with
 | pure _ _ h => exact h
 | tok => simp [allPure.isPure] at hp
 | sl => simp [allPure.isPure] at hp
 | ptr => simp [allPure.isPure] at hp
 | pe => simp [allPure.isPure] at hp
 | agg vs cs hl _ ih =>
   have hp : allPure vs = true := by simpa [allPure.isPure] using hp
   exact .agg vs cs hl fun i hi => ih i hi (allPure_get hp hi)
 | tup => simp [allPure.isPure] at hp
 | clo => simp [allPure.isPure] at hp
 | yld => simp [allPure.isPure] at hp
 | hnd => simp [allPure.isPure] at hp
 | iface => simp [allPure.isPure] at hp
def zcells (z : Array Value) (n : Nat) : Array Value := (Array.range n).map (z[· % z.size]!)
theorem zcells_get (z : Array Value) (n m : Nat) (h : m < n) (hz : 0 < z.size) : (zcells z n).getD m undef = z.getD (m % z.size) undef := by
 have : m % z.size < z.size := Nat.mod_lt _ hz
 simp [zcells, h, this, getElem!_pos]
theorem zcells_size (z : Array Value) (n : Nat) : (zcells z n).size = n := by simp [zcells]
theorem zrep_get : ∀ (n : Nat) (z : List AVal) (m : Nat), m < n * z.length → (zrep n z).getD m .junk = z.getD (m % z.length) .junk
 | 0, z, m, h => by simp at h
 | n + 1, z, m, h => by
   simp only [zrep, List.replicate_succ, List.flatten_cons, List.getD, List.getElem?_append]
   by_cases hm : m < z.length
   ·rw [if_pos hm, Nat.mod_eq_of_lt hm]
   ·rw [if_neg hm]
    have h' : m - z.length < n * z.length := by rw [Nat.add_mul] at h; omega
    have := zrep_get n z (m - z.length) h'
    simp only [zrep, List.getD] at this
    rw [this, ← Nat.mod_eq_sub_mod (show m ≥ z.length by omega)]
theorem zrep_length (n : Nat) (z : List AVal) : (zrep n z).length = n * z.length := by
 simp [zrep]
theorem LR.zrep {e : Env} {z : List AVal} {Z : Array Value} (h : LR e z Z) (hz : 0 < Z.size) (n : Nat) : LR e (zrep n z) (zcells Z (n * Z.size)) := by
 refine ⟨by rw [zrep_length, zcells_size, h.len], fun i hi => ?_⟩
 rw [zrep_length] at hi
 rw [zrep_get _ _ _ hi, zcells_get _ _ _ (by rw [← h.len]; exact hi) hz, h.len]
 exact h.rel _ (by rw [h.len]; exact Nat.mod_lt _ hz)
theorem chunk_cells {k : Nat} (hk : 0 < k) {m : Nat} {cs : List AVal} (hl : cs.length = m * k) (h1 : allOne cs = true) {i : Nat} (hi : i < m) :
 ((chunk k m cs).getD i .junk).cells.length = k ∧ ∀ j, j < k → ((chunk k m cs).getD i .junk).cells.getD j .junk = cs.getD (i * k + j) .junk := by
 have hlt : (i + 1) * k ≤ m * k := Nat.mul_le_mul_right _ hi
 rw [Nat.add_mul] at hlt
 by_cases h : k = 1
 ·subst h
  have : ∀ (m : Nat) (cs : List AVal) (i : Nat), i < m → (chunk 1 m cs).getD i .junk = cs.getD i .junk := by
   intro m
   induction m with
   | zero => intro cs i h; omega
   | succ m ih =>
     intro cs i h
     cases i with
     | zero => simp [chunk]
     | succ i =>
       simp only [chunk, List.getD_cons_succ]
       rw [ih _ _ (by omega), getD_drop]
       congr 1; omega
  rw [this m cs i hi]
  have ho := oneA_cells (allOne_mono h1 (i := i) (by omega))
  rw [ho]
  refine ⟨rfl, fun j hj => ?_⟩
  have : j = 0 := by omega
  subst this
  simp
 ·have hb : Nat.beq k 1 = false := by
   cases hb : Nat.beq k 1
   ·rfl
   ·exact absurd (Nat.eq_of_beq_eq_true hb) h
  have := chunk_get k hb m cs i hi
  rw [List.getD, this]
  refine ⟨by simp [AVal.cells]; omega, fun j hj => ?_⟩
  simp [AVal.cells, List.getD, List.getElem?_take, hj, List.getElem?_drop]
section
variable {e : Env} {P : Program} {T : Tab} (hT : TabOK P T) (hg : Good e) {p : Pr} (hp : DataOK p)
include hT hg
theorem aBuildSlice_ok {t len : Nat} {ps : List (Nat × AVal)} {qs : Array (Nat × Value)} (hps : PR e ps qs.toList) : ARok e (aBuildSlice p T t len ps e.h) ((Instr.buildSlice t len qs).run P e.w) := by
 unfold aBuildSlice
 cases hnj : noJunk ps
 ·trivial
 have hnj := noJunk_spec hnj
 simp only
 cases hs : T.get? t with
 | none => trivial
 | some ti =>
 obtain ⟨dt, hu, hdt⟩ := (hT _ _ hs).under
 simp only
 cases hk : ti.d <;> (try trivial) <;> rw [hk] at hdt <;> simp only [DOK] at hdt
 subst hdt
 rename_i el
 simp only
 cases hte : T.get? el with
 | none => trivial
 | some te =>
 have hte := hT _ _ hte
 simp only
 cases h0 : Nat.blt 0 te.sz
 ·trivial
 have h0 : 0 < te.sz := by simpa using h0
 cases hle : Nat.ble (len * te.sz) 10000
 ·trivial
 have hle := Nat.le_of_ble_eq_true hle
 simp only
 split
 ·rename_i cs' hf
  cases hpu : allPure cs'
  ·trivial
  cases hon : allOne cs'
  ·trivial
  simp only
  split
  ·rename_i q hmk
   cases hko : q.kOK te.sz
   ·trivial
   simp only
   obtain ⟨z, hz, hz1, _⟩ := hte.run_zero
   obtain ⟨hlr, _⟩ := LR.zero hte (hz e.w)
   have hzr := hlr.zrep (by omega) len
   rw [hz1] at hzr
   obtain ⟨Y, hY, hLY⟩ := fill_ok hps hnj hzr hf
   have hlen : cs'.length = len * te.sz := by
    have : ∀ {place : Nat → Option (Nat × Nat)} {ps : List (Nat × AVal)} {cs cs' : List AVal}, fillA place ps cs = some cs' → cs'.length = cs.length := by
     intro place ps
     induction ps with
     | nil => intro cs cs' h; cases h; rfl
     | cons x r ih =>
       intro cs cs' h
       obtain ⟨i, v⟩ := x
       unfold fillA at h
       split at h
       ·cases h
       ·split at h
        ·rename_i hsz
         have hsz := Nat.eq_of_beq_eq_true hsz
         split at h
         ·rename_i hle
          have hle := Nat.le_of_ble_eq_true hle
          rw [ih h, putCells_length _ _ _ (by omega)]
         ·cases h
        ·cases h
    rw [this hf, zrep_length, hte.zl]
   obtain ⟨s1, s2, s3⟩ := mkLX_spec hmk
   have hqn : q.n = len := by rw [LX.n, s1, chunk_length]
   have hrun : (Instr.buildSlice t len qs).run P e.w = .ok (.slice (some ⟨e.w.heap.size, 0, none⟩) len len) (e.w.alloc (.cells Y el)) := by
    simp only [Instr.buildSlice, Sem.run_bind, run_underlying hu, Result.andThen_ok, hte.run_sizeOf]
    rw [if_neg (by omega)]
    simp only [Sem.run_ite, Sem.run_pure]
    by_cases hl0 : len * te.sz = 0
    ·rw [if_pos hl0]
     have hY0 : Instr.fill (fun i => some (i * te.sz, te.sz)) ((Array.range (len * te.sz)).map fun x => (#[] : Array Value)[x % (#[] : Array Value).size]!) qs.toList = some Y := by
      rw [← hY]
      congr 1
      rw [hl0]
      simp [zcells]
     simp only [Sem.run_bind, Sem.run_pure, Result.andThen_ok, hY0]
     simp [newRow]
    ·rw [if_neg hl0]
     simp only [Sem.run_bind, hz, Result.andThen_ok, Sem.run_pure]
     have hY1 : Instr.fill (fun i => some (i * te.sz, te.sz)) ((Array.range (len * te.sz)).map fun x => z.cells[x % z.cells.size]!) qs.toList = some Y := hY
     split
     ·rename_i cells hc
      obtain rfl : cells = Y := Option.some.inj (hc.symm.trans hY1)
      simp [newRow]
     ·rename_i hc
      exact absurd hY1 (by rw [show Instr.fill _ _ _ = none from by
       cases hz9 : Instr.fill (fun i => some (i * te.sz, te.sz)) ((Array.range (len * te.sz)).map fun x => z.cells[x % z.cells.size]!) qs.toList with
       | none => rfl
       | some y => exact absurd hz9 (hc y)]; simp)
   have hYs : Y.size = len * te.sz := by rw [← hLY.len, hlen]
   have hcc := fun i (hi : i < len) => chunk_cells h0 hlen hon hi
   have hat : ∀ i, q.at_ i = (chunk te.sz len cs').getD i .junk := fun i => by rw [LX.at_, s1]
   have hk' : ∀ i, i < len → te.sz = q.k := fun i hi => by
    rcases kOK_k hko with h | h
    ·rw [s1] at h
     have := chunk_length te.sz len cs'
     rw [h] at this; simp at this; omega
    ·exact h.symm
   obtain ⟨L, hL⟩ : ∃ L, L = len := ⟨_, rfl⟩
   have htok : ∃ c w', (Instr.buildSlice t len qs).run P e.w = .ok c w' ∧ Step e (.ls q (.tok e.h.length 0)) (e.h ++ [.tok 0]) c w' := by
    refine ⟨_, _, hrun, ?_⟩
    refine fresh_end hg (w' := e.w.alloc (.cells Y el)) (cs := Y) (el := el) (m := Y.size) rfl rfl rfl rfl (Nat.le_refl _) (fun hx => ?_) (fun hx => ?_)
    ·intro b hb
     simp only [Env.fresh, if_true] at hb
     obtain rfl := Option.some.inj hb
     exact ⟨Y, el, heap_alloc_new e.w _⟩
    ·refine .tok _ _ _ _ ?_ ?_
     ·rw [← hqn]
      refine .ls q _ 0 _ (fun i j => Y.getD (i * te.sz + j) undef) (by omega) s2 (fun i hi => ?_) (fun h => ?_) (fun i j hi hj => ?_) (fun i j hi hj => ?_) (fun i j hi hj => ?_)
      ·rw [hat, (hcc i (by omega)).1, hk' i (by omega)]
      ·rw [← hk' 0 (by omega), hqn]
       simp [Env.fresh, hYs]
      ·rw [← hk' i (by omega)]
       have hlt : (i + 1) * te.sz ≤ len * te.sz := Nat.mul_le_mul_right _ (by omega)
       rw [Nat.add_mul] at hlt
       have hj' : j < te.sz := by rw [hk' i (by omega)]; exact hj
       have : i * te.sz + j < Y.size := by omega
       show (e.w.alloc (.cells Y el)).cell? _ = _
       rw [cell_of_row _ _ _ _ _ _ (heap_alloc_new e.w _)]
       simp [this]
      ·have hj' : j < te.sz := by rw [hk' i (by omega)]; exact hj
       have hlt : (i + 1) * te.sz ≤ len * te.sz := Nat.mul_le_mul_right _ (by omega)
       rw [Nat.add_mul] at hlt
       exact (hLY.rel (i * te.sz + j) (by omega)).one (allOne_mono hon (by omega))
      ·have hj' : j < te.sz := by rw [hk' i (by omega)]; exact hj
       have hlt : (i + 1) * te.sz ≤ len * te.sz := Nat.mul_le_mul_right _ (by omega)
       rw [Nat.add_mul] at hlt
       rw [hat, (hcc i (by omega)).2 j hj']
       exact ((hLY.rel (i * te.sz + j) (by omega)).mono (Nat.le_refl _) hx).pured (allPure_get hpu (by omega))
     ·simp only [Env.fresh, List.getElem?_append_right (Nat.le_refl _), Nat.sub_self]
      exact ⟨Nat.le_refl _, fun _ => .inl rfl⟩
   split
   ·exact htok
   ·split
    ·split
     ·refine ⟨_, _, hrun, ?_⟩
      refine fresh_end hg (w' := e.w.alloc (.cells Y el)) (cs := Y) (el := el) (m := 0) rfl rfl rfl rfl (Nat.zero_le _) (fun hx => ?_) (fun hx => ?_)
      ·exact .inr ⟨e.w.heap.size, Y, el, by simp [Env.fresh], heap_alloc_new e.w _, by simp [LX.n, LX.toL], by simp [Env.fresh], trivial, fun i hi => by simp [LX.n, LX.toL] at hi, fun i j hi hj => by simp [LX.n, LX.toL] at hi⟩
      ·refine .sl _ _ _ _ _ rfl ?_
       simp only [Env.fresh, List.getElem?_append_right (Nat.le_refl _), Nat.sub_self]
       exact ⟨Nat.le_refl _, fun _ => ⟨Int.le_refl _, Int.le_refl _, Int.natCast_nonneg _, .inl ⟨⟨_, rfl⟩, trivial, trivial, rfl⟩⟩⟩
     ·exact htok
    ·refine ⟨_, _, hrun, ?_⟩
     refine fresh_end hg (w' := e.w.alloc (.cells Y el)) (cs := Y) (el := el) (m := 0) rfl rfl rfl rfl (Nat.zero_le _) (fun hx => ?_) (fun hx => ?_)
     ·refine .inr ⟨e.w.heap.size, Y, el, by simp [Env.fresh], heap_alloc_new e.w _, ?_, by simp [Env.fresh], s2, ?_, ?_⟩
      ·rw [hqn, ← hk' 0 (by omega), hYs]; exact Nat.le_refl _
      ·intro i hi
       rw [hat, (hcc i (by omega)).1, hk' i (by omega)]
      ·intro i j hi hj
       have hj' : j < te.sz := by rw [hk' i (by omega)]; exact hj
       have hlt := Nat.mul_le_mul_right te.sz (show i + 1 ≤ L by omega)
       rw [Nat.add_mul, hL] at hlt
       rw [hat, (hcc i (by omega)).2 j hj', ← hk' i (by omega)]
       have := hLY.rel (i * te.sz + j) (by omega)
       exact ⟨this.mono (Nat.le_refl _) hx, this.one (allOne_mono hon (by omega))⟩
     ·refine .sl _ _ _ _ _ rfl ?_
      simp only [Env.fresh, List.getElem?_append_right (Nat.le_refl _), Nat.sub_self]
      refine ⟨Nat.le_refl _, fun _ => ⟨Int.le_refl _, by omega, by rw [hqn]; omega, .inr ⟨e.w.heap.size, L, 0, by simp [hL], by simp, by rw [hqn]; omega, ?_⟩⟩⟩
      right
      refine ⟨by simp, ?_⟩
      rw [← hk' 0 (by omega), Nat.zero_add]
      simp only [cellsSize]
      rw [heap_alloc_new e.w _]
      simp [hYs, hL]
  ·trivial
 ·trivial
include hp
theorem aMkS_ok {t : Nat} {l c : AVal} {dl dc : Value} {same : Bool} (hl : VR e l dl) (hc : VR e c dc) (hsame : same = true → dl = dc) : ARok e (aMkS p T t l c same e.h) ((Instr.makeSlice t dl dc).run P e.w) := by
 unfold aMkS
 cases hs : T.get? t with
 | none => trivial
 | some ti =>
 obtain ⟨dt, hu, hdt⟩ := (hT _ _ hs).under
 simp only
 cases hk : ti.d <;> (try trivial) <;> rw [hk] at hdt <;> simp only [DOK] at hdt
 subst hdt
 rename_i el
 simp only
 cases hte : T.get? el with
 | none => trivial
 | some te =>
 have hte := hT _ _ hte
 simp only
 split
 ·rename_i n n2
  have := hl.int_inv; subst this
  have := hc.int_inv; subst this
  cases hsm : same
  ·trivial
  have := hsame hsm
  injection this with _ hn2
  subst hn2
  simp only
  cases hon : allOne te.zero.cells
  ·trivial
  simp only
  obtain ⟨r1, r2, r3⟩ := rep_real hp n te.zero
  cases hkk : Nat.beq (repLX p n te.zero).k te.sz
  ·trivial
  have hkk := Nat.eq_of_beq_eq_true hkk
  cases h0 : Nat.blt 0 te.sz
  ·trivial
  have h0 : 0 < te.sz := by simpa using h0
  intro hq
  obtain ⟨q0, q1, q2⟩ := hq
  obtain ⟨⟨info, z, d, hi, hsz, hby, hz, hz1, hz2, hz3, _⟩, _, _, _, _⟩ := hte
  have hte := hT _ _ ‹T.get? el = some te›
  obtain ⟨hlr, _⟩ := LR.zero (e := e) hte (z := z) (by unfold zeroValue typeInfo; simp [hi, hz])
  have hzr := hlr.zrep (by omega) n.toNat
  rw [hz1] at hzr
  have hw : IntKind.i64.wrap n = n := by
   exact wrap_i64_id (by omega) (by omega)
  have hrun : (Instr.makeSlice t (.int .i64 n) (.int .i64 n)).run P e.w = .ok (.slice (some ⟨e.w.heap.size, 0, none⟩) n.toNat n.toNat) (e.w.alloc (.cells (zcells z.cells (n.toNat * te.sz)) el)) := by
   have t1 : ¬ (n < 0) := by omega
   have t2 : ¬ ((te.by_ : Int) * n > 281474976710656) := by rw [Int.mul_comm]; omega
   simp only [Instr.makeSlice, Sem.run_bind, run_underlying hu, Result.andThen_ok, asInt, asIntOf, Sem.run_pure, typeInfo, run_program, hi, hby, hw]
   rw [if_neg (by simp; omega)]
   simp only [Sem.run_bind, run_askRoom, Result.andThen_ok, hte.run_sizeOf, Sem.run_ite, Sem.run_pure]
   have hzz : (zeroValue el).run P e.w = .ok z e.w := by unfold zeroValue typeInfo; simp [hi, hz]
   by_cases hl0 : n.toNat * te.sz = 0
   ·rw [if_pos hl0, hl0]
    simp [newRow, zcells]
    have e0 : Array.range 0 = #[] := by apply Array.ext'; simp [Array.toList_range]
    rw [e0]; simp
   ·rw [if_neg hl0]
    simp only [hzz, Result.andThen_ok, newRow, Sem.run_bind, run_newObj, Sem.run_pure]
    rfl
  refine ⟨_, _, hrun, ?_⟩
  have hqn : (repLX p n te.zero).n = n.toNat := by rw [LX.n, r1, List.length_replicate]
  have hZs : (zcells z.cells (n.toNat * te.sz)).size = n.toNat * te.sz := zcells_size _ _
  have hat : ∀ i, i < n.toNat → (repLX p n te.zero).at_ i = te.zero := fun i hi => by
   rw [LX.at_, r1]; simp [List.getD, hi]
  refine fresh_end hg (w' := e.w.alloc (.cells (zcells z.cells (n.toNat * te.sz)) el)) (cs := zcells z.cells (n.toNat * te.sz)) (el := el) (m := 0) rfl rfl rfl rfl (Nat.zero_le _) (fun hx => ?_) (fun hx => ?_)
  ·refine .inr ⟨e.w.heap.size, _, el, by simp [Env.fresh], heap_alloc_new e.w _, ?_, by simp [Env.fresh], r2, ?_, ?_⟩
   ·rw [hqn, hkk, hZs]; exact Nat.le_refl _
   ·intro i hi
    rw [hat i (by omega), r3]
   ·intro i j hi hj
    rw [hqn] at hi
    rw [hkk] at hj ⊢
    have hlt : (i + 1) * te.sz ≤ n.toNat * te.sz := Nat.mul_le_mul_right _ (by omega)
    rw [Nat.add_mul] at hlt
    have hz0 : 0 < z.cells.size := by omega
    rw [hat i hi, zcells_get _ _ _ (by omega) hz0, hz1, show (i * te.sz + j) % te.sz = j by rw [Nat.mul_comm, Nat.mul_add_mod, Nat.mod_eq_of_lt hj]]
    have hl9 := hte.zl
    have := hlr.rel j (by omega)
    exact ⟨this.mono (Nat.le_refl _) hx, this.one (allOne_mono hon (by omega))⟩
  ·refine .sl _ _ _ _ _ rfl ?_
   simp only [Env.fresh, List.getElem?_append_right (Nat.le_refl _), Nat.sub_self]
   refine ⟨Nat.le_refl _, fun _ => ⟨Int.le_refl _, q0, by rw [hqn]; omega, .inr ⟨e.w.heap.size, n.toNat, 0, by simp, by simp, by rw [hqn]; exact Nat.sub_le _ _, ?_⟩⟩⟩
   right
   refine ⟨by simp, ?_⟩
   rw [hkk, Nat.zero_add]
   simp only [cellsSize]
   rw [heap_alloc_new e.w _]
   simp [hZs]
 ·trivial
end
end Go.AL
/-
  AL: the operations, ninth part: append.
-/
set_option linter.unusedSectionVars false
set_option linter.unusedVariables false
set_option linter.unusedSimpArgs false
namespace Go.AL
open Go
structure FL (w : World) (ps : Nat → Nat) (r : LX) (z : Nat) (news : List Value) : Prop where
 len : news.length = r.n * z
 cl : ∀ i, i < r.n → (r.at_ i).cells.length = z
 rel : ∀ i j, i < r.n → j < z → PVR w ps ((r.at_ i).cells.getD j .junk) (news.getD (i * z + j) undef) ∧ (news.getD (i * z + j) undef).oneCell' = true
theorem getD_flat (cv : Nat → Nat → Value) (n z i j : Nat) (hi : i < n) (hj : j < z) : ((List.range (n * z)).map fun x => cv (x / z) (x % z)).getD (i * z + j) undef = cv i j := by
 have hlt : (i + 1) * z ≤ n * z := Nat.mul_le_mul_right _ hi
 rw [Nat.add_mul] at hlt
 have h1 : i * z + j < n * z := by omega
 have h2 : (i * z + j) / z = i := by rw [Nat.mul_comm, Nat.mul_add_div (by omega), Nat.div_eq_of_lt hj]; omega
 have h3 : (i * z + j) % z = j := by rw [Nat.mul_comm, Nat.mul_add_mod, Nat.mod_eq_of_lt hj]
 simp [List.getD, h1, h2, h3]
theorem first_ok {P : Program} {w : World} {ps : Nat → Nat} {r : LX} {d : Value} {z : Nat} (hz : 0 < z) (h : PVR w ps (.ls r .any) d) (hk : r.kOK z = true) :
 ∃ news, FL w ps r z news ∧ ∀ w', w'.heap = w.heap → (Builtin.firstCells z r.n d).run P w' = .ok news.toArray w' := by
 generalize hv : AVal.ls r .any = v at h
 cases h <;> cases hv
 ·rename_i hq hf hc
  refine ⟨[], ⟨by rw [hq]; simp, fun i hi => by omega, fun i j hi => by omega⟩, fun w' _ => by simp [Builtin.firstCells]⟩
 ·rename_i a hq hf
  refine ⟨[], ⟨by rw [hq]; simp, fun i hi => by omega, fun i j hi => by omega⟩, fun w' _ => ?_⟩
  rw [hq]
  simp [Builtin.firstCells, loadCells, loadCellsFrom]
 ·rename_i b off cap cv hcap hf hkk hp hc h1 hv
  rcases kOK_k hk with h0 | h0
  ·have hn : r.n = 0 := by rw [LX.n, h0]; rfl
   refine ⟨[], ⟨by rw [hn]; simp, fun i hi => by omega, fun i j hi => by omega⟩, fun w' _ => ?_⟩
   rw [hn]
   simp [Builtin.firstCells, loadCells, loadCellsFrom]
  ·subst h0
   refine ⟨(List.range (r.n * r.k)).map fun x => cv (x / r.k) (x % r.k), ⟨by simp, hkk, fun i j hi hj => ?_⟩, fun w' hw => ?_⟩
   ·rw [getD_flat _ _ _ _ _ hi hj]
    exact ⟨hv i j hi hj, h1 i j hi hj⟩
   ·simp only [Builtin.firstCells]
    refine run_loadCells w' _ _ _ fun x hx => ?_
    rw [addr_add]
    have hi : x / r.k < r.n := Nat.div_lt_of_lt_mul (by rw [Nat.mul_comm]; exact hx)
    have hj : x % r.k < r.k := Nat.mod_lt _ hz
    have := hc _ _ hi hj
    rw [show off + x / r.k * r.k + x % r.k = off + x by have := Nat.div_add_mod x r.k; rw [Nat.mul_comm] at this; omega] at this
    rw [← this]
    simp only [World.cell?, hw]
section
variable {P : Program} {t t2 ty el el2 : Nat} {te : TI} {w : World} (ht : P.underlying t = some (.slice el)) (ht2 : P.underlying t2 = some (.slice el2)) (hte : TIOK P el te)
 {ba : Option Addr} {n cap m : Nat} {dy : Value} (hdy : ∃ a c, dy = .slice a m c) {news : List Value}
include ht ht2 hte hdy
theorem run_append_idle (hm : m = 0) (hcap : n ≤ cap) (hf : (Builtin.firstCells te.sz m dy).run P w = .ok #[] w) : (Builtin.append_ #[t, t2] ty #[.slice ba n cap, dy]).run P w = .ok (.slice ba n cap) w := by
 obtain ⟨a, c, rfl⟩ := hdy
 subst hm
 simp only [Builtin.append_]
 cases ba <;> simp [run_underlying ht, run_underlying ht2, hte.run_sizeOf, Builtin.lenOf, hcap, hf, storeCells]
theorem run_append_put (hcap : n + m ≤ cap) {b off : Nat} (hba : ba = some ⟨b, off, none⟩) {cur : Array Value} {elb : TypeId} (hb : w.heap[b]? = some (.cells cur elb (0, 0)))
 (hf : (Builtin.firstCells te.sz m dy).run P w = .ok news.toArray w) (hfit : off + n * te.sz + news.length ≤ cur.size) (h1 : ∀ v ∈ news, v.oneCell' = true) :
 (Builtin.append_ #[t, t2] ty #[.slice ba n cap, dy]).run P w = .ok (.slice ba (n + m) cap) (w.setRow b (spliced cur (off + n * te.sz) news)) := by
 obtain ⟨a, c, rfl⟩ := hdy
 subst hba
 have hst := run_storeCells_at P b (off + n * te.sz) elb news 0 cur w hb (by simpa using hfit) h1
 simp only [Nat.add_zero] at hst
 simp only [Builtin.append_]
 simp [run_underlying ht, run_underlying ht2, hte.run_sizeOf, Builtin.lenOf, hcap, hf, addr_add', hst, spliced]
theorem run_append_new {olds : List Value} (hcap : cap < n + m) (h63 : ((n + m : Nat) : Int) ≤ 9223372036854775807) (h48 : (n + m) * te.by_ ≤ 140737488355328)
 (hf : (Builtin.firstCells te.sz m dy).run P w.drew = .ok news.toArray w.drew) (hfo : (Builtin.firstCells te.sz n (.slice ba n cap)).run P w.drew = .ok olds.toArray w.drew) :
 ∃ rest newCap, n + m ≤ newCap ∧ rest.size = (newCap - (n + m)) * te.sz ∧
 (Builtin.append_ #[t, t2] ty #[.slice ba n cap, dy]).run P w = .ok (.slice (some ⟨w.heap.size, 0, none⟩) (n + m) newCap) (w.drew.alloc (.cells (olds.toArray ++ news.toArray ++ rest) el)) := by
 obtain ⟨a, c, rfl⟩ := hdy
 have hte' := hte
 obtain ⟨⟨info, z, d, hi, hsz, hby, hz, hz1, hz2, hz3, _⟩, _, _, _, _⟩ := hte'
 have hfits := growslice_fits hcap (bytes := te.by_) h48
 have hn : ¬ (n + m ≤ cap) := by omega
 have h63' : ¬ (9223372036854775807 < ((n : Int) + (m : Int))) := by omega
 have h48' : ¬ (281474976710656 < Builtin.nextslicecap (n + m) cap * te.by_) := by omega
 refine ⟨Builtin.zeroCells z.cells (grownCap w (n + m) cap el - (n + m)), grownCap w (n + m) cap el, grownCap_ge w (n + m) cap el, by rw [size_zeroCells, hz1], ?_⟩
 have hzr : ∀ w, (zeroValue el).run P w = .ok z w := fun w => by unfold zeroValue typeInfo; simp [hi, hz]
 have hinfo : ∀ w, (typeInfo el).run P w = .ok info w := fun w => by unfold typeInfo; simp [hi]
 simp only [Builtin.append_]
 simp [run_underlying ht, run_underlying ht2, hte.run_sizeOf, Builtin.lenOf, hn, h63', hinfo, hby, h48', Question.forced, hf, hfo, hzr, newRow, grownCap]
 congr 2
 apply Array.ext'
 simp [List.append_assoc]
end
theorem PVR.ls_shape {w : World} {ps : Nat → Nat} {q : LX} {d : Value} (h : PVR w ps (.ls q .any) d) : d = .slice none 0 0 ∨ (∃ a, d = .slice (some a) 0 0) ∨ ∃ b off cap, d = .slice (some ⟨b, off, none⟩) q.n cap ∧ q.n ≤ cap := by
 generalize hv : AVal.ls q .any = v at h
 cases h <;> cases hv
 ·exact .inl rfl
 ·rename_i a hq hf
  exact .inr (.inl ⟨a, rfl⟩)
 ·exact .inr (.inr ⟨_, _, _, rfl, by assumption⟩)
theorem arr3_one (a b : List Value) (c : Array Value) (x : Nat) (h : x < a.length) : (a.toArray ++ b.toArray ++ c).getD x undef = a.getD x undef := by
 rw [Array.getD_eq_getD_getElem?, Array.getElem?_append, if_pos (by simp; omega), Array.getElem?_append, if_pos (by simp; omega)]
 simp [List.getD]
theorem arr3_two (a b : List Value) (c : Array Value) (x : Nat) (h : x < b.length) : (a.toArray ++ b.toArray ++ c).getD (a.length + x) undef = b.getD x undef := by
 rw [Array.getD_eq_getD_getElem?, Array.getElem?_append, if_pos (by simp; omega), Array.getElem?_append, if_neg (by simp)]
 simp [List.getD]
theorem isSl_spec {P : Program} {T : Tab} (hT : TabOK P T) {t : Nat} (h : isSl T t = true) : ∃ el, P.underlying t = some (.slice el) := by
 unfold isSl at h
 split at h
 ·rename_i ti hti
  split at h
  ·rename_i el hd
   obtain ⟨d, hu, hdd⟩ := (hT _ _ hti).under
   rw [hd] at hdd
   simp only [DOK] at hdd
   subst hdd
   exact ⟨el, hu⟩
  ·cases h
 ·cases h
theorem PVR.joined {w : World} {ps : Nat → Nat} {q r s : LX} {z b off cap : Nat} (hs : s.toL = q.toL ++ r.toL) (hfit : s.fit) (hk : s.kOK z = true) {cs : Array Value} {el : TypeId} {fr : Nat × Nat} (hb : w.heap[b]? = some (.cells cs el fr))
 {olds news : List Value} (ho : FL w ps q z olds) (hn : FL w ps r z news) (hps : off + (q.n + r.n) * z ≤ ps b) (hle : off + (q.n + r.n) * z ≤ cs.size) (hcap : q.n + r.n ≤ cap)
 (h1 : ∀ x, x < q.n * z → cs.getD (off + x) undef = olds.getD x undef) (h2 : ∀ x, x < r.n * z → cs.getD (off + q.n * z + x) undef = news.getD x undef) :
 PVR w ps (.ls s .any) (.slice (some ⟨b, off, none⟩) (q.n + r.n) cap) := by
 have hsn : s.n = q.n + r.n := by rw [LX.n, hs, List.length_append]
 have hat1 : ∀ i, i < q.n → s.at_ i = q.at_ i := fun i hi => by
  rw [LX.at_, hs, LX.at_]
  simp only [List.getD]
  rw [List.getElem?_append_left hi]
 have hat2 : ∀ i, q.n ≤ i → s.at_ i = r.at_ (i - q.n) := fun i hi => by
  rw [LX.at_, hs, LX.at_]
  simp only [List.getD]
  rw [List.getElem?_append_right hi]
 have hkz : s.n ≠ 0 → s.k = z := fun h0 => by
  rcases kOK_k hk with h | h
  ·exact absurd (by rw [LX.n, h]; rfl) h0
  ·exact h
 have hcell : ∀ i j, i < s.n → j < s.k → s.k = z ∧ off + i * s.k + j < cs.size := fun i j hi hj => by
  have hz := hkz (by omega)
  refine ⟨hz, ?_⟩
  rw [hz] at hj ⊢
  have hlt : (i + 1) * z ≤ (q.n + r.n) * z := Nat.mul_le_mul_right _ (by omega)
  rw [Nat.add_mul] at hlt
  omega
 have hval : ∀ i j, i < s.n → j < s.k → PVR w ps ((s.at_ i).cells.getD j .junk) (cs.getD (off + i * s.k + j) undef) ∧ (cs.getD (off + i * s.k + j) undef).oneCell' = true := fun i j hi hj => by
  obtain ⟨hz, hlt⟩ := hcell i j hi hj
  rw [hz] at hj hlt ⊢
  by_cases hiq : i < q.n
  ·rw [hat1 i hiq]
   have hlt : (i + 1) * z ≤ q.n * z := Nat.mul_le_mul_right _ hiq
   rw [Nat.add_mul] at hlt
   have := h1 (i * z + j) (by omega)
   rw [← Nat.add_assoc] at this
   rw [this]
   exact ho.rel i j hiq hj
  ·rw [hat2 i (by omega)]
   have hlt : (i - q.n + 1) * z ≤ r.n * z := Nat.mul_le_mul_right _ (by omega)
   rw [Nat.add_mul] at hlt
   have := h2 ((i - q.n) * z + j) (by omega)
   have e1 : (q.n + (i - q.n)) * z = i * z := by congr 1; omega
   rw [Nat.add_mul] at e1
   rw [show off + q.n * z + ((i - q.n) * z + j) = off + i * z + j by omega] at this
   rw [this]
   exact hn.rel (i - q.n) j (by omega) hj
 rw [← hsn]
 refine .ls s b off cap (fun i j => cs.getD (off + i * s.k + j) undef) (by omega) hfit (fun i hi => ?_) (fun h => ?_) (fun i j hi hj => ?_) (fun i j hi hj => (hval i j hi hj).2) (fun i j hi hj => (hval i j hi hj).1)
 ·rw [hkz (by omega)]
  by_cases hiq : i < q.n
  ·rw [hat1 i hiq]; exact ho.cl i hiq
  ·rw [hat2 i (by omega)]; exact hn.cl _ (by omega)
 ·rw [hkz h, hsn]; exact hps
 ·rw [cell_of_row _ _ _ _ _ _ hb]
  have := (hcell i j hi hj).2
  simp [this]
theorem FL.mono {w w' : World} {ps ps' : Nat → Nat} {r : LX} {z : Nat} {news : List Value} (h : FL w ps r z news) (hps : ∀ b, ps b ≤ ps' b) (hcell : ∀ b o, o < ps b → w'.cell? ⟨b, o, none⟩ = w.cell? ⟨b, o, none⟩) : FL w' ps' r z news :=
 ⟨h.len, h.cl, fun i j hi hj => ⟨(h.rel i j hi hj).1.mono hps hcell, (h.rel i j hi hj).2⟩⟩
def Env.gh (e : Env) (sg : Nat → Option Nat) (h : Heap) : Env := { e with sg := sg, h := h }
theorem gh_good {e : Env} (hg : Good e) {i : Nat} {o' : AObj} {h' : Heap} {sg' : Nat → Option Nat} (hsg : ∀ j, j ≠ i → sg' j = e.sg j) (hh : ∀ j, j ≠ i → h'[j]? = e.h[j]?) (hi : h'[i]? = some o')
 (hm : ∀ o, e.h[i]? = some o → OMono e (e.gh sg' h') i o o') (hown : ∀ b, o'.live = true → sg' i = some b → ∃ o, e.h[i]? = some o ∧ o.live = true ∧ e.sg i = some b) :
 Ext e.h.length e (e.gh sg' h') ∧ Upd e (e.gh sg' h') ∧ (ObjOK (e.gh sg' h') i o' → Good (e.gh sg' h')) := by
 have hx : Ext e.h.length e (e.gh sg' h') := ⟨fun j oj hj hoj => by
  by_cases hji : j = i
  ·subst hji; exact ⟨o', hi, hm oj hoj⟩
  ·refine ⟨oj, (hh j hji).trans hoj, ?_⟩
   cases oj <;> simp [OMono, Env.gh, hsg j hji], fun _ => Nat.le_refl _, fun _ _ _ => rfl, fun _ => Nat.le_refl _⟩
 have hown' : ∀ b, Owned (e.gh sg' h') b → Owned e b := fun b ⟨j, oj, hj, hl, hs⟩ => by
  by_cases hji : j = i
  ·subst hji
   have : oj = o' := by have := hj.symm.trans hi; exact Option.some.inj this
   subst this
   obtain ⟨o, h1, h2, h3⟩ := hown b hl hs
   exact ⟨j, o, h1, h2, h3⟩
  ·exact ⟨j, oj, (hh j hji).symm.trans hj, hl, (hsg j hji).symm.trans hs⟩
 refine ⟨hx, ⟨rfl, rfl, rfl, Nat.le_refl _, fun _ _ _ => ⟨rfl, rfl⟩, fun b hb => .inl (hown' b hb)⟩, fun hok => ⟨fun j oj hj => ?_, fun x y ox oy b hx' hlx hy' hly hsx hsy => ?_, hg.ps⟩⟩
 ·by_cases hji : j = i
  ·subst hji
   have : oj = o' := by have := hj.symm.trans hi; exact Option.some.inj this
   subst this
   exact hok
  ·have hj' := (hh j hji).symm.trans hj
   have hob := hg.obj j oj hj'
   have hs' : (e.gh sg' h').sg j = e.sg j := hsg j hji
   cases oj with
   | box vs =>
     obtain ⟨b2, c2, el2, h1, h2, h3, h4, h5⟩ := hob
     exact ⟨b2, c2, el2, hs'.trans h1, h2, h3, h4, fun k hk => (h5 k hk).mono (Nat.le_refl _) hx⟩
   | rw g q =>
     rcases hob with h0 | ⟨b2, c2, el2, h1, h2, h3, h4, h5, h6, h7⟩
     ·exact .inl ⟨h0.1, hs'.trans h0.2⟩
     ·exact .inr ⟨b2, c2, el2, hs'.trans h1, h2, h3, h4, h5, h6, fun x y hx' hy' => ⟨((h7 x y hx' hy').1).mono (Nat.le_refl _) hx, (h7 x y hx' hy').2⟩⟩
   | tok n => intro b2 h1; exact hob b2 (hs'.symm.trans h1)
   | loop r => obtain ⟨b2, r2, h1, h2, h3, h4⟩ := hob; exact ⟨b2, r2, hs'.trans h1, h2, h3, fun t => (h4 t).mono (Nat.le_refl _) hx⟩
   | obj r => obtain ⟨b2, r2, h1, h2, h3⟩ := hob; exact ⟨b2, r2, hs'.trans h1, h2, h3⟩
   | dead g => trivial
 ·have key : ∀ z oz, (e.gh sg' h').h[z]? = some oz → oz.live = true → (e.gh sg' h').sg z = some b → ∃ o, e.h[z]? = some o ∧ o.live = true ∧ e.sg z = some b := fun z oz hz hl hs => by
   by_cases hzi : z = i
   ·subst hzi
    have : oz = o' := by have := hz.symm.trans hi; exact Option.some.inj this
    subst this
    exact hown b hl hs
   ·exact ⟨oz, (hh z hzi).symm.trans hz, hl, (hsg z hzi).symm.trans hs⟩
  obtain ⟨o1, a1, a2, a3⟩ := key x ox hx' hlx hsx
  obtain ⟨o2, b1, b2, b3⟩ := key y oy hy' hly hsy
  exact hg.inj x y o1 o2 b a1 a2 b1 b2 a3 b3
structure Src (e : Env) {P : Program} (z : Nat) (r : LX) (dy : Value) (news : List Value) : Prop where
 len : news.length = r.n * z
 cl : ∀ x, x < r.n → (r.at_ x).cells.length = z
 rel : ∀ x j, x < r.n → j < z → VR e ((r.at_ x).cells.getD j .junk) (news.getD (x * z + j) undef) ∧ (news.getD (x * z + j) undef).oneCell' = true
 fit : r.fit
 sl : ∃ a cap, dy = .slice a r.n cap
 first : ∀ m, m ≤ r.n → ∀ w', w'.heap = e.w.heap → (Builtin.firstCells z m dy).run P w' = .ok (news.take (m * z)).toArray w'
section
variable {e : Env} {P : Program} {T : Tab} (hT : TabOK P T) (hg : Good e) {p : Pr} (hp : DataOK p)
include hT hg hp
theorem append_tok' {te : TI} {t t2 el el2 : Nat} (ty : TypeId) (ht : P.underlying t = some (.slice el)) (ht2 : P.underlying t2 = some (.slice el2)) (hte : TIOK P el te) (hz : 0 < te.sz)
 {q r s : LX} {cq : Cap} {dx dy : Value} (hx : VR e (.ls q cq) dx) {news : List Value} (hFn : FL e.w e.ps r te.sz news) (hfn : ∀ w', w'.heap = e.w.heap → (Builtin.firstCells te.sz r.n dy).run P w' = .ok news.toArray w') (hrfit : r.fit) (hdy0 : ∃ ay capy, dy = .slice ay r.n capy) (hkq : q.kOK te.sz = true) (hkr : r.kOK te.sz = true) (happ : q.app p r = some s)
 (hroom : ((q.n : Int) + r.n) * te.by_ ≤ 140737488355328 ∧ (q.n : Int) + r.n ≤ 140737488355328)
 {i n' : Nat} {h' : Heap} (hh : ∀ j, j ≠ i → h'[j]? = e.h[j]?) (hi : h'[i]? = some (.tok n'))
 (hlow : ∀ o, e.h[i]? = some o → ∃ n, o = .tok n ∧ n < n')
 (hreal : e.h[i]? = none ∧ dx = .slice none 0 0 ∨ ∃ n, e.h[i]? = some (.tok n) ∧ endOK e i q.k dx) :
 ∃ c w', (Builtin.append_ #[t, t2] ty #[dx, dy]).run P e.w = .ok c w' ∧ Step e (.ls s (.tok i n')) h' c w' := by
 obtain ⟨a1, a2, a3, a4⟩ := app_real hp happ
 obtain ⟨ax, capx, hdx, hxn, hxs⟩ := hx.ls_len
 obtain ⟨ay, capy, hdy⟩ := hdy0
 have hxa := hx.ls_any
 obtain ⟨olds, hFo, hfo⟩ := first_ok (P := P) hz hxa hkq
 have hsfit : s.fit := a2 hxa.ls_fit hrfit
 have hsk := a3 _ hkq hkr
 have hncap : q.n ≤ capx := by
  have h := hxa
  rw [hdx] at h
  generalize hd : (Value.slice ax q.n capx) = d at h
  cases h with
  | lsnil _ _ h0 => rw [h0]; exact Nat.zero_le _
  | lse _ _ h0 => rw [h0]; exact Nat.zero_le _
  | ls _ b2 off cp2 cv hcap => injection hd with e1 e2 e3; rw [e3]; exact hcap
 have hlive : ∀ (e2 : Env), e2.h = h' → ∀ {o : AObj}, e.h[i]? = some o → (∀ (n : Nat), o = .tok n → OMono e e2 i o (.tok n')) := fun e2 _ o ho n hn => by
  subst hn
  obtain ⟨n2, h1, h2⟩ := hlow _ ho
  cases h1
  exact ⟨by omega, fun h => by omega⟩
 have hmono : ∀ (e2 : Env), ∀ o, e.h[i]? = some o → OMono e e2 i o (.tok n') := fun e2 o ho => by
  obtain ⟨n2, rfl, h2⟩ := hlow _ ho
  exact ⟨by omega, fun h => by omega⟩
 have hsn : s.n = q.n + r.n := by rw [LX.n, a1, List.length_append]
 have hnewsone : ∀ v ∈ news, v.oneCell' = true := fun v hv => by
  obtain ⟨x, hx', rfl⟩ := List.mem_iff_getElem.1 hv
  have hx2 : x < r.n * te.sz := by rw [← hFn.len]; exact hx'
  have h1 : x / te.sz < r.n := Nat.div_lt_of_lt_mul (by rw [Nat.mul_comm]; exact hx2)
  have := (hFn.rel (x / te.sz) (x % te.sz) h1 (Nat.mod_lt _ hz)).2
  rw [show x / te.sz * te.sz + x % te.sz = x by have := Nat.div_add_mod x te.sz; rw [Nat.mul_comm] at this; exact this] at this
  simpa [List.getD, hx'] using this
 by_cases hr0 : r.n = 0
 ·-- nothing is put behind
  have hrun := run_append_idle (P := P) (ty := ty) ht ht2 hte (ba := ax) (n := q.n) (cap := capx) (m := r.n) (dy := dy) ⟨ay, capy, hdy⟩ hr0 hncap (by
   have := hfn e.w rfl
   have hl := hFn.len
   rw [hr0, Nat.zero_mul] at hl
   rw [List.eq_nil_of_length_eq_zero hl] at this
   exact this)
  rw [← hdx] at hrun
  refine ⟨dx, e.w, hrun, ?_⟩
  let sg' : Nat → Option Nat := fun j => if j = i then (if e.h[i]? = none then none else e.sg i) else e.sg j
  have hsg : ∀ j, j ≠ i → sg' j = e.sg j := fun j hj => by simp only [sg', if_neg hj]
  obtain ⟨g1, g2, g3⟩ := gh_good hg hsg hh hi (fun o ho => hmono _ o ho) (fun b hl hs => by
   simp only [sg', if_true] at hs
   split at hs
   ·cases hs
   ·rename_i hne
    cases ho : e.h[i]? with
    | none => exact absurd ho hne
    | some o =>
      obtain ⟨n2, rfl, _⟩ := hlow _ ho
      exact ⟨_, rfl, rfl, hs⟩)
  have hg' := g3 (fun b hs => by
   simp only [Env.gh, sg', if_true] at hs
   split at hs
   ·cases hs
   ·rename_i hne
    cases ho : e.h[i]? with
    | none => exact absurd ho hne
    | some o =>
      obtain ⟨n2, rfl, _⟩ := hlow _ ho
      exact hg.obj _ _ ho b hs)
  refine ⟨_, hg', rfl, rfl, ?_, g2, g1⟩
  have hsq : s.toL = q.toL := by
   rw [a1, List.eq_nil_of_length_eq_zero (show r.toL.length = 0 from hr0), List.append_nil]
  have hpv : PVR e.w e.ps (.ls s .any) dx := by
   have h := hxa
   generalize hv : AVal.ls q .any = v at h
   have hkk : s.n ≠ 0 → s.k = q.k := fun h0 => by
    rcases kOK_k hsk with h | h
    ·exact absurd (by rw [LX.n, h]; rfl) h0
    ·rcases kOK_k hkq with h2 | h2
     ·exact absurd (by rw [LX.n, hsq, h2]; rfl) h0
     ·rw [h, h2]
   have hat : ∀ i, s.at_ i = q.at_ i := fun i => by rw [LX.at_, hsq]
   have hn : s.n = q.n := by rw [LX.n, hsq]
   cases h <;> cases hv
   ·rename_i hq hf hc
    exact .lsnil _ _ (by rw [hn]; exact hq) hsfit (.inl rfl)
   ·rename_i ad hq hf
    exact .lse _ _ (by rw [hn]; exact hq) hsfit
   ·rename_i b off cap cv hcap hf hk hps hc h1 hv
    rw [← hn]
    refine .ls s b off cap cv (by omega) hsfit (fun i hi => ?_) (fun h => ?_) (fun i j hi hj => ?_) (fun i j hi hj => ?_) (fun i j hi hj => ?_)
    ·rw [hat, hkk (by omega)]; exact hk i (by omega)
    ·rw [hkk h, hn]; exact hps (by omega)
    ·rw [hkk (by omega)] at hj ⊢; exact hc i j (by omega) hj
    ·rw [hkk (by omega)] at hj; exact h1 i j (by omega) hj
    ·rw [hkk (by omega)] at hj; rw [hat]; exact hv i j (by omega) hj
  refine .tok _ _ _ _ hpv ?_
  show tokAt h'[i]? n' _
  rw [hi]
  refine ⟨Nat.le_refl _, fun _ => ?_⟩
  rcases hreal with ⟨_, rfl⟩ | ⟨n, ho, hend⟩
  ·trivial
  ·rw [hdx] at hend ⊢
   cases ax with
   | none => trivial
   | some ad =>
     rcases hend with h | ⟨h1, h2, h3, h4⟩
     ·exact .inl h
     ·have : s.k = q.k := a4 (fun h => by subst h; simp [LX.k] at h4)
      right
      refine ⟨?_, ?_, ?_, ?_⟩
      ·simp only [Env.gh, sg', if_true, ho]
       rw [if_neg (by simp)]
       exact h1
      ·rw [this]; exact h2
      ·rw [this]; exact h3
      ·rw [this]; exact h4
 ·-- something is put behind
  have hs0 : s ≠ .nl := fun h => by
   have : s.n = 0 := by rw [h]; rfl
   omega
  have hskz : s.k = te.sz := (kOK_k' hsk).resolve_left hs0
  by_cases hcap : q.n + r.n ≤ capx
  ·-- in place
   rcases hreal with ⟨_, h0⟩ | ⟨n, ho, hend⟩
   ·rw [hdx] at h0
    injection h0 with e1 e2 e3
    omega
   rw [hdx] at hend
   cases hax : ax with
   | none =>
     have := hxn hax
     subst hax
     -- a nil slice has no room
     rcases hxa.ls_shape with h | ⟨a, h⟩ | ⟨b, off, cp, h, _⟩ <;> rw [hdx] at h <;> injection h with e1 e2 e3
     ·omega
     ·cases e1
     ·cases e1
   | some ad =>
     subst hax
     rcases hend with h | ⟨h1, h2, h3, h4⟩
     ·omega
     have hqk : q.k = te.sz := (kOK_k' hkq).resolve_left (fun h => by subst h; simp [LX.k] at h4)
     obtain ⟨cs, elb, hb⟩ := hg.obj _ _ ho _ h1
     have hcz : cellsSize e.w ad.block = cs.size := by simp [cellsSize, hb]
     rw [hqk] at h2 h3
     rw [hcz] at h3
     have hm1 : (q.n + r.n) * te.sz ≤ capx * te.sz := Nat.mul_le_mul_right _ hcap
     rw [Nat.add_mul] at hm1
     -- the address is a plain one
     have had : ad = ⟨ad.block, ad.off, none⟩ := by
      rcases hxa.ls_shape with h | ⟨a, h⟩ | ⟨b, off, cp, h, _⟩ <;> rw [hdx] at h <;> injection h with e1 e2 e3
      ·cases e1
      ·omega
      ·injection e1 with e1; rw [e1]
     have hlenn := hFn.len
     have hrun := run_append_put (P := P) (ty := ty) ht ht2 hte (ba := some ad) (n := q.n) (cap := capx) (m := r.n) (dy := dy) ⟨ay, capy, hdy⟩ (news := news) hcap (congrArg some had) hb (hfn e.w rfl) (by omega) hnewsone
     rw [← hdx] at hrun
     refine ⟨_, _, hrun, ?_⟩
     have hsz : (spliced cs (ad.off + q.n * te.sz) news).size = cs.size := spliced_size (by omega)
     have hkeep : ∀ x, x < e.ps ad.block → (spliced cs (ad.off + q.n * te.sz) news)[x]? = cs[x]? := fun x hx' => spliced_get? (by omega) _ (by omega)
     have hm : OMono e (e.wr ad.block (spliced cs (ad.off + q.n * te.sz) news) h' (ad.off + (q.n + r.n) * te.sz)) i (.tok n) (.tok n') := hmono _ _ ho
     have hps : e.ps ad.block ≤ ad.off + (q.n + r.n) * te.sz := by rw [h2, Nat.add_mul]; omega
     have hext := wr_ext hg ho rfl h1 hb hsz hh hi hm hkeep hps
     have hgood := wr_good hg ho rfl h1 hb hsz hh hi hm hkeep hps (fun b hb' => by
      have : b = ad.block := by have := hb'.symm.trans h1; exact Option.some.inj this
      subst this
      exact ⟨_, elb, setRow_heap _ _ _ _ _ _ hb⟩) (by rw [Nat.add_mul]; omega)
     refine ⟨_, hgood, rfl, rfl, .tok _ _ _ _ ?_ ?_, wr_upd hg ho rfl h1 hb hh hi, hext⟩
     ·rw [had]
      have hb2 : (e.wr ad.block (spliced cs (ad.off + q.n * te.sz) news) h' (ad.off + (q.n + r.n) * te.sz)).w.heap[ad.block]? = some (.cells (spliced cs (ad.off + q.n * te.sz) news) elb (0, 0)) := setRow_heap _ _ _ _ _ _ hb
      refine PVR.joined a1 hsfit hsk hb2 (hFo.mono hext.ps hext.cell) (hFn.mono hext.ps hext.cell) (by simp [Env.wr]) (by rw [hsz, Nat.add_mul]; omega) hcap (fun x hx' => ?_) (fun x hx' => ?_)
      ·rw [spliced_get (by omega), if_neg (by omega)]
       -- what was read is what lies there
       have hxx : x / te.sz < q.n := Nat.div_lt_of_lt_mul (by rw [Nat.mul_comm]; exact hx')
       have hre := hfo e.w rfl
       rw [hdx, had] at hre
       simp only [Builtin.firstCells] at hre
       have hl2 := run_loadCells (P := P) e.w ⟨ad.block, ad.off, none⟩ (q.n * te.sz) (fun j => cs.getD (ad.off + j) undef) (fun j hj => by
        rw [addr_add, cell_of_row _ _ _ _ _ _ hb]
        have : ad.off + j < cs.size := by omega
        simp [this])
       rw [hl2] at hre
       have hre := (Result.ok.inj hre).1
       have : olds = (List.range (q.n * te.sz)).map fun j => cs.getD (ad.off + j) undef := by
        have := congrArg Array.toList hre
        simpa using this.symm
       rw [this]
       simp [List.getD, hx']
      ·rw [spliced_get (by omega), if_pos (by omega)]
       congr 1; omega
     ·show tokAt h'[i]? n' _
      rw [hi]
      refine ⟨Nat.le_refl _, fun _ => .inr ⟨h1, ?_, ?_, ?_⟩⟩
      ·simp only [Env.wr, if_true]; rw [hskz]
      ·rw [hskz]
       show _ ≤ cellsSize (e.w.setRow _ _) _
       simp only [cellsSize]
       rw [setRow_heap _ _ _ _ _ _ hb]
       show _ ≤ (spliced cs (ad.off + q.n * te.sz) news).size
       omega
      ·rw [hskz]; exact hz
  ·-- in a new block
   have h48 : (q.n + r.n) * te.by_ ≤ 140737488355328 := by
    have h9 := hroom.1
    rw [← Int.natCast_add, ← Int.natCast_mul] at h9
    omega
   obtain ⟨rest, newCap, hnc, hrest, hrun⟩ := run_append_new (P := P) (ty := ty) ht ht2 hte (ba := ax) (n := q.n) (cap := capx) (m := r.n) (dy := dy) ⟨ay, capy, hdy⟩ (news := news) (olds := olds) (by omega) (by omega) h48 (hfn _ rfl) (by rw [← hdx]; exact hfo _ rfl)
   rw [← hdx] at hrun
   refine ⟨_, _, hrun, ?_⟩
   have hlo := hFo.len
   have hln := hFn.len
   have hnc2 : (q.n + r.n + (newCap - (q.n + r.n))) * te.sz = newCap * te.sz := by congr 1; omega
   rw [Nat.add_mul, Nat.add_mul] at hnc2
   have hCs : (olds.toArray ++ news.toArray ++ rest).size = newCap * te.sz := by
    simp; omega
   have hw : (e.w.drew.alloc (.cells (olds.toArray ++ news.toArray ++ rest) el)).heap = e.w.heap.push (.cells (olds.toArray ++ news.toArray ++ rest) el) := rfl
   have hm2 : (q.n + r.n) * te.sz ≤ (match Obj.cells (olds.toArray ++ news.toArray ++ rest) el with | .cells cs _ _ => cs.size | _ => 0) := by
    show _ ≤ (olds.toArray ++ news.toArray ++ rest).size
    rw [hCs, Nat.add_mul]; omega
   have hext := fresh_ext (m := (q.n + r.n) * te.sz) hg hw hh hi (fun o ho => hmono _ o ho)
   have hnewb : (e.w.drew.alloc (.cells (olds.toArray ++ news.toArray ++ rest) el)).heap[e.w.heap.size]? = some (.cells (olds.toArray ++ news.toArray ++ rest) el) := by
    rw [hw]; simp
   have hgood := fresh_good (m := (q.n + r.n) * te.sz) hg hw hm2 hh hi (fun o ho => hmono _ o ho) (fun b hb' => by
    simp only [Env.fresh, if_true] at hb'
    obtain rfl := Option.some.inj hb'
    exact ⟨_, el, hnewb⟩)
   refine ⟨_, hgood, rfl, rfl, .tok _ _ _ _ ?_ ?_, fresh_upd hg hw hh hi rfl rfl rfl, hext⟩
   ·refine PVR.joined (cs := olds.toArray ++ news.toArray ++ rest) (el := el) (fr := (0, 0)) (off := 0) a1 hsfit hsk hnewb (hFo.mono hext.ps hext.cell) (hFn.mono hext.ps hext.cell) (by
     show _ ≤ (if e.w.heap.size = e.w.heap.size then _ else _)
     rw [if_pos rfl, Nat.zero_add]; exact Nat.le_refl _) (by rw [hCs, Nat.add_mul]; omega) hnc (fun x hx' => ?_) (fun x hx' => ?_)
    ·rw [Nat.zero_add, arr3_one _ _ _ _ (by omega)]
    ·rw [Nat.zero_add, ← hlo, arr3_two _ _ _ _ (by omega)]
   ·show tokAt h'[i]? n' _
    rw [hi]
    refine ⟨Nat.le_refl _, fun _ => .inr ⟨by simp [Env.fresh], ?_, ?_, ?_⟩⟩
    ·rw [hskz]; simp [Env.fresh]
    ·rw [hskz]
     show _ ≤ cellsSize (e.w.drew.alloc _) _
     simp only [cellsSize]
     rw [hnewb]
     show _ ≤ (olds.toArray ++ news.toArray ++ rest).size
     omega
    ·rw [hskz]; exact hz
theorem row_olds {i g : Nat} {q : LX} {dx : Value} (ho : e.h[i]? = some (.rw g q)) (hx : VR e (.sl i g 0 q.n) dx) :
 ∃ olds : List Value, olds.length = q.n * q.k ∧ (∀ x j, x < q.n → j < q.k → VR e ((q.at_ x).cells.getD j .junk) (olds.getD (x * q.k + j) undef) ∧ (olds.getD (x * q.k + j) undef).oneCell' = true) ∧
  (∀ x, x < q.n → (q.at_ x).cells.length = q.k) ∧ q.fit ∧
  (∃ ba cap, dx = .slice ba q.n cap ∧ q.n ≤ cap ∧ (∀ w', w'.heap = e.w.heap → (Builtin.firstCells q.k q.n dx).run P w' = .ok olds.toArray w') ∧
    (0 < cap → ∃ b cs el, ba = some ⟨b, 0, none⟩ ∧ e.sg i = some b ∧ e.w.heap[b]? = some (.cells cs el (0, 0)) ∧ cap * q.k ≤ cs.size ∧ e.ps b = 0 ∧ ∀ x, x < q.n * q.k → olds.getD x undef = cs.getD x undef)) := by
 obtain ⟨_, _, _, h4⟩ := VR.sl_inv hT hg hp hx ho
 have hob := hg.obj i _ ho
 rcases h4 with ⟨⟨ad0, rfl⟩, _, _, hn⟩ | ⟨b, cap, off, rfl, hsg, hcap, hoff⟩
 ·rcases Nat.eq_zero_or_pos q.n with h0 | h0
  ·have hfit : q.fit := by
    rcases hob with ⟨_, _⟩ | ⟨_, _, _, _, _, _, _, h5, _⟩
    ·cases q with
     | gl s xs =>
       intro x hx'
       simp [LX.n, LX.toL] at h0
       rw [h0] at hx'; simp at hx'
     | _ => trivial
    ·exact h5
   refine ⟨[], by rw [h0]; simp, fun x j hx' => by omega, fun x hx' => by omega, hfit, ad0, 0, by rw [h0], by omega, fun w' _ => by cases ad0 <;> simp [Builtin.firstCells, loadCells, loadCellsFrom, h0], fun h => by omega⟩
  ·omega
 ·have e1 : ((q.n : Int) - 0).toNat = q.n := by omega
  have hcap : q.n ≤ cap := by simpa using hcap
  rw [e1]
  rcases hob with ⟨h0, hno⟩ | ⟨b', cs, el, h1, h2, h3, h4, h5, h6, h7⟩
  ·rw [hno] at hsg; cases hsg
  ·obtain rfl : b = b' := by rw [hsg] at h1; exact Option.some.inj h1
   refine ⟨(List.range (q.n * q.k)).map fun x => cs.getD x undef, by simp, fun x j hx' hj => ?_, h6, h5, some ⟨b, off, none⟩, cap, rfl, hcap, fun w' hw' => ?_, fun hc => ?_⟩
   ·have hlt : (x + 1) * q.k ≤ q.n * q.k := Nat.mul_le_mul_right _ hx'
    rw [Nat.add_mul] at hlt
    have : x * q.k + j < q.n * q.k := by omega
    simp only [List.getD, List.getElem?_map, List.getElem?_range this, Option.map_some, Option.getD_some]
    exact h7 x j hx' hj
   ·rcases Nat.eq_zero_or_pos cap with h0 | h0
    ·have : q.n = 0 := by omega
     rw [this]
     simp [Builtin.firstCells, loadCells, loadCellsFrom]
    ·obtain ⟨h8, h9⟩ := hoff.resolve_left (by omega)
     have h8 : off = 0 := by simpa using h8
     subst h8
     simp only [Builtin.firstCells]
     refine run_loadCells w' _ _ _ fun x hx' => ?_
     rw [addr_add]
     have hlt : x < cs.size := by omega
     simp [World.cell?, hw', h2, hlt]
   ·obtain ⟨h8, h9⟩ := hoff.resolve_left (by omega)
    have h8 : off = 0 := by simpa using h8
    subst h8
    refine ⟨b, cs, el, rfl, hsg, h2, ?_, h4, fun x hx' => ?_⟩
    ·simp only [cellsSize, h2] at h9
     omega
    ·simp [List.getD, hx']
theorem append_row {te : TI} {t t2 el el2 : Nat} (ty : TypeId) (ht : P.underlying t = some (.slice el)) (ht2 : P.underlying t2 = some (.slice el2)) (hte : TIOK P el te) (hz : 0 < te.sz)
 {i g : Nat} {q r s : LX} {dx dy : Value} (ho : e.h[i]? = some (.rw g q)) (hx : VR e (.sl i g 0 q.n) dx) (hqk : q.k = te.sz) (happ : q.app p r = some s) {news : List Value} (hsrc : Src e (P := P) te.sz r dy news)
 (hroom : ((q.n : Int) + r.n) * te.by_ ≤ 140737488355328 ∧ (q.n : Int) + r.n ≤ 140737488355328) :
 ∃ c w', (Builtin.append_ #[t, t2] ty #[dx, dy]).run P e.w = .ok c w' ∧ Step e (.sl i (g + 1) 0 s.n) (e.h.set i (.rw (g + 1) s)) c w' := by
 obtain ⟨a1, a2, a3, a4⟩ := app_real hp happ
 have hqnl : q ≠ .nl := fun h => by subst h; simp [LX.k] at hqk; omega
 have hsk : s.k = te.sz := (a4 hqnl).trans hqk
 obtain ⟨olds, hol, holr, hqc, hqf, ba, cap, hdx, hncap, hfo, hcapr⟩ := row_olds hT hg hp ho hx
 obtain ⟨ay, capy, hdy⟩ := hsrc.sl
 have hfn : ∀ w', w'.heap = e.w.heap → (Builtin.firstCells te.sz r.n dy).run P w' = .ok news.toArray w' := fun w' hw' => by
  have := hsrc.first r.n (Nat.le_refl _) w' hw'
  rwa [← hsrc.len, List.take_length] at this
 have hsfit : s.fit := a2 hqf hsrc.fit
 rw [hqk] at hol holr hqc hfo hcapr
 have hsn : s.n = q.n + r.n := by rw [LX.n, a1, List.length_append]
 have hil : i < e.h.length := (List.getElem?_eq_some_iff.1 ho).1
 have hh : ∀ j, j ≠ i → (e.h.set i (.rw (g + 1) s))[j]? = e.h[j]? := fun j hj => List.getElem?_set_ne (Ne.symm hj)
 have hi : (e.h.set i (.rw (g + 1) s))[i]? = some (.rw (g + 1) s) := by rw [List.getElem?_set, if_pos rfl, if_pos hil]
 have hmono : ∀ (e2 : Env), OMono e e2 i (.rw g q) (.rw (g + 1) s) := fun e2 => ⟨by omega, fun h => by omega⟩
 have hlnews := hsrc.len
 have hnewsone : ∀ v ∈ news, v.oneCell' = true := fun v hv => by
  obtain ⟨x, hx', rfl⟩ := List.mem_iff_getElem.1 hv
  have hx2 : x < r.n * te.sz := by rw [← hlnews]; exact hx'
  have h1 : x / te.sz < r.n := Nat.div_lt_of_lt_mul (by rw [Nat.mul_comm]; exact hx2)
  have := (hsrc.rel (x / te.sz) (x % te.sz) h1 (Nat.mod_lt _ hz)).2
  rw [show x / te.sz * te.sz + x % te.sz = x by have := Nat.div_add_mod x te.sz; rw [Nat.mul_comm] at this; exact this] at this
  simpa [List.getD, hx'] using this
 have hat1 : ∀ x, x < q.n → s.at_ x = q.at_ x := fun x hx' => by
  rw [LX.at_, a1, LX.at_]; simp only [List.getD]; rw [List.getElem?_append_left hx']
 have hat2 : ∀ x, q.n ≤ x → s.at_ x = r.at_ (x - q.n) := fun x hx' => by
  rw [LX.at_, a1, LX.at_]; simp only [List.getD]; rw [List.getElem?_append_right hx']
 have hscells : ∀ x, x < s.n → (s.at_ x).cells.length = s.k := fun x hx' => by
  rw [hsk]
  by_cases hq' : x < q.n
  ·rw [hat1 x hq']; exact hqc x hq'
  ·rw [hat2 x (by omega)]; exact hsrc.cl _ (by omega)
 -- the row's cells behind, wherever they lie
 have cells_ : ∀ (e2 : Env) (cs2 : Array Value), Ext e.h.length e e2 → (∀ x, x < q.n * te.sz → cs2.getD x undef = olds.getD x undef) → (∀ x, x < r.n * te.sz → cs2.getD (q.n * te.sz + x) undef = news.getD x undef) →
  ∀ x j, x < s.n → j < s.k → VR e2 ((s.at_ x).cells.getD j .junk) (cs2.getD (x * s.k + j) undef) ∧ (cs2.getD (x * s.k + j) undef).oneCell' = true := fun e2 cs2 hext h1 h2 x j hx' hj => by
  rw [hsk] at hj ⊢
  by_cases hq' : x < q.n
  ·have hlt : (x + 1) * te.sz ≤ q.n * te.sz := Nat.mul_le_mul_right _ hq'
   rw [Nat.add_mul] at hlt
   rw [hat1 x hq', h1 _ (by omega)]
   exact ⟨(holr x j hq' hj).1.mono (Nat.le_refl _) hext, (holr x j hq' hj).2⟩
  ·have hlt : (x - q.n + 1) * te.sz ≤ r.n * te.sz := Nat.mul_le_mul_right _ (by omega)
   rw [Nat.add_mul] at hlt
   have e1 : (q.n + (x - q.n)) * te.sz = x * te.sz := by congr 1; omega
   rw [Nat.add_mul] at e1
   have := h2 ((x - q.n) * te.sz + j) (by omega)
   rw [show q.n * te.sz + ((x - q.n) * te.sz + j) = x * te.sz + j by omega] at this
   rw [hat2 x (by omega), this]
   have h3 := hsrc.rel (x - q.n) j (by omega) hj
   exact ⟨h3.1.mono (Nat.le_refl _) hext, h3.2⟩
 by_cases hr0 : r.n = 0
 ·-- nothing is put behind
  have hrun := run_append_idle (P := P) (ty := ty) ht ht2 hte (ba := ba) (n := q.n) (cap := cap) (m := r.n) (dy := dy) ⟨ay, capy, hdy⟩ hr0 hncap (by
   have := hfn e.w rfl
   rw [hr0, Nat.zero_mul] at hlnews
   rw [List.eq_nil_of_length_eq_zero hlnews] at this
   exact this)
  rw [← hdx] at hrun
  refine ⟨dx, e.w, hrun, ?_⟩
  obtain ⟨g1, g2, g3⟩ := gh_good hg (sg' := e.sg) (fun j _ => rfl) hh hi (fun o h => by rw [ho] at h; cases h; exact hmono _) (fun b _ hs => ⟨_, ho, rfl, hs⟩)
  have hok : ObjOK (e.gh e.sg (e.h.set i (.rw (g + 1) s))) i (.rw (g + 1) s) := by
   rcases hg.obj i _ ho with ⟨h0, hno⟩ | ⟨b, cs, el', k1, k2, k3, k4, k5, k6, k7⟩
   ·exact .inl ⟨by omega, hno⟩
   ·refine .inr ⟨b, cs, el', k1, k2, by rw [hsk, hsn, hr0, Nat.add_zero]; rw [hqk] at k3; exact k3, k4, hsfit, hscells, fun x j hx' hj => ?_⟩
    have hx2 : x < q.n := by omega
    rw [hat1 x hx2, hsk]
    rw [hsk] at hj
    have := k7 x j hx2 (by rw [hqk]; exact hj)
    rw [hqk] at this
    exact ⟨this.1.mono (Nat.le_refl _) g1, this.2⟩
  refine ⟨_, g3 hok, rfl, rfl, ?_, g2, g1⟩
  have hx0 := VR.sl_inv hT hg hp hx ho
  have h1c : dx.oneCell' = true := by rw [hdx]; rfl
  refine .sl i (g + 1) 0 s.n dx h1c ?_
  show rwAt (e.h.set i (.rw (g + 1) s))[i]? (g + 1) _
  rw [hi]
  refine ⟨Nat.le_refl _, fun _ => ⟨by omega, by omega, by omega, ?_⟩⟩
  have hsn' : s.n = q.n := by omega
  rw [hsn', hsk, ← hqk]
  exact hx0.2.2.2
 ·by_cases hcap : q.n + r.n ≤ cap
  ·-- in place
   obtain ⟨b, cs, elb, hba, hsg, hb, hcs, hps0, holds⟩ := hcapr (by omega)
   have hm1 : (q.n + r.n) * te.sz ≤ cap * te.sz := Nat.mul_le_mul_right _ hcap
   rw [Nat.add_mul] at hm1
   have hrun := run_append_put (P := P) (ty := ty) ht ht2 hte (ba := ba) (n := q.n) (cap := cap) (m := r.n) (dy := dy) ⟨ay, capy, hdy⟩ (news := news) hcap hba hb (hfn e.w rfl) (by omega) hnewsone
   rw [← hdx] at hrun
   refine ⟨_, _, hrun, ?_⟩
   have hsz : (spliced cs (0 + q.n * te.sz) news).size = cs.size := spliced_size (by omega)
   have hkeep : ∀ x, x < e.ps b → (spliced cs (0 + q.n * te.sz) news)[x]? = cs[x]? := fun x hx' => by omega
   have hm := hmono (e.wr b (spliced cs (0 + q.n * te.sz) news) (e.h.set i (.rw (g + 1) s)) 0)
   have hps : e.ps b ≤ 0 := by omega
   have hext := wr_ext hg ho rfl hsg hb hsz hh hi hm hkeep hps
   have hb2 : (e.wr b (spliced cs (0 + q.n * te.sz) news) (e.h.set i (.rw (g + 1) s)) 0).w.heap[b]? = some (.cells (spliced cs (0 + q.n * te.sz) news) elb (0, 0)) := setRow_heap _ _ _ _ _ _ hb
   have hgood := wr_good hg ho rfl hsg hb hsz hh hi hm hkeep hps (.inr ⟨b, _, elb, hsg, hb2, by rw [hsk, hsn, hsz, Nat.add_mul]; omega, by simp [Env.wr], hsfit, hscells, cells_ _ _ hext (fun x hx' => by
    rw [spliced_get (by omega), if_neg (by omega), holds x hx']) (fun x hx' => by
    rw [spliced_get (by omega), if_pos (by omega)]
    congr 1; omega)⟩) (Nat.zero_le _)
   refine ⟨_, hgood, rfl, rfl, .sl i (g + 1) 0 s.n _ (by rw [hba]; rfl) ?_, wr_upd hg ho rfl hsg hb hh hi, hext⟩
   show rwAt (e.h.set i (.rw (g + 1) s))[i]? (g + 1) _
   rw [hi]
   refine ⟨Nat.le_refl _, fun _ => ⟨by omega, by omega, by omega, .inr ⟨b, cap, 0, ?_, hsg, ?_, .inr ⟨by simp, ?_⟩⟩⟩⟩
   ·rw [hba, show ((s.n : Int) - 0).toNat = q.n + r.n by omega]
   ·omega
   ·simp only [cellsSize]
    rw [hb2, hsk]
    show _ ≤ (spliced cs (0 + q.n * te.sz) news).size
    omega
  ·-- in a new block
   have h48 : (q.n + r.n) * te.by_ ≤ 140737488355328 := by
    have h9 := hroom.1
    rw [← Int.natCast_add, ← Int.natCast_mul] at h9
    omega
   obtain ⟨rest, newCap, hnc, hrest, hrun⟩ := run_append_new (P := P) (ty := ty) ht ht2 hte (ba := ba) (n := q.n) (cap := cap) (m := r.n) (dy := dy) ⟨ay, capy, hdy⟩ (news := news) (olds := olds) (by omega) (by omega) h48 (hfn _ rfl) (by rw [← hdx]; exact hfo _ rfl)
   rw [← hdx] at hrun
   refine ⟨_, _, hrun, ?_⟩
   have hnc2 : (q.n + r.n + (newCap - (q.n + r.n))) * te.sz = newCap * te.sz := by congr 1; omega
   rw [Nat.add_mul, Nat.add_mul] at hnc2
   have hCs : (olds.toArray ++ news.toArray ++ rest).size = newCap * te.sz := by
    simp; omega
   have hw : (e.w.drew.alloc (.cells (olds.toArray ++ news.toArray ++ rest) el)).heap = e.w.heap.push (.cells (olds.toArray ++ news.toArray ++ rest) el) := rfl
   have hmn : ∀ o, e.h[i]? = some o → OMono e (e.fresh (e.w.drew.alloc (.cells (olds.toArray ++ news.toArray ++ rest) el)) i (e.h.set i (.rw (g + 1) s)) 0) i o (.rw (g + 1) s) := fun o h => by rw [ho] at h; cases h; exact hmono _
   have hext := fresh_ext (m := 0) hg hw hh hi hmn
   have hnewb : (e.w.drew.alloc (.cells (olds.toArray ++ news.toArray ++ rest) el)).heap[e.w.heap.size]? = some (.cells (olds.toArray ++ news.toArray ++ rest) el) := by
    rw [hw]; simp
   have hmul : (q.n + r.n) * te.sz ≤ newCap * te.sz := Nat.mul_le_mul_right _ hnc
   have hgood := fresh_good (m := 0) hg hw (Nat.zero_le _) hh hi hmn (.inr ⟨e.w.heap.size, _, el, by simp [Env.fresh], hnewb, by rw [hsk, hsn, hCs]; exact hmul, by simp [Env.fresh], hsfit, hscells, cells_ _ _ hext (fun x hx' => by
    rw [arr3_one _ _ _ _ (by omega)]) (fun x hx' => by
    rw [← hol, arr3_two _ _ _ _ (by omega)])⟩)
   refine ⟨_, hgood, rfl, rfl, .sl i (g + 1) 0 s.n _ rfl ?_, fresh_upd hg hw hh hi rfl rfl rfl, hext⟩
   show rwAt (e.h.set i (.rw (g + 1) s))[i]? (g + 1) _
   rw [hi]
   refine ⟨Nat.le_refl _, fun _ => ⟨by omega, by omega, by omega, .inr ⟨e.w.heap.size, newCap, 0, ?_, by simp [Env.fresh], by omega, .inr ⟨by simp, ?_⟩⟩⟩⟩
   ·rw [show ((s.n : Int) - 0).toNat = q.n + r.n by omega]
   ·simp only [cellsSize, Env.fresh]
    rw [hnewb, hsk]
    show _ ≤ (olds.toArray ++ news.toArray ++ rest).size
    omega
end
end Go.AL
/-
  AL: the operations, tenth part: rows written in parts; copies; slices with no room.
-/
set_option linter.unusedSectionVars false
set_option linter.unusedVariables false
set_option linter.unusedSimpArgs false
namespace Go.AL
open Go
theorem ObjOK.kept {e e' : Env} {i : Nat} {o : AObj} (hs : e'.sg i = e.sg i) (hw : e'.w = e.w) (hp : e'.ps = e.ps) (hv : ∀ v c, VR e v c → VR e' v c) (h : ObjOK e i o) : ObjOK e' i o := by
 cases o with
 | box vs =>
   obtain ⟨b, cs, el, h1, h2, h3, h4, h5⟩ := h
   exact ⟨b, cs, el, by rw [hs]; exact h1, by rw [hw]; exact h2, h3, by rw [hp]; exact h4, fun j hj => hv _ _ (h5 j hj)⟩
 | rw g q =>
   rcases h with ⟨h1, h2⟩ | ⟨b, cs, el, h1, h2, h3, h4, h5, h6, h7⟩
   ·exact .inl ⟨h1, by rw [hs]; exact h2⟩
   ·exact .inr ⟨b, cs, el, by rw [hs]; exact h1, by rw [hw]; exact h2, h3, by rw [hp]; exact h4, h5, h6, fun i j hi hj => ⟨hv _ _ (h7 i j hi hj).1, (h7 i j hi hj).2⟩⟩
 | tok n =>
   intro b hb
   rw [hs] at hb
   obtain ⟨cs, el, h1⟩ := h b hb
   exact ⟨cs, el, by rw [hw]; exact h1⟩
 | loop r =>
   obtain ⟨b, r2, h1, h2, h3, h4⟩ := h
   exact ⟨b, r2, by rw [hs]; exact h1, by rw [hw]; exact h2, h3, fun t => hv _ _ (h4 t)⟩
 | obj r =>
   obtain ⟨b, r2, h1, h2, h3⟩ := h
   exact ⟨b, r2, by rw [hs]; exact h1, by rw [hw]; exact h2, h3⟩
 | dead g => trivial
def Env.thaw (e : Env) : Env := ⟨e.w, fun i => if i = e.h.length then none else e.sg i, e.h ++ [.tok 0], e.ps⟩
theorem thaw_env {e : Env} (hg : Good e) : Good e.thaw ∧ Upd e e.thaw ∧ Ext e.h.length e e.thaw := by
 have old : ∀ i o, i < e.h.length → e.h[i]? = some o → e.thaw.h[i]? = some o := fun i o hi ho => by
  show (e.h ++ [AObj.tok 0])[i]? = some o
  rw [List.getElem?_append_left hi]; exact ho
 have sgo : ∀ i, i ≠ e.h.length → e.thaw.sg i = e.sg i := fun i hi => if_neg hi
 have look : ∀ i o, e.thaw.h[i]? = some o → (i = e.h.length ∧ o = .tok 0) ∨ (i < e.h.length ∧ e.h[i]? = some o) := fun i o ho => by
  have ho : (e.h ++ [AObj.tok 0])[i]? = some o := ho
  rcases Nat.lt_trichotomy i e.h.length with h | h | h
  ·rw [List.getElem?_append_left h] at ho; exact .inr ⟨h, ho⟩
  ·subst h; simp at ho; exact .inl ⟨rfl, ho.symm⟩
  ·rw [List.getElem?_eq_none (by simp; omega)] at ho; cases ho
 have hext : Ext e.h.length e e.thaw := by
  refine ⟨fun i o hi ho => ⟨o, old i o hi ho, ?_⟩, fun _ => Nat.le_refl _, fun _ _ _ => rfl, fun _ => Nat.le_refl _⟩
  have hs := sgo i (by omega)
  cases o with
  | box vs => exact ⟨hs, rfl⟩
  | rw g q => exact ⟨Nat.le_refl _, fun _ => ⟨hs, rfl, rfl⟩⟩
  | tok n => exact ⟨Nat.le_refl _, fun _ => ⟨hs, fun _ _ => rfl⟩⟩
  | loop r => exact hs
  | obj r => exact hs
  | dead g => exact Nat.le_refl _
 refine ⟨⟨fun i o ho => ?_, fun i j oi oj b hi hil hj hjl si sj => ?_, hg.ps⟩, ⟨rfl, rfl, rfl, Nat.le_refl _, fun _ _ _ => ⟨rfl, rfl⟩, fun b ⟨i, o, h1, h2, h3⟩ => .inl ?_⟩, hext⟩
 ·rcases look i o ho with ⟨rfl, rfl⟩ | ⟨hi, ho'⟩
  ·intro b hb
   simp [Env.thaw] at hb
  ·exact ObjOK.kept (sgo i (by omega)) rfl rfl (fun v c h => h.mono (Nat.le_refl _) hext) (hg.obj i o ho')
 ·rcases look i oi hi with ⟨rfl, rfl⟩ | ⟨hi1, hi2⟩
  ·simp [Env.thaw] at si
  ·rcases look j oj hj with ⟨rfl, rfl⟩ | ⟨hj1, hj2⟩
   ·simp [Env.thaw] at sj
   ·exact hg.inj i j oi oj b hi2 hil hj2 hjl ((sgo i (by omega)).symm.trans si) ((sgo j (by omega)).symm.trans sj)
 ·rcases look i o h1 with ⟨rfl, rfl⟩ | ⟨hi1, hi2⟩
  ·simp [Env.thaw] at h3
  ·exact ⟨i, o, hi2, h2, (sgo i (by omega)).symm.trans h3⟩
def Env.thawR (e : Env) (q : LX) : Env := ⟨e.w, fun i => if i = e.h.length then none else e.sg i, e.h ++ [.rw 0 q], e.ps⟩
theorem thawR_env {e : Env} (hg : Good e) (q : LX) (hq : q.n = 0) : Good (e.thawR q) ∧ Upd e (e.thawR q) ∧ Ext e.h.length e (e.thawR q) := by
 have old : ∀ i o, i < e.h.length → e.h[i]? = some o → (e.thawR q).h[i]? = some o := fun i o hi ho => by
  show (e.h ++ [AObj.rw 0 q])[i]? = some o
  rw [List.getElem?_append_left hi]; exact ho
 have sgo : ∀ i, i ≠ e.h.length → (e.thawR q).sg i = e.sg i := fun i hi => if_neg hi
 have look : ∀ i o, (e.thawR q).h[i]? = some o → (i = e.h.length ∧ o = .rw 0 q) ∨ (i < e.h.length ∧ e.h[i]? = some o) := fun i o ho => by
  have ho : (e.h ++ [AObj.rw 0 q])[i]? = some o := ho
  rcases Nat.lt_trichotomy i e.h.length with h | h | h
  ·rw [List.getElem?_append_left h] at ho; exact .inr ⟨h, ho⟩
  ·subst h; simp at ho; exact .inl ⟨rfl, ho.symm⟩
  ·rw [List.getElem?_eq_none (by simp; omega)] at ho; cases ho
 have hext : Ext e.h.length e (e.thawR q) := by
  refine ⟨fun i o hi ho => ⟨o, old i o hi ho, ?_⟩, fun _ => Nat.le_refl _, fun _ _ _ => rfl, fun _ => Nat.le_refl _⟩
  have hs := sgo i (by omega)
  cases o with
  | box vs => exact ⟨hs, rfl⟩
  | rw g q => exact ⟨Nat.le_refl _, fun _ => ⟨hs, rfl, rfl⟩⟩
  | tok n => exact ⟨Nat.le_refl _, fun _ => ⟨hs, fun _ _ => rfl⟩⟩
  | loop r => exact hs
  | obj r => exact hs
  | dead g => exact Nat.le_refl _
 refine ⟨⟨fun i o ho => ?_, fun i j oi oj b hi hil hj hjl si sj => ?_, hg.ps⟩, ⟨rfl, rfl, rfl, Nat.le_refl _, fun _ _ _ => ⟨rfl, rfl⟩, fun b ⟨i, o, h1, h2, h3⟩ => .inl ?_⟩, hext⟩
 ·rcases look i o ho with ⟨rfl, rfl⟩ | ⟨hi, ho'⟩
  ·exact .inl ⟨hq, by simp [Env.thawR]⟩
  ·exact ObjOK.kept (sgo i (by omega)) rfl rfl (fun v c h => h.mono (Nat.le_refl _) hext) (hg.obj i o ho')
 ·rcases look i oi hi with ⟨rfl, rfl⟩ | ⟨hi1, hi2⟩
  ·simp [Env.thawR] at si
  ·rcases look j oj hj with ⟨rfl, rfl⟩ | ⟨hj1, hj2⟩
   ·simp [Env.thawR] at sj
   ·exact hg.inj i j oi oj b hi2 hil hj2 hjl ((sgo i (by omega)).symm.trans si) ((sgo j (by omega)).symm.trans sj)
 ·rcases look i o h1 with ⟨rfl, rfl⟩ | ⟨hi1, hi2⟩
  ·simp [Env.thawR] at h3
  ·exact ⟨i, o, hi2, h2, (sgo i (by omega)).symm.trans h3⟩
theorem take_range_map {α : Type} (f : Nat → α) {m n : Nat} (h : m ≤ n) : ((List.range n).map f).take m = (List.range m).map f := by
 rw [← List.map_take, List.take_range, Nat.min_eq_left h]
theorem app_ne {p : Pr} {q r s : LX} (h : q.app p r = some s) (hq : q ≠ .nl) : s ≠ .nl := by
 unfold LX.app at h
 split at h
 ·exact absurd rfl hq
 ·cases h; exact hq
 ·split at h
  ·cases h; intro h; cases h
  ·cases h
 ·split at h
  ·cases h; intro h; cases h
  ·cases h
 ·cases h
section
variable {e : Env} {P : Program} {T : Tab} (hT : TabOK P T) (hg : Good e) {p : Pr} (hp : DataOK p)
include hT hg hp
omit hT hp in
theorem src_ls {z : Nat} (hz : 0 < z) {r : LX} {cr : Cap} {dy : Value} (hy : VR e (.ls r cr) dy) (hkr : r.kOK z = true) : ∃ news, Src e (P := P) z r dy news := by
 have h := hy.ls_any
 have hsl : ∃ a cap, dy = .slice a r.n cap := by obtain ⟨a, cap, h, _⟩ := hy.ls_len; exact ⟨a, cap, h⟩
 have empty : r.n = 0 → (∀ w', (Builtin.firstCells z 0 dy).run P w' = .ok #[] w') → r.fit → ∃ news, Src e (P := P) z r dy news := fun h0 hf hfit =>
  ⟨[], by rw [h0]; simp, fun x hx => by omega, fun x j hx => by omega, hfit, hsl, fun m hm w' _ => by rw [show m = 0 by omega]; simpa using hf w'⟩
 generalize hv : AVal.ls r .any = v at h
 cases h <;> cases hv
 ·rename_i hq hf hc
  exact empty hq (fun w' => by simp [Builtin.firstCells]) hf
 ·rename_i a hq hf
  exact empty hq (fun w' => by simp [Builtin.firstCells, loadCells, loadCellsFrom]) hf
 ·rename_i b off cap cv hcap hf hkk hp hc h1 hv
  rcases kOK_k hkr with h0 | h0
  ·exact empty (by rw [LX.n, h0]; rfl) (fun w' => by simp [Builtin.firstCells, loadCells, loadCellsFrom]) hf
  ·subst h0
   refine ⟨(List.range (r.n * r.k)).map fun x => cv (x / r.k) (x % r.k), by simp, hkk, fun i j hi hj => ?_, hf, hsl, fun m hm w' hw => ?_⟩
   ·rw [getD_flat _ _ _ _ _ hi hj]
    exact ⟨.pure _ _ (hv i j hi hj), h1 i j hi hj⟩
   ·have hle : m * r.k ≤ r.n * r.k := Nat.mul_le_mul_right _ hm
    rw [take_range_map _ hle]
    simp only [Builtin.firstCells]
    refine run_loadCells w' _ _ _ fun x hx => ?_
    rw [addr_add]
    have hi : x / r.k < r.n := Nat.div_lt_of_lt_mul (by rw [Nat.mul_comm]; omega)
    have hj : x % r.k < r.k := Nat.mod_lt _ hz
    have := hc _ _ hi hj
    rw [show off + x / r.k * r.k + x % r.k = off + x by have := Nat.div_add_mod x r.k; rw [Nat.mul_comm] at this; omega] at this
    rw [← this]
    simp only [World.cell?, hw]
theorem src_row {z : Nat} (hz : 0 < z) {i g : Nat} {q : LX} {lo hi : Int} {dy : Value} (ho : e.h[i]? = some (.rw g q)) (hy : VR e (.sl i g lo hi) dy) (hkr : (q.sub p lo hi).kOK z = true) : ∃ news, Src e (P := P) z (q.sub p lo hi) dy news := by
 obtain ⟨a1, a2, a3, a4⟩ := VR.sl_inv hT hg hp hy ho
 obtain ⟨s1, s2, s3, s4⟩ := sub_real hp q lo hi
 have hn : (q.sub p lo hi).n = (hi - lo).toNat := by rw [LX.n, s1, rSub_length _ _ _ a1 a2 a3]
 have hob := hg.obj i _ ho
 have qfit : q.fit := by
  rcases hob with ⟨h0, _⟩ | ⟨_, _, _, _, _, _, _, h5, _⟩
  ·cases q with
   | gl s xs =>
     intro x hx'
     simp [LX.n, LX.toL] at h0
     rw [h0] at hx'; simp at hx'
   | _ => trivial
  ·exact h5
 have empty : (q.sub p lo hi).n = 0 → (∃ a cap, dy = .slice a (q.sub p lo hi).n cap) → ∃ news, Src e (P := P) z (q.sub p lo hi) dy news := fun h0 hsl =>
  ⟨[], by rw [h0]; simp, fun x hx => by omega, fun x j hx => by omega, s2 qfit, hsl, fun m hm w' _ => by
    obtain ⟨a, cap, rfl⟩ := hsl
    rw [show m = 0 by omega]
    cases a <;> simp [Builtin.firstCells, loadCells, loadCellsFrom]⟩
 rcases a4 with ⟨⟨ad0, rfl⟩, rfl, rfl, _⟩ | ⟨b, cap, off, rfl, hsg, hcap, r⟩
 ·exact empty (by rw [hn]; rfl) ⟨ad0, 0, by rw [hn]; rfl⟩
 ·have hsl : ∃ a c, Value.slice (some ⟨b, off, none⟩) (hi - lo).toNat cap = .slice a (q.sub p lo hi).n c := ⟨_, _, by rw [hn]⟩
  rcases Nat.eq_zero_or_pos (hi - lo).toNat with h0 | h0
  ·exact empty (by rw [hn, h0]) hsl
  ·rcases hob with ⟨h1, hno⟩ | ⟨b', cs, el, h1, h2, h3, h4, h5, h6, h7⟩
   ·rw [hno] at hsg; cases hsg
   ·obtain rfl : b = b' := by rw [hsg] at h1; exact Option.some.inj h1
    obtain ⟨r1, r2⟩ := r.resolve_left (by omega)
    have hk : q.k = z := by
     rcases kOK_k hkr with h | h
     ·have : (q.sub p lo hi).n = 0 := by rw [LX.n, h]; rfl
      omega
     ·rwa [s3] at h
    subst hk
    have hat : ∀ x, x < (hi - lo).toNat → (q.sub p lo hi).at_ x = q.at_ (lo.toNat + x) := fun x hx => by
     rw [LX.at_, s1, rSub_get _ _ _ _ _ (by omega)]
    have hlen : (lo.toNat + (hi - lo).toNat) * q.k ≤ q.n * q.k := Nat.mul_le_mul_right _ (by omega)
    rw [Nat.add_mul] at hlen
    refine ⟨(List.range ((hi - lo).toNat * q.k)).map fun x => cs.getD (lo.toNat * q.k + x) undef, by rw [hn]; simp, fun x hx => ?_, fun x j hx hj => ?_, s2 h5, hsl, fun m hm w' hw' => ?_⟩
    ·rw [hn] at hx
     rw [hat x hx]; exact h6 _ (by omega)
    ·rw [hn] at hx
     have hlt : (x + 1) * q.k ≤ (hi - lo).toNat * q.k := Nat.mul_le_mul_right _ hx
     rw [Nat.add_mul] at hlt
     have hlt2 : x * q.k + j < (hi - lo).toNat * q.k := by omega
     rw [hat x hx]
     simp only [List.getD, List.getElem?_map, List.getElem?_range hlt2, Option.map_some, Option.getD_some]
     have := h7 (lo.toNat + x) j (by omega) hj
     rw [Nat.add_mul, Nat.add_assoc] at this
     exact this
    ·rw [hn] at hm
     have hle : m * q.k ≤ (hi - lo).toNat * q.k := Nat.mul_le_mul_right _ hm
     rw [take_range_map _ hle]
     simp only [Builtin.firstCells]
     refine run_loadCells w' _ _ _ fun x hx' => ?_
     rw [addr_add, r1]
     have hlt : lo.toNat * q.k + x < cs.size := by omega
     simp [World.cell?, hw', h2, hlt]
theorem src_ok {z : Nat} (hz : 0 < z) {y : AVal} {r : LX} {dy : Value} (hy : VR e y dy) (hr : asR p y e.h = some r) (hkr : r.kOK z = true) : ∃ news, Src e (P := P) z r dy news := by
 unfold asR at hr
 split at hr
 ·cases hr; exact src_ls hg hz hy hkr
 ·rename_i j g lo hi
  split at hr
  ·rename_i g' q ho
   split at hr
   ·rename_i hb
    have := Nat.eq_of_beq_eq_true hb
    subst this
    cases hr
    exact src_row hT hg hp hz ho hy hkr
   ·cases hr
  ·cases hr
 ·cases hr
theorem lst_ok {z : Nat} (hz : 0 < z) {y : AVal} {r : LX} {dy : Value} (hy : VR e y dy) (hr : asL p y e.h = some r) (hkr : r.kOK z = true) :
 (∃ ay capy, dy = .slice ay r.n capy) ∧ r.fit ∧ ∃ news, FL e.w e.ps r z news ∧ Src e (P := P) z r dy news ∧ ∀ w', w'.heap = e.w.heap → (Builtin.firstCells z r.n dy).run P w' = .ok news.toArray w' := by
 have take : ∀ {news : List Value}, Src e (P := P) z r dy news → ∀ w', w'.heap = e.w.heap → (Builtin.firstCells z r.n dy).run P w' = .ok news.toArray w' := fun hS w' hw => by
  have := hS.first r.n (Nat.le_refl _) w' hw
  rwa [← hS.len, List.take_length] at this
 unfold asL at hr
 split at hr
 ·cases hr
  obtain ⟨ay, capy, hdy, _, _⟩ := hy.ls_len
  obtain ⟨news, hFn, hfn⟩ := first_ok (P := P) hz hy.ls_any hkr
  obtain ⟨news2, hS⟩ := src_ls hg (P := P) hz hy hkr
  have e1 : news2 = news := by
   have h1 := take hS e.w rfl
   rw [hfn e.w rfl] at h1
   simp only [Result.ok.injEq, and_true] at h1
   have := congrArg Array.toList h1
   simpa using this.symm
  subst e1
  exact ⟨⟨ay, capy, hdy⟩, hy.ls_any.ls_fit, news2, hFn, hS, hfn⟩
 ·rename_i j g ia ib
  split at hr
  ·rename_i g' q ho
   split at hr
   ·rename_i hb
    have := Nat.eq_of_beq_eq_true hb
    subst this
    split at hr
    ·rename_i k l
     cases hr
     obtain ⟨news, hS⟩ := src_row hT hg hp (P := P) hz ho hy hkr
     refine ⟨hS.sl, hS.fit, news, ⟨hS.len, hS.cl, fun i j hi hj => ?_⟩, hS, take hS⟩
     have h1 := hS.rel i j hi hj
     refine ⟨?_, h1.2⟩
     have hj0 : j = 0 := by
      have h2 := hS.cl i hi
      rw [← h2] at hj
      have h3 : ((LX.il k l).sub p ia ib).at_ i = .int k ((rSub l ia ib).getD i 0) := by
       have hi2 : i < (rSub l ia ib).length := by simpa [LX.n, LX.toL, LX.sub, hp.sbI] using hi
       simp [LX.at_, LX.toL, LX.sub, hp.sbI, List.getD, hi2]
      rw [h3] at hj
      simpa [AVal.cells] using hj
     subst hj0
     have h3 : ((LX.il k l).sub p ia ib).at_ i = .int k ((rSub l ia ib).getD i 0) := by
      have hi2 : i < (rSub l ia ib).length := by simpa [LX.n, LX.toL, LX.sub, hp.sbI] using hi
      simp [LX.at_, LX.toL, LX.sub, hp.sbI, List.getD, hi2]
     show PVR e.w e.ps ((((LX.il k l).sub p ia ib).at_ i).cells.getD 0 AVal.junk) _
     rw [h3] at h1 ⊢
     have h4 := h1.1
     simp only [AVal.cells, List.getD_cons_zero] at h4 ⊢
     rw [h4.int_inv]
     exact .int _ _
    ·cases hr
   ·cases hr
  ·cases hr
 ·cases hr
omit hT hg in
theorem splice_real {q r q' : LX} {a m : Int} (h : q.splice p a r m = some q') (h0 : 0 ≤ a) (hm : 0 ≤ m) (hmr : m ≤ r.n) (ham : a + m ≤ q.n) (hq : q ≠ .nl) :
 q'.n = q.n ∧ q'.k = q.k ∧ (q.fit → r.fit → q'.fit) ∧ ∀ x, x < q.n → q'.at_ x = if a.toNat ≤ x ∧ x < a.toNat + m.toNat then r.at_ (x - a.toNat) else q.at_ x := by
 unfold LX.splice at h
 split at h
 ·rename_i s hs
  have had : p.ad a m = a + m := by rw [hp.ad]
  rw [had, len_real hp] at h
  obtain ⟨b1, b2, b3, b4⟩ := app_real hp hs
  obtain ⟨c1, c2, c3, c4⟩ := app_real hp h
  obtain ⟨d1, d2, d3, _⟩ := sub_real hp q 0 a
  obtain ⟨e1, e2, e3, _⟩ := sub_real hp r 0 m
  obtain ⟨f1, f2, f3, _⟩ := sub_real hp q (a + m) (q.n : Int)
  have hsub : q.sub p 0 a ≠ .nl := by cases q <;> simp [LX.sub] at hq ⊢
  have hsk := b4 hsub
  have hsn : s ≠ .nl := app_ne hs hsub
  have l1 := rSub_length q.toL 0 a (by omega) h0 (by show a ≤ (q.n : Int); omega)
  have l2 := rSub_length r.toL 0 m (by omega) hm (by show m ≤ (r.n : Int); omega)
  have l3 := rSub_length q.toL (a + m) q.n (by omega) (by omega) (by show (q.n : Int) ≤ (q.n : Int); omega)
  have hn : q'.n = q.n := by
   rw [LX.n, c1, b1, d1, e1, f1, List.length_append, List.length_append, l1, l2, l3]; omega
  refine ⟨hn, by rw [c4 hsn, hsk, d3], fun g1 g2 => c2 (b2 (d2 g1) (e2 g2)) (f2 g1), fun x hx => ?_⟩
  rw [LX.at_, c1, b1, d1, e1, f1]
  simp only [List.getD]
  by_cases hx1 : x < a.toNat
  ·rw [if_neg (by omega), List.getElem?_append_left (by rw [List.length_append, l1, l2]; omega), List.getElem?_append_left (by rw [l1]; omega)]
   have := rSub_get q.toL 0 a AVal.junk x (by omega)
   simpa [List.getD, LX.at_] using this
  ·by_cases hx2 : x < a.toNat + m.toNat
   ·rw [if_pos (by omega), List.getElem?_append_left (by rw [List.length_append, l1, l2]; omega), List.getElem?_append_right (by rw [l1]; omega), l1]
    have := rSub_get r.toL 0 m AVal.junk (x - (a - 0).toNat) (by omega)
    simp only [List.getD] at this
    rw [this]
    show _ = (r.toL[x - a.toNat]?).getD AVal.junk
    congr 2; omega
   ·rw [if_neg (by omega), List.getElem?_append_right (by rw [List.length_append, l1, l2]; omega)]
    have := rSub_get q.toL (a + m) q.n AVal.junk (x - (rSub q.toL 0 a ++ rSub r.toL 0 m).length) (by rw [List.length_append, l1, l2]; omega)
    simp only [List.getD] at this
    rw [this]
    show _ = (q.toL[x]?).getD AVal.junk
    congr 2
    rw [List.length_append, l1, l2]; omega
 ·cases h
theorem row_idle {i g : Nat} {q q' : LX} (ho : e.h[i]? = some (.rw g q)) (hn : q'.n = q.n) (hk : q'.k = q.k) (hf : q.fit → q'.fit) (hat : ∀ x, x < q.n → q'.at_ x = q.at_ x) :
 ∃ e', Good e' ∧ e'.h = e.h.set i (.rw g q') ∧ e'.w = e.w ∧ Upd e e' ∧ Ext e.h.length e e' ∧ e'.sg = e.sg := by
 have hil : i < e.h.length := (List.getElem?_eq_some_iff.1 ho).1
 have hh : ∀ j, j ≠ i → (e.h.set i (.rw g q'))[j]? = e.h[j]? := fun j hj => List.getElem?_set_ne (Ne.symm hj)
 have hi : (e.h.set i (.rw g q'))[i]? = some (.rw g q') := by rw [List.getElem?_set, if_pos rfl, if_pos hil]
 obtain ⟨g1, g2, g3⟩ := gh_good hg (sg' := e.sg) (fun j _ => rfl) hh hi (fun o h => by rw [ho] at h; cases h; exact ⟨Nat.le_refl _, fun _ => ⟨rfl, hn, hk⟩⟩) (fun b _ hs => ⟨_, ho, rfl, hs⟩)
 refine ⟨_, g3 ?_, rfl, rfl, g2, g1, rfl⟩
 rcases hg.obj i _ ho with ⟨h0, hno⟩ | ⟨b, cs, el', k1, k2, k3, k4, k5, k6, k7⟩
 ·exact .inl ⟨by omega, hno⟩
 ·refine .inr ⟨b, cs, el', k1, k2, by rw [hn, hk]; exact k3, k4, hf k5, fun x hx => by rw [hn] at hx; rw [hat x hx, hk]; exact k6 x hx, fun x j hx hj => ?_⟩
  rw [hn] at hx
  rw [hk] at hj ⊢
  rw [hat x hx]
  exact ⟨(k7 x j hx hj).1.mono (Nat.le_refl _) g1, (k7 x j hx hj).2⟩
theorem row_put {i g b : Nat} {q q' : LX} {cs : Array Value} {el : TypeId} (ho : e.h[i]? = some (.rw g q)) (hsg : e.sg i = some b) (hb : e.w.heap[b]? = some (.cells cs el (0, 0))) (a m : Nat) {r : LX} {news : List Value}
 (hnl : news.length = m * q.k) (ham : a + m ≤ q.n) (hmr : m ≤ r.n) (hn : q'.n = q.n) (hk : q'.k = q.k) (hf : q.fit → q'.fit)
 (hcl : ∀ x, x < r.n → (r.at_ x).cells.length = q.k) (hrel : ∀ x j, x < r.n → j < q.k → VR e ((r.at_ x).cells.getD j .junk) (news.getD (x * q.k + j) undef) ∧ (news.getD (x * q.k + j) undef).oneCell' = true ∨ m ≤ x)
 (hat : ∀ x, x < q.n → q'.at_ x = if a ≤ x ∧ x < a + m then r.at_ (x - a) else q.at_ x) :
 ∃ e', Good e' ∧ e'.h = e.h.set i (.rw g q') ∧ e'.w = e.w.setRow b (spliced cs (a * q.k) news) ∧ Upd e e' ∧ Ext e.h.length e e' ∧ e'.sg = e.sg ∧ a * q.k + news.length ≤ cs.size := by
 have hil : i < e.h.length := (List.getElem?_eq_some_iff.1 ho).1
 have hh : ∀ j, j ≠ i → (e.h.set i (.rw g q'))[j]? = e.h[j]? := fun j hj => List.getElem?_set_ne (Ne.symm hj)
 have hi : (e.h.set i (.rw g q'))[i]? = some (.rw g q') := by rw [List.getElem?_set, if_pos rfl, if_pos hil]
 rcases hg.obj i _ ho with ⟨_, hno⟩ | ⟨b', cs', el', k1, k2, k3, k4, k5, k6, k7⟩
 ·rw [hno] at hsg; cases hsg
 obtain rfl : b = b' := by rw [hsg] at k1; exact Option.some.inj k1
 rw [hb] at k2
 obtain ⟨rfl, rfl⟩ : cs = cs' ∧ el = el' := by cases k2; exact ⟨rfl, rfl⟩
 have hmul : (a + m) * q.k ≤ q.n * q.k := Nat.mul_le_mul_right _ ham
 rw [Nat.add_mul] at hmul
 have hfit : a * q.k + news.length ≤ cs.size := by omega
 have hsz : (spliced cs (a * q.k) news).size = cs.size := spliced_size hfit
 have hkeep : ∀ x, x < e.ps b → (spliced cs (a * q.k) news)[x]? = cs[x]? := fun x hx' => by omega
 have hm : OMono e (e.wr b (spliced cs (a * q.k) news) (e.h.set i (.rw g q')) 0) i (.rw g q) (.rw g q') := ⟨Nat.le_refl _, fun _ => ⟨rfl, hn, hk⟩⟩
 have hps : e.ps b ≤ 0 := by omega
 have hext := wr_ext hg ho rfl hsg hb hsz hh hi hm hkeep hps
 have hb2 : (e.wr b (spliced cs (a * q.k) news) (e.h.set i (.rw g q')) 0).w.heap[b]? = some (.cells (spliced cs (a * q.k) news) el (0, 0)) := setRow_heap _ _ _ _ _ _ hb
 refine ⟨_, wr_good hg ho rfl hsg hb hsz hh hi hm hkeep hps (.inr ⟨b, _, el, hsg, hb2, by rw [hn, hk, hsz]; exact k3, by simp [Env.wr], hf k5, fun x hx => ?_, fun x j hx hj => ?_⟩) (Nat.zero_le _), rfl, rfl, wr_upd hg ho rfl hsg hb hh hi, hext, rfl, hfit⟩
 ·rw [hn] at hx
  rw [hat x hx, hk]
  split
  ·exact hcl _ (by omega)
  ·exact k6 x hx
 ·rw [hn] at hx
  rw [hk] at hj ⊢
  have hlt : (x + 1) * q.k ≤ q.n * q.k := Nat.mul_le_mul_right _ hx
  rw [Nat.add_mul] at hlt
  rw [hat x hx, spliced_get hfit]
  by_cases hin : a ≤ x ∧ x < a + m
  ·have h1 : (x - a + 1) * q.k ≤ m * q.k := Nat.mul_le_mul_right _ (by omega)
   rw [Nat.add_mul] at h1
   have h2 : (a + (x - a)) * q.k = x * q.k := by congr 1; omega
   rw [Nat.add_mul] at h2
   rw [if_pos hin, if_pos (by omega), show x * q.k + j - a * q.k = (x - a) * q.k + j by omega]
   rcases hrel (x - a) j (by omega) hj with h3 | h3
   ·exact ⟨h3.1.mono (Nat.le_refl _) hext, h3.2⟩
   ·omega
  ·rw [if_neg hin, if_neg (fun h => hin ?_)]
   ·exact ⟨(k7 x j hx hj).1.mono (Nat.le_refl _) hext, (k7 x j hx hj).2⟩
   ·constructor
    ·refine Nat.le_of_not_lt fun hlt2 => ?_
     have h1 : (x + 1) * q.k ≤ a * q.k := Nat.mul_le_mul_right _ hlt2
     rw [Nat.add_mul] at h1
     omega
    ·refine Nat.lt_of_not_le fun hle2 => ?_
     have h1 : (a + m) * q.k ≤ x * q.k := Nat.mul_le_mul_right _ hle2
     rw [Nat.add_mul] at h1
     omega
omit hp hT in
theorem slice3_step {q : LX} {dx : Value} (hp' : PVR e.w e.ps (.ls q .any) dx) (hend : ∃ a n, dx = .slice a n n) : Step e (.ls q (.tok e.h.length 0)) (e.h ++ [.tok 0]) dx e.w := by
 obtain ⟨g1, u1, x1⟩ := thaw_env hg
 refine ⟨_, g1, rfl, rfl, .tok q e.h.length 0 dx hp' ?_, u1, x1⟩
 show tokAt (e.h ++ [AObj.tok 0])[e.h.length]? 0 _
 rw [List.getElem?_append_right (Nat.le_refl _)]
 simp only [Nat.sub_self, List.getElem?_cons_zero]
 refine ⟨Nat.le_refl _, fun _ => ?_⟩
 obtain ⟨a, n, rfl⟩ := hend
 cases a with
 | none => trivial
 | some a => exact .inl rfl
theorem aSlice3_ok {t : Nat} {x : AVal} {c : Value} {lo : Option AVal} {hi m : AVal} {clo : Option Value} {chi cm : Value} {same : Bool} (hx : VR e x c) (hlo : OptR e lo clo) (hhi : VR e hi chi) (hm : VR e m cm) (hsame : same = true → chi = cm ∨ ∃ k k' n, chi = .int k n ∧ cm = .int k' n) :
 ARok e (aSlice3 p T t x lo hi m same e.h) ((Instr.sliceAt t c clo (some chi) (some cm)).run P e.w) := by
 unfold aSlice3
 split
 ·split
  ·rename_i te hte
   obtain ⟨el, hu, hto, _⟩ := slElem_spec hT hg hp hte
   split
   ·rename_i a ha
    have hlo' := opt0_spec hT hg hp hlo ha
    split
    ·rename_i k b
     have hb := hhi.int_inv
     split
     ·rename_i k2 d
      have hd := hm.int_inv
      have hbd : b = d := by
       rcases hsame rfl with h | ⟨_, _, n, h1, h2⟩
       ·rw [hb, hd] at h; cases h; rfl
       ·rw [hb] at h1; rw [hd] at h2; cases h1; cases h2; rfl
      subst hbd
      subst hb
      subst hd
      have hlo2 : clo = none ∧ a = 0 ∨ ∃ k, clo = some (.int k a) := by
       rcases hlo' with ⟨h, h', _⟩ | h
       ·exact .inl ⟨h, h'⟩
       ·exact .inr h
      split
      ·rename_i q cp
       cases hko : q.kOK te.sz
       ·trivial
       simp only
       cases hrq : litq p e.h
       ·intro hq
        rw [len_real hp] at hq
        obtain ⟨q0, q1, q2⟩ := hq
        obtain ⟨ad, cap, hc, _, _⟩ := hx.ls_len
        have hncap : q.n ≤ cap := by
         have h := hx.ls_any
         rw [hc] at h
         generalize hd : (Value.slice ad q.n cap) = d at h
         cases h with
         | lsnil _ _ h0 => rw [h0]; exact Nat.zero_le _
         | lse _ _ h0 => rw [h0]; exact Nat.zero_le _
         | ls _ b2 off cp2 cv hcap => injection hd with e1 e2 e3; rw [e3]; exact hcap
        have hr := run_slice hT hg hp hu hto ad q.n cap clo (some (.int k b)) (some (.int k2 b)) a b b hlo2 (.inr ⟨k, rfl⟩) (.inr ⟨k2, k, rfl, rfl⟩) q0 q1 (Int.le_refl _) (by omega) e.w
        have hsub := PVR.sub hT hg hp (hx.ls_any) hc hko q0 q1 q2 (m := b) (Int.le_refl _) (by omega)
        rw [← hc] at hr
        exact ⟨_, _, hr, slice3_step hg hsub ⟨_, _, rfl⟩⟩
       ·intro hq
        rw [len_real hp] at hq
        obtain ⟨q0, q1, q2⟩ := hq
        subst q1
        obtain ⟨ad, cap, hc, _, _⟩ := hx.ls_len
        have hncap : q.n ≤ cap := by
         have h := hx.ls_any
         rw [hc] at h
         generalize hd : (Value.slice ad q.n cap) = d at h
         cases h with
         | lsnil _ _ h0 => rw [h0]; exact Nat.zero_le _
         | lse _ _ h0 => rw [h0]; exact Nat.zero_le _
         | ls _ b2 off cp2 cv hcap => injection hd with e1 e2 e3; rw [e3]; exact hcap
        have hr := run_slice hT hg hp hu hto ad q.n cap clo (some (.int k a)) (some (.int k2 a)) a a a hlo2 (.inr ⟨k, rfl⟩) (.inr ⟨k2, k, rfl, rfl⟩) q0 (Int.le_refl _) (Int.le_refl _) (by omega) e.w
        rw [Nat.sub_self] at hr
        have h0 : q.nil0.n = 0 := by cases q <;> rfl
        obtain ⟨g1, u1, x1⟩ := thawR_env hg q.nil0 h0
        rw [← hc] at hr
        refine ⟨_, _, hr, e.thawR q.nil0, g1, rfl, rfl, ?_, u1, x1⟩
        refine .sl _ _ _ _ _ rfl ?_
        have : (e.thawR q.nil0).h[e.h.length]? = some (.rw 0 q.nil0) := by
         show (e.h ++ [AObj.rw 0 q.nil0])[e.h.length]? = _
         simp
        rw [this]
        exact ⟨Nat.le_refl _, fun _ => ⟨Int.le_refl _, Int.le_refl _, Int.natCast_nonneg _, .inl ⟨⟨_, rfl⟩, rfl, rfl, h0⟩⟩⟩
      ·rename_i i g l u
       split
       ·rename_i g' q hob
        cases hgg : Nat.beq g g'
        ·trivial
        obtain rfl := Nat.eq_of_beq_eq_true hgg
        cases hko : q.kOK te.sz
        ·trivial
        intro hq
        simp only [hp.sbt] at hq
        obtain ⟨q0, q1, q2⟩ := hq
        subst q1
        obtain ⟨a1, a2, a3, a4⟩ := VR.sl_inv hT hg hp hx hob
        have hsl : ∃ ad n cap : _, c = .slice ad n cap ∧ (a : Int) ≤ cap ∧ (a : Int) ≤ n := by
         rcases a4 with ⟨⟨ad0, rfl⟩, rfl, rfl, _⟩ | ⟨bb, cap, off, rfl, _, hcap, _⟩
         ·exact ⟨ad0, 0, 0, rfl, by omega, by omega⟩
         ·exact ⟨_, _, cap, rfl, by omega, by omega⟩
        obtain ⟨ad, n, cap, rfl, hcap, hn⟩ := hsl
        have hr := run_slice hT hg hp hu hto ad n cap clo (some (.int k a)) (some (.int k2 a)) a a a hlo2 (.inr ⟨k, rfl⟩) (.inr ⟨k2, k, rfl, rfl⟩) q0 (Int.le_refl _) (Int.le_refl _) hcap e.w
        rw [if_pos rfl, Nat.sub_self] at hr
        have h0 : q.nil0.n = 0 := by cases q <;> rfl
        have hf : q.nil0.fit := by
         cases q with
         | gl s xs => intro x hx; simp at hx
         | _ => trivial
        refine ⟨_, _, hr, ?_⟩
        have hpv : PVR e.w e.ps (.ls q.nil0 .any) (.slice ad 0 0) := by
         cases ad with
         | none => exact .lsnil _ _ h0 hf (.inl rfl)
         | some ad => exact .lse _ _ h0 hf
        have hk : q.nil0.k = q.k := by cases q <;> rfl
        exact slice3_step hg hpv ⟨ad, 0, rfl⟩
       ·trivial
      ·trivial
     ·trivial
    ·trivial
   ·trivial
  ·trivial
 ·split
  ·rename_i i g l u
   split
   ·rename_i te hte
    obtain ⟨el, hu, hto, _⟩ := slElem_spec hT hg hp hte
    split
    ·rename_i a ha
     have hlo' := opt0_spec hT hg hp hlo ha
     have hlo2 : clo = none ∧ a = 0 ∨ ∃ k, clo = some (.int k a) := by
      rcases hlo' with ⟨h, h', _⟩ | h
      ·exact .inl ⟨h, h'⟩
      ·exact .inr h
     split
     ·rename_i k b
      have hb := hhi.int_inv
      split
      ·rename_i k2 d
       have hd := hm.int_inv
       subst hb
       subst hd
       split
       ·rename_i g' q hob
        cases hgg : Nat.beq g g'
        ·trivial
        obtain rfl := Nat.eq_of_beq_eq_true hgg
        intro hq
        simp only [hp.sbt] at hq
        obtain ⟨q0, q1, q2, q3⟩ := hq
        obtain ⟨a1, a2, a3, a4⟩ := VR.sl_inv hT hg hp hx hob
        have hsl : ∃ ad n cap : _, c = .slice ad n cap ∧ d ≤ cap := by
         rcases a4 with ⟨⟨ad0, rfl⟩, rfl, rfl, _⟩ | ⟨bb, cap, off, rfl, _, hcap, _⟩
         ·exact ⟨ad0, 0, 0, rfl, by omega⟩
         ·exact ⟨_, _, cap, rfl, by omega⟩
        obtain ⟨ad, n, cap, rfl, hcap⟩ := hsl
        have hr := run_slice hT hg hp hu hto ad n cap clo (some (.int k b)) (some (.int k2 d)) a b d hlo2 (.inr ⟨k, rfl⟩) (.inr ⟨k2, k, rfl, rfl⟩) q0 q1 q2 hcap e.w
        exact ⟨_, _, hr, .same hg (.pure _ _ (.junk _))⟩
       ·trivial
      ·trivial
     ·trivial
    ·trivial
   ·trivial
  ·exact aSlice_ok hT hg hp hx hlo (.inr ⟨_, _, rfl, rfl, hhi⟩) (.inr ⟨_, _, rfl, rfl, hm⟩)
omit hg hp hT in
theorem run_copy_idle {dT sT ty elem : TypeId} {te : TI} (hu : P.underlying dT = some (.slice elem)) (hte : TIOK P elem te) (w : World) (ba sa : Option Addr) (dLen dCap sLen sCap : Nat) (hn : Nat.min sLen dLen = 0)
 (hf : (Builtin.firstCells te.sz 0 (.slice sa sLen sCap)).run P w = .ok #[] w) : (Builtin.copy_ #[dT, sT] ty #[.slice ba dLen dCap, .slice sa sLen sCap]).run P w = .ok (goInt 0) w := by
 cases ba <;> simp [Builtin.copy_, run_underlying hu, Builtin.lenOf, hte.run_sizeOf, hn, hf, storeCells]
omit hg hp hT in
theorem run_copy_put {dT sT ty elem : TypeId} {te : TI} (hu : P.underlying dT = some (.slice elem)) (hte : TIOK P elem te) (w : World) (b o : Nat) (sa : Option Addr) (dLen dCap sLen sCap n : Nat) (hn : Nat.min sLen dLen = n) {news : List Value}
 (hf : (Builtin.firstCells te.sz n (.slice sa sLen sCap)).run P w = .ok news.toArray w) {cur : Array Value} {el : TypeId} (hb : w.heap[b]? = some (.cells cur el (0, 0))) (hfit : o + news.length ≤ cur.size) (h1 : ∀ v ∈ news, v.oneCell' = true) :
 (Builtin.copy_ #[dT, sT] ty #[.slice (some ⟨b, o, none⟩) dLen dCap, .slice sa sLen sCap]).run P w = .ok (goInt n) (w.setRow b (spliced cur o news)) := by
 have hst := run_storeCells_at P b o el news 0 cur w hb (by simpa using hfit) h1
 simp only [Nat.add_zero] at hst
 simp [Builtin.copy_, run_underlying hu, Builtin.lenOf, hte.run_sizeOf, hn, hf, hst, spliced]
theorem Src.take_one {z : Nat} (hz : 0 < z) {r : LX} {dy : Value} {news : List Value} (h : Src e (P := P) z r dy news) (m : Nat) : ∀ v ∈ news.take (m * z), v.oneCell' = true := fun v hv => by
 obtain ⟨x, hx', rfl⟩ := List.mem_iff_getElem.1 (List.mem_of_mem_take hv)
 have hx2 : x < r.n * z := by rw [← h.len]; exact hx'
 have h1 : x / z < r.n := Nat.div_lt_of_lt_mul (by rw [Nat.mul_comm]; exact hx2)
 have := (h.rel (x / z) (x % z) h1 (Nat.mod_lt _ hz)).2
 rw [show x / z * z + x % z = x by have := Nat.div_add_mod x z; rw [Nat.mul_comm] at this; exact this] at this
 simpa [List.getD, hx'] using this
theorem Src.take_rel {z : Nat} {r : LX} {dy : Value} {news : List Value} (h : Src e (P := P) z r dy news) (m : Nat) : ∀ x j, x < r.n → j < z →
 VR e ((r.at_ x).cells.getD j .junk) ((news.take (m * z)).getD (x * z + j) undef) ∧ ((news.take (m * z)).getD (x * z + j) undef).oneCell' = true ∨ m ≤ x := fun x j hx hj => by
 by_cases hm : m ≤ x
 ·exact .inr hm
 ·left
  have hlt : (x + 1) * z ≤ m * z := Nat.mul_le_mul_right _ (by omega)
  rw [Nat.add_mul] at hlt
  have e1 : (news.take (m * z)).getD (x * z + j) undef = news.getD (x * z + j) undef := by
   simp only [List.getD]; rw [List.getElem?_take, if_pos (by omega)]
  rw [e1]
  exact h.rel x j hx hj
theorem aCopy_ok {t t2 : Nat} (ty : TypeId) {x y : AVal} {dx dy : Value} (hx : VR e x dx) (hy : VR e y dy) : ARok e (aCopy p T t x y e.h) ((Builtin.copy_ #[t, t2] ty #[dx, dy]).run P e.w) := by
 unfold aCopy
 split
 ·rename_i te hte
  obtain ⟨el, hu, hto, _⟩ := slElem_spec hT hg hp hte
  cases hz : Nat.blt 0 te.sz
  ·trivial
  have hz : 0 < te.sz := by simpa using hz
  simp only
  split
  ·rename_i i g lo hi
   split
   ·rename_i g' q ho
    cases hgg : Nat.beq g g'
    ·trivial
    obtain rfl := Nat.eq_of_beq_eq_true hgg
    cases hqk : Nat.beq q.k te.sz
    ·trivial
    have hqk := Nat.eq_of_beq_eq_true hqk
    simp only
    split
    ·rename_i r hr
     cases hkr : r.kOK te.sz
     ·trivial
     obtain ⟨news, hS⟩ := src_ok hT hg hp (P := P) hz hy hr hkr
     simp only
     split
     ·rename_i q' hq'
      obtain ⟨a1, a2, a3, a4⟩ := VR.sl_inv hT hg hp hx ho
      obtain ⟨sa, scap, rfl⟩ := hS.sl
      obtain ⟨n, hn⟩ : ∃ n : Nat, n = Nat.min r.n (hi - lo).toNat := ⟨_, rfl⟩
      have hmn : p.mn (p.sbt hi lo) (r.len p) = (n : Int) := by
       rw [hp.mn, hp.sbt, len_real hp, hn]
       simp only []
       rcases Nat.le_total r.n (hi - lo).toNat with h | h
       ·rw [show Nat.min r.n (hi - lo).toNat = r.n from Nat.min_eq_left h]; split <;> omega
       ·rw [show Nat.min r.n (hi - lo).toNat = (hi - lo).toNat from Nat.min_eq_right h]; split <;> omega
      have hnr : n ≤ r.n := by rw [hn]; exact Nat.min_le_left _ _
      have hnd : n ≤ (hi - lo).toNat := by rw [hn]; exact Nat.min_le_right _ _
      have hqnl : q ≠ .nl := fun h => by subst h; simp [LX.k] at hqk; omega
      rw [hmn] at hq' ⊢
      obtain ⟨s1, s2, s3, s4⟩ := splice_real hp hq' a1 (by omega) (by omega) (by omega) hqnl
      have hfn := hS.first n hnr e.w rfl
      rcases Nat.eq_zero_or_pos n with h0 | h0
      ·-- nothing goes over
       have hdx : ∃ ba c, dx = .slice ba (hi - lo).toNat c := by
        rcases a4 with ⟨⟨ad0, rfl⟩, rfl, rfl, _⟩ | ⟨b, cap, off, rfl, _⟩
        ·exact ⟨ad0, 0, rfl⟩
        ·exact ⟨_, _, rfl⟩
       obtain ⟨ba, cap, rfl⟩ := hdx
       have hrun := run_copy_idle (P := P) (sT := t2) (ty := ty) hu hto e.w ba sa (hi - lo).toNat cap r.n scap (by rw [← hn]; exact h0) (by rw [h0] at hfn; simpa using hfn)
       obtain ⟨e', g1, g2, g3, g4, g5, _⟩ := row_idle hT hg hp ho s1 s2 (fun h => s3 h hS.fit) (fun x hx => by rw [s4 x hx, if_neg (by omega)])
       refine ⟨_, _, hrun, e', g1, g2, g3, ?_, g4, g5⟩
       rw [h0]
       exact .pure _ _ (.int _ _)
      ·rcases a4 with ⟨⟨ad0, rfl⟩, rfl, rfl, _⟩ | ⟨b, cap, off, rfl, hsg, hcap, hoff⟩
       ·simp at hnd; omega
       ·obtain ⟨o1, o2⟩ := hoff.resolve_left (by omega)
        rcases hg.obj i _ ho with ⟨_, hno⟩ | ⟨b', cs, el', k1, k2, _⟩
        ·rw [hno] at hsg; cases hsg
        obtain rfl : b = b' := by rw [hsg] at k1; exact Option.some.inj k1
        have hlen : (news.take (n * te.sz)).length = n * q.k := by
         rw [List.length_take, hS.len, hqk]
         exact Nat.min_eq_left (Nat.mul_le_mul_right _ hnr)
        obtain ⟨e', g1, g2, g3, g4, g5, _, g6⟩ := row_put hT hg hp (r := r) (news := news.take (n * te.sz)) ho hsg k2 lo.toNat n hlen (by omega) hnr s1 s2 (fun h => s3 h hS.fit)
         (fun x hx => by rw [hqk]; exact hS.cl x hx) (by rw [hqk]; exact Src.take_rel hT hg hp hS n) (fun x hx => by rw [s4 x hx]; simp)
        have hrun := run_copy_put (P := P) (sT := t2) (ty := ty) hu hto e.w b off sa (hi - lo).toNat cap r.n scap n hn.symm hfn k2 (by rw [o1]; exact g6) (Src.take_one hT hg hp hz hS n)
        rw [o1] at hrun
        rw [o1]
        exact ⟨_, _, hrun, e', g1, g2, g3, .pure _ _ (.int _ _), g4, g5⟩
     ·trivial
    ·trivial
   ·trivial
  ·trivial
 ·trivial
theorem aAppend_tok_ok {t t2 : Nat} (ty : TypeId) {x y : AVal} {dx dy : Value} (hx : VR e x dx) (hy : VR e y dy) : ARok e (aAppend p T t t2 x y e.h) ((Builtin.append_ #[t, t2] ty #[dx, dy]).run P e.w) := by
 unfold aAppend
 split
 ·rename_i te hte
  obtain ⟨el, hu, hto, _⟩ := slElem_spec hT hg hp hte
  cases h2 : isSl T t2
  ·trivial
  obtain ⟨el2, hu2⟩ := isSl_spec hT h2
  simp only
  split
  ·rename_i q c
   split
   ·rename_i r hr
    cases hkr : r.kOK te.sz
    ·trivial
    cases hkq : q.kOK te.sz
    ·trivial
    cases hz : Nat.blt 0 te.sz
    ·trivial
    have hz : 0 < te.sz := by simpa using hz
    obtain ⟨hdy, hrfit, news, hFn, hS, hfn⟩ := lst_ok hT hg hp (P := P) hz hy hr hkr
    simp only
    split
    ·rename_i s happ
     split
     ·-- a nil slice
      have hdx : dx = .slice none 0 0 ∧ q.n = 0 := by
       rcases hx.ls_inv with h | h
       ·cases hx with
        | pure _ _ h => cases h; rename_i hq hf hc; exact ⟨rfl, hq⟩
       ·exact ⟨h.2.1, by cases hx with | pure _ _ h => cases h; assumption⟩
      split
      ·intro hq
       simp only [rNd, hp.ad, len_real hp] at hq
       obtain ⟨q0, q1, q2⟩ := hq
       refine append_tok' hT hg hp ty hu hu2 hto hz hx hFn hfn hrfit hdy hkq hkr happ ⟨q1, q2⟩ (fun j hj => ?_) (by simp) (fun o ho => by simp at ho) (.inl ⟨by simp, hdx.1⟩)
       rcases Nat.lt_or_ge j e.h.length with h | h
       ·rw [List.getElem?_append_left h]
       ·rw [List.getElem?_eq_none (by simp; omega), List.getElem?_eq_none h]
      ·-- .. that becomes a row
       cases hrk : Nat.beq r.k te.sz
       ·trivial
       have hrk := Nat.eq_of_beq_eq_true hrk
       simp only
       split
       ·rename_i s' happ'
        intro hq
        simp only [rNd, hp.ad, len_real hp] at hq
        obtain ⟨q0, q1, q2⟩ := hq
        rw [hdx.2] at q1 q2
        obtain ⟨hdx, _⟩ := hdx
        subst hdx
        have h0n : r.nil0.n = 0 := by cases r <;> rfl
        have h0k : r.nil0.k = r.k := by cases r <;> rfl
        have h0f : r.nil0.fit := by
         cases r with
         | gl s xs => intro x hx; simp at hx
         | _ => trivial
        obtain ⟨g1, u1, x1⟩ := thawR_env hg r.nil0 h0n
        have ho1 : (e.thawR r.nil0).h[e.h.length]? = some (.rw 0 r.nil0) := by
         show (e.h ++ [AObj.rw 0 r.nil0])[e.h.length]? = _
         simp
        have hx1 : VR (e.thawR r.nil0) (.sl e.h.length 0 0 r.nil0.n) (.slice none 0 0) := by
         refine .sl _ _ _ _ _ rfl ?_
         rw [ho1]
         exact ⟨Nat.le_refl _, fun _ => ⟨Int.le_refl _, by omega, Int.le_refl _, .inl ⟨⟨_, rfl⟩, rfl, by rw [h0n]; rfl, h0n⟩⟩⟩
        have hS1 : Src (e.thawR r.nil0) (P := P) te.sz r dy news := ⟨hS.len, hS.cl, fun x j hx hj => ⟨(hS.rel x j hx hj).1.mono (Nat.le_refl _) x1, (hS.rel x j hx hj).2⟩, hS.fit, hS.sl, fun m hm w' hw' => hS.first m hm w' hw'⟩
        obtain ⟨c, w', hrun, e', f1, f2, f3, f4, f5, f6⟩ := append_row hT g1 hp (P := P) ty hu hu2 hto hz ho1 hx1 (h0k.trans hrk) happ' hS1 ⟨by rw [h0n]; exact q1, by rw [h0n]; exact q2⟩
        rw [len_real hp]
        refine ⟨c, w', hrun, e', f1, ?_, f3, f4, u1.trans f5, x1.trans (f6.le (by show e.h.length ≤ (e.h ++ [AObj.rw 0 r.nil0]).length; simp))⟩
        rw [f2]
        show (e.h ++ [AObj.rw 0 r.nil0]).set e.h.length _ = _
        rw [List.set_append_right _ _ (Nat.le_refl _)]
        simp
       ·trivial
     ·rename_i i n
      split
      ·rename_i n' hob
       cases hnn : Nat.beq n n'
       ·trivial
       obtain rfl := Nat.eq_of_beq_eq_true hnn
       intro hq
       simp only [rNd, hp.ad, len_real hp] at hq
       obtain ⟨q0, q1, q2⟩ := hq
       have hil : i < e.h.length := (List.getElem?_eq_some_iff.1 hob).1
       have ht := hx.tok_inv
       rw [hob] at ht
       exact append_tok' hT hg hp ty hu hu2 hto hz hx hFn hfn hrfit hdy hkq hkr happ ⟨q1, q2⟩ (fun j hj => by rw [List.getElem?_set_ne (Ne.symm hj)]) (by simp [hil]) (fun o ho => by rw [hob] at ho; cases ho; exact ⟨n, rfl, by omega⟩) (.inr ⟨n, hob, ht.2 rfl⟩)
      ·trivial
     ·trivial
    ·trivial
   ·trivial
  ·rename_i i g lo hi
   split
   ·rename_i g' q ho
    cases hgg : Nat.beq g g'
    ·trivial
    obtain rfl := Nat.eq_of_beq_eq_true hgg
    simp only
    split
    ·rename_i r hr
     cases hkr : r.kOK te.sz
     ·trivial
     cases hkq : Nat.beq q.k te.sz
     ·trivial
     have hqk := Nat.eq_of_beq_eq_true hkq
     cases hz : Nat.blt 0 te.sz
     ·trivial
     have hz : 0 < te.sz := by simpa using hz
     obtain ⟨news, hS⟩ := src_ok hT hg hp (P := P) hz hy hr hkr
     simp only
     split
     ·split
      ·rename_i s happ
       intro hq
       simp only [rNd, hp.ad, len_real hp] at hq
       obtain ⟨q1, q2, q3, q4, q5⟩ := hq
       subst q1; subst q2
       rw [len_real hp]
       exact append_row hT hg hp ty hu hu2 hto hz ho hx hqk happ hS ⟨q4, q5⟩
      ·trivial
     ·split
      ·rename_i q' hq'
       intro hq
       simp only [rNd, hp.ad, len_real hp] at hq
       obtain ⟨q0, q1, q2⟩ := hq
       rw [len_real hp] at hq'
       have hqnl : q ≠ .nl := fun h => by subst h; simp [LX.k] at hqk; omega
       obtain ⟨s1, s2, s3, s4⟩ := splice_real hp hq' q0 (by omega) (Int.le_refl _) q2 hqnl
       obtain ⟨a1, a2, a3, a4⟩ := VR.sl_inv hT hg hp hx ho
       have hfn := hS.first r.n (Nat.le_refl _) e.w rfl
       have hdy := hS.sl
       have hlo : (hi - lo).toNat = hi.toNat - lo.toNat := by omega
       rw [hp.ad, len_real hp]
       simp only []
       rcases Nat.eq_zero_or_pos r.n with h0 | h0
       ·-- nothing is put behind
        have hdx : ∃ ba c, dx = .slice ba (hi - lo).toNat c ∧ (hi - lo).toNat ≤ c := by
         rcases a4 with ⟨⟨ad0, rfl⟩, rfl, rfl, _⟩ | ⟨b, cap, off, rfl, _, hcap, _⟩
         ·exact ⟨ad0, 0, rfl, Nat.le_refl _⟩
         ·exact ⟨_, _, rfl, by omega⟩
        obtain ⟨ba, cap, rfl, hcap⟩ := hdx
        have hrun := run_append_idle (P := P) (ty := ty) hu hu2 hto (ba := ba) (n := (hi - lo).toNat) (cap := cap) (m := r.n) (dy := dy) hdy h0 hcap (by
         rw [h0] at hfn ⊢; simpa using hfn)
        obtain ⟨e', g1, g2, g3, g4, g5, g6⟩ := row_idle hT hg hp ho s1 s2 (fun h => s3 h hS.fit) (fun x hx => by rw [s4 x hx, if_neg (by omega)])
        refine ⟨_, _, hrun, e', g1, g2, g3, ?_, g4, g5⟩
        have := hx.mono (Nat.le_refl _) g5
        rw [show hi + (r.n : Int) = hi by omega]
        exact this
       ·rcases a4 with ⟨⟨ad0, rfl⟩, rfl, rfl, hqn⟩ | ⟨b, cap, off, rfl, hsg, hcap, hoff⟩
        ·omega
        ·obtain ⟨o1, o2⟩ := hoff.resolve_left (by omega)
         rcases hg.obj i _ ho with ⟨_, hno⟩ | ⟨b', cs, el', k1, k2, _⟩
         ·rw [hno] at hsg; cases hsg
         obtain rfl : b = b' := by rw [hsg] at k1; exact Option.some.inj k1
         have hnews : news.take (r.n * te.sz) = news := by rw [← hS.len, List.take_length]
         have hlen : news.length = r.n * q.k := by rw [hS.len, hqk]
         obtain ⟨e', g1, g2, g3, g4, g5, g7, g6⟩ := row_put hT hg hp (r := r) (news := news) ho hsg k2 hi.toNat r.n hlen (by omega) (Nat.le_refl _) s1 s2 (fun h => s3 h hS.fit)
          (fun x hx => by rw [hqk]; exact hS.cl x hx) (fun x j hx hj => .inl (by rw [hqk] at hj ⊢; exact hS.rel x j hx hj)) (fun x hx => by rw [s4 x hx]; simp)
         have hoff2 : off + (hi - lo).toNat * te.sz = hi.toNat * q.k := by
          rw [o1, hqk, ← Nat.add_mul]; congr 1; omega
         have hrun := run_append_put (P := P) (ty := ty) hu hu2 hto (ba := some ⟨b, off, none⟩) (n := (hi - lo).toNat) (cap := cap) (m := r.n) (dy := dy) hdy (news := news) (by omega) rfl k2 (by rw [hnews] at hfn; exact hfn) (by rw [hoff2]; exact g6)
          (by have := Src.take_one hT hg hp hz hS r.n; rwa [hnews] at this)
         rw [hoff2] at hrun
         refine ⟨_, _, hrun, e', g1, g2, g3, ?_, g4, g5⟩
         refine .sl i g lo (hi + r.n) _ rfl ?_
         have hil : i < e.h.length := (List.getElem?_eq_some_iff.1 ho).1
         rw [g2, List.getElem?_set, if_pos rfl, if_pos hil]
         refine ⟨Nat.le_refl _, fun _ => ⟨a1, by omega, by omega, .inr ⟨b, cap, off, by rw [show (hi + (r.n : Int) - lo).toNat = (hi - lo).toNat + r.n by omega], by rw [g7]; exact hsg, by rw [s1]; exact hcap, .inr ⟨by rw [s2]; exact o1, ?_⟩⟩⟩⟩
         rw [s2]
         exact Nat.le_trans o2 (g5.size b)
      ·trivial
    ·trivial
   ·trivial
  ·trivial
 ·trivial
theorem aClear_ok {t : Nat} (ty : TypeId) {x : AVal} {dx : Value} (hx : VR e x dx) : ARok e (aClear p T t x e.h) ((Builtin.clear_ #[t] ty #[dx]).run P e.w) := by
 unfold aClear
 split
 ·rename_i te hte
  obtain ⟨el, hu, hto, _⟩ := slElem_spec hT hg hp hte
  cases hz : Nat.blt 0 te.sz
  ·trivial
  have hz : 0 < te.sz := by simpa using hz
  cases hon : allOne te.zero.cells
  ·trivial
  simp only
  split
  ·rename_i i g lo hi
   split
   ·rename_i g' q ho
    cases hgg : Nat.beq g g'
    ·trivial
    obtain rfl := Nat.eq_of_beq_eq_true hgg
    cases hqk : Nat.beq q.k te.sz
    ·trivial
    have hqk := Nat.eq_of_beq_eq_true hqk
    simp only
    split
    ·rename_i q' hq'
     obtain ⟨a1, a2, a3, a4⟩ := VR.sl_inv hT hg hp hx ho
     obtain ⟨r1, r2, r3⟩ := rep_real hp (p.sbt hi lo) te.zero
     have hsb : p.sbt hi lo = hi - lo := by rw [hp.sbt]
     rw [hsb] at r1 r2 r3 hq'
     have hrn : (repLX p (hi - lo) te.zero).n = (hi - lo).toNat := by rw [LX.n, r1, List.length_replicate]
     have hrat : ∀ x, x < (hi - lo).toNat → (repLX p (hi - lo) te.zero).at_ x = te.zero := fun x hx => by
      rw [LX.at_, r1]; simp [List.getD, hx]
     have hqnl : q ≠ .nl := fun h => by subst h; simp [LX.k] at hqk; omega
     obtain ⟨s1, s2, s3, s4⟩ := splice_real hp hq' a1 (by omega) (by omega) (by omega) hqnl
     have dead : (hi - lo).toNat = 0 → (∃ ba c, dx = .slice ba 0 c) → ∃ c w', (Builtin.clear_ #[t] ty #[dx]).run P e.w = .ok c w' ∧ Step e (.tup []) (e.h.set i (.rw g q')) c w' := fun h0 ⟨ba, c, hdx⟩ => by
      obtain ⟨e', g1, g2, g3, g4, g5, _⟩ := row_idle hT hg hp ho s1 s2 (fun h => s3 h r2) (fun x hx => by rw [s4 x hx, if_neg (by omega)])
      subst hdx
      refine ⟨.tuple #[], e.w, ?_, e', g1, g2, g3, .pure _ _ (.tup [] #[] rfl (fun i hi => by simp at hi)), g4, g5⟩
      cases ba <;> simp [Builtin.clear_, run_underlying hu]
     rcases a4 with ⟨⟨ad0, rfl⟩, rfl, rfl, _⟩ | ⟨b, cap, off, hdx, hsg, hcap, hoff⟩
     ·exact dead rfl ⟨ad0, 0, rfl⟩
     ·rcases Nat.eq_zero_or_pos (hi - lo).toNat with h0 | h0
      ·exact dead h0 ⟨_, _, by rw [hdx, h0]⟩
      ·obtain ⟨o1, o2⟩ := hoff.resolve_left (by omega)
       rcases hg.obj i _ ho with ⟨_, hno⟩ | ⟨b', cs, el', k1, k2, _⟩
       ·rw [hno] at hsg; cases hsg
       obtain rfl : b = b' := by rw [hsg] at k1; exact Option.some.inj k1
       obtain ⟨z, hz0, hz1, hz2, hz3⟩ := hto.run_zero
       obtain ⟨hlr, _⟩ := LR.zero hto (hz0 e.w)
       have hzc : ∀ n, (Builtin.zeroCells z.cells n) = zcells z.cells (n * z.cells.size) := fun n => rfl
       have hnl : (zcells z.cells ((hi - lo).toNat * z.cells.size)).toList.length = (hi - lo).toNat * q.k := by
        rw [Array.length_toList, zcells_size, hz1, hqk]
       have hget : ∀ m, m < (hi - lo).toNat * te.sz → (zcells z.cells ((hi - lo).toNat * z.cells.size)).toList.getD m undef = z.cells.getD (m % te.sz) undef := fun m hm => by
        have := zcells_get z.cells ((hi - lo).toNat * z.cells.size) m (by rw [hz1]; exact hm) (by omega)
        rw [hz1] at this ⊢
        rw [← this]
        simp [List.getD]
       have hone : ∀ v ∈ (zcells z.cells ((hi - lo).toNat * z.cells.size)).toList, v.oneCell' = true := fun v hv => by
        obtain ⟨m, hm, rfl⟩ := List.mem_iff_getElem.1 hv
        have hm2 : m < (hi - lo).toNat * te.sz := by rw [hnl, hqk] at hm; exact hm
        have := hget m hm2
        simp only [List.getD, List.getElem?_eq_getElem hm, Option.getD_some] at this
        rw [this]
        have hmod : m % te.sz < z.cells.size := by rw [hz1]; exact Nat.mod_lt _ hz
        simp only [Array.getD_eq_getD_getElem?, Array.getElem?_eq_getElem hmod, Option.getD_some]
        exact hz2 _ (Array.getElem_mem hmod)
       obtain ⟨e', g1, g2, g3, g4, g5, _, g6⟩ := row_put hT hg hp (r := repLX p (hi - lo) te.zero) (news := (zcells z.cells ((hi - lo).toNat * z.cells.size)).toList) ho hsg k2 lo.toNat (hi - lo).toNat hnl (by omega) (by omega) s1 s2 (fun h => s3 h r2)
        (fun x hx => by rw [hrat x (by omega), hqk]; exact hto.zl) (fun x j hx hj => .inl (by
          rw [hqk] at hj ⊢
          have hlt : (x + 1) * te.sz ≤ (hi - lo).toNat * te.sz := Nat.mul_le_mul_right _ (by omega)
          rw [Nat.add_mul] at hlt
          rw [hrat x (by omega), hget _ (by omega), show (x * te.sz + j) % te.sz = j by rw [Nat.mul_comm, Nat.mul_add_mod, Nat.mod_eq_of_lt hj]]
          have h9 := hlr.rel j (by rw [hto.zl]; exact hj)
          exact ⟨h9, h9.one (allOne_mono hon (by rw [hto.zl]; exact hj))⟩)) (fun x hx => by rw [s4 x hx])
       refine ⟨.tuple #[], _, ?_, e', g1, g2, g3, .pure _ _ (.tup [] #[] rfl (fun i hi => by simp at hi)), g4, g5⟩
       have hst := run_storeCells_at P b off el' (zcells z.cells ((hi - lo).toNat * z.cells.size)).toList 0 cs e.w k2 (by rw [o1]; simpa using g6) hone
       simp only [Nat.add_zero] at hst
       rw [hdx]
       obtain ⟨n, hn⟩ : ∃ n, (hi - lo).toNat = n + 1 := ⟨(hi - lo).toNat - 1, by omega⟩
       have hz0' := hz0 e.w
       rw [← o1]
       simp only [Builtin.clear_]
       rw [hn] at hst ⊢
       simp [run_underlying hu, hz0', hzc, hst, spliced]
    ·trivial
   ·trivial
  ·trivial
 ·trivial
end
end Go.AL
/-
  AL: maps of numbers: one made, an entry put in, one looked up.
-/
set_option linter.unusedSectionVars false
set_option linter.unusedVariables false
set_option linter.unusedSimpArgs false
namespace Go.AL
open Go
theorem OMono.kept {e e' : Env} (hs : e'.sg = e.sg) (hp : e'.ps = e.ps) (i : Nat) (o : AObj) : OMono e e' i o o := by
 cases o <;> simp [OMono, hs, hp]
theorem ObjOK.moved {e e' : Env} {i : Nat} {o : AObj} (hs : e'.sg = e.sg) (hh : ∀ b, o.live = true → e.sg i = some b → e'.w.heap[b]? = e.w.heap[b]?) (hp : e'.ps = e.ps)
 (hv : ∀ v c, VR e v c → VR e' v c) (h : ObjOK e i o) : ObjOK e' i o := by
 cases o with
 | box vs =>
   obtain ⟨b, cs, el, h1, h2, h3, h4, h5⟩ := h
   exact ⟨b, cs, el, by rw [hs]; exact h1, by rw [hh b rfl h1]; exact h2, h3, by rw [hp]; exact h4, fun j hj => hv _ _ (h5 j hj)⟩
 | rw g q =>
   rcases h with ⟨h1, h2⟩ | ⟨b, cs, el, h1, h2, h3, h4, h5, h6, h7⟩
   ·exact .inl ⟨h1, by rw [hs]; exact h2⟩
   ·exact .inr ⟨b, cs, el, by rw [hs]; exact h1, by rw [hh b rfl h1]; exact h2, h3, by rw [hp]; exact h4, h5, h6, fun i j hi hj => ⟨hv _ _ (h7 i j hi hj).1, (h7 i j hi hj).2⟩⟩
 | tok n =>
   intro b hb
   rw [hs] at hb
   obtain ⟨cs, el, h1⟩ := h b hb
   exact ⟨cs, el, by rw [hh b rfl hb]; exact h1⟩
 | loop r =>
   obtain ⟨b, r2, h1, h2, h3, h4⟩ := h
   exact ⟨b, r2, by rw [hs]; exact h1, by rw [hh b rfl h1]; exact h2, h3, fun t => hv _ _ (h4 t)⟩
 | obj r =>
   obtain ⟨b, r2, h1, h2, h3⟩ := h
   exact ⟨b, r2, by rw [hs]; exact h1, by rw [hh b rfl h1]; exact h2, h3⟩
 | dead g => trivial
theorem heap_putObj_ne' {w : World} {D b : Nat} {o : Obj} (h : b ≠ D) : (w.putObj D o).heap[b]? = w.heap[b]? := by
 simp only [World.putObj]
 rw [Array.getElem?_setIfInBounds_ne (Ne.symm h)]
theorem real_size {x : ObjX} {o : Obj} (h : x.real o) : ∀ cs el fr, o ≠ .cells cs el fr := fun cs el fr e => by
 subst e; cases x <;> exact h
theorem obj_put {e : Env} (hg : Good e) {i b : Nat} {x x' : ObjX} {o o' : Obj} (hi : e.h[i]? = some (.obj x)) (hs : e.sg i = some b) (hb : e.w.heap[b]? = some o) (hr : x.real o) (hr' : x'.real o') :
 let e' : Env := ⟨e.w.putObj b o', e.sg, e.h.set i (.obj x'), e.ps⟩
 Good e' ∧ Upd e e' ∧ Ext e.h.length e e' := by
 intro e'
 have hil : i < e.h.length := (List.getElem?_eq_some_iff.1 hi).1
 have hbl : b < e.w.heap.size := (Array.getElem?_eq_some_iff.1 hb).1
 have hz : cellsSize e.w b = 0 := by
  unfold cellsSize; rw [hb]
  cases o with
  | cells cs el fr => exact absurd rfl (real_size hr cs el fr)
  | _ => rfl
 have hcs : ∀ x, cellsSize e.w x ≤ cellsSize e'.w x := fun x => by
  by_cases hx : x = b
  ·subst hx; rw [hz]; exact Nat.zero_le _
  ·unfold cellsSize
   rw [show e'.w.heap[x]? = e.w.heap[x]? from heap_putObj_ne' hx]
   exact Nat.le_refl _
 have hps0 : e.ps b = 0 := by
  have := hg.ps b
  rw [hz] at this
  exact Nat.le_zero.1 this
 have hat : e'.h[i]? = some (.obj x') := by
  show (e.h.set i _)[i]? = _
  rw [List.getElem?_set, if_pos rfl, if_pos hil]
 have hne : ∀ j, j ≠ i → e'.h[j]? = e.h[j]? := fun j hj => List.getElem?_set_ne (Ne.symm hj)
 have hx : Ext e.h.length e e' := by
  refine ⟨fun j o hj hoj => ?_, fun _ => Nat.le_refl _, fun x y hy => ?_, hcs⟩
  ·by_cases hji : j = i
   ·subst hji
    rw [hi] at hoj
    cases hoj
    exact ⟨.obj x', hat, rfl⟩
   ·exact ⟨o, (hne j hji).trans hoj, OMono.kept rfl rfl j o⟩
  ·have hxb : x ≠ b := fun h => by subst h; omega
   unfold World.cell?
   rw [show e'.w.heap[x]? = e.w.heap[x]? from heap_putObj_ne' hxb]
 have vr : ∀ v c, VR e v c → VR e' v c := fun v c h => h.mono (Nat.le_refl _) hx
 have live : ∀ (j : Nat) (o : AObj), e'.h[j]? = some o → o.live = true → ∃ o2, e.h[j]? = some o2 ∧ o2.live = true := fun j o hj hl => by
  by_cases hji : j = i
  ·subst hji; exact ⟨_, hi, rfl⟩
  ·exact ⟨o, (hne j hji).symm.trans hj, hl⟩
 refine ⟨⟨fun j o hj => ?_, fun j k oj ok x h1 h2 h3 h4 h5 h6 => ?_, fun x => Nat.le_trans (hg.ps x) (hcs x)⟩, ⟨rfl, rfl, rfl, by simp [e', World.putObj], fun x hx' hno => ?_, fun x ⟨j, o, h1, h2, h3⟩ => ?_⟩, hx⟩
 ·by_cases hji : j = i
  ·subst hji
   rw [hat] at hj
   cases hj
   exact ⟨b, o', hs, by simp [e', World.putObj, hbl], hr'⟩
  ·have hj' := (hne j hji).symm.trans hj
   refine ObjOK.moved (e := e) rfl (fun x hl hx' => heap_putObj_ne' fun hxb => ?_) rfl vr (hg.obj j o hj')
   subst hxb
   exact hji (hg.inj j i o _ x hj' hl hi rfl hx' hs)
 ·obtain ⟨o1, a1, a2⟩ := live j oj h1 h2
  obtain ⟨o2, a3, a4⟩ := live k ok h3 h4
  exact hg.inj j k o1 o2 x a1 a2 a3 a4 h5 h6
 ·have hxb : x ≠ b := fun h => hno (by subst h; exact ⟨i, _, hi, rfl, hs⟩)
  exact ⟨heap_putObj_ne' hxb, rfl⟩
 ·obtain ⟨o2, a1, a2⟩ := live j o h1 h2
  exact .inl ⟨j, o2, a1, a2, h3⟩
theorem fresh_endM {e : Env} (hg : Good e) {w' : World} {o : Obj} {x : ObjX} (hw : w'.heap = e.w.heap.push o) (hos : w'.os = e.w.os) (htp : w'.tape = e.w.tape) (hout : w'.output = e.w.output)
 (hr : x.real o) {v : AVal} {c : Value} (k : Bool) (hv : v = .hnd k e.h.length) (hc : c = hval k e.w.heap.size) : Step e v (e.h ++ [.obj x]) c w' := by
 have hh : ∀ j, j ≠ e.h.length → (e.h ++ [AObj.obj x])[j]? = e.h[j]? := fun j hj => by
  rcases Nat.lt_or_ge j e.h.length with h | h
  ·rw [List.getElem?_append_left h]
  ·rw [List.getElem?_eq_none (by simp; omega), List.getElem?_eq_none h]
 have hi : (e.h ++ [AObj.obj x])[e.h.length]? = some (.obj x) := by simp
 have hm : ∀ o', e.h[e.h.length]? = some o' → OMono e (e.fresh w' e.h.length (e.h ++ [.obj x]) 0) e.h.length o' (.obj x) := fun o' h => by simp at h
 have hx := fresh_ext hg hw hh hi hm
 refine ⟨_, fresh_good hg hw (Nat.zero_le _) hh hi hm ⟨e.w.heap.size, o, by simp [Env.fresh], fresh_new hg hw hh hi hm, hr⟩, rfl, rfl, ?_, fresh_upd hg hw hh hi hos htp hout, hx⟩
 subst hv
 subst hc
 refine .hnd k _ _ (by cases k <;> rfl) ?_
 show objAt (e.h ++ [AObj.obj x])[e.h.length]? _
 rw [hi]
 exact ⟨e.w.heap.size, by simp [Env.fresh], rfl⟩
section
variable {e : Env} {P : Program} {T : Tab} (hT : TabOK P T) (hg : Good e)
include hT
theorem mapKinds_spec {t : Nat} {kk vk : IntKind} (h : mapKinds T t = some (kk, vk)) : ∃ k e, P.underlying t = some (.map k e) ∧ P.underlying k = some (.int kk) ∧ P.underlying e = some (.int vk) := by
 unfold mapKinds at h
 split at h
 ·rename_i ti hti
  obtain ⟨d, hu, hd⟩ := (hT _ _ hti).under
  split at h
  ·rename_i k e hk
   rw [hk] at hd
   simp only [DOK] at hd
   subst hd
   split at h
   ·rename_i tk htk
    obtain ⟨d2, hu2, hd2⟩ := (hT _ _ htk).under
    split at h
    ·rename_i k2 hk2
     rw [hk2] at hd2
     simp only [DOK] at hd2
     subst hd2
     split at h
     ·rename_i te hte
      obtain ⟨d3, hu3, hd3⟩ := (hT _ _ hte).under
      split at h
      ·rename_i k3 hk3
       rw [hk3] at hd3
       simp only [DOK] at hd3
       subst hd3
       cases h
       exact ⟨k, e, hu, hu2, hu3⟩
      ·cases h
     ·cases h
    ·cases h
   ·cases h
  ·cases h
 ·cases h
include hg
theorem aMakeMap_ok {t : Nat} {r : Option AVal} {cr : Option Value} (hr : OptR e r cr) : ARok e (aMakeMap T t r e.h) ((Instr.makeMap t cr).run P e.w) := by
 unfold aMakeMap
 split
 ·rename_i kk vk hmk
  obtain ⟨k, el, hu, _, _⟩ := mapKinds_spec hT hmk
  have hend : Step e (.hnd true e.h.length) (e.h ++ [.obj (.mp kk vk [])]) (.map (some e.w.heap.size)) (e.w.alloc (.map #[] 0)) :=
   fresh_endM hg (w' := e.w.alloc (.map #[] 0)) (o := .map #[] 0) (x := .mp kk vk []) rfl rfl rfl rfl rfl true rfl rfl
  split
  ·rcases hr with ⟨_, rfl⟩ | ⟨x, y, h, _⟩
   ·exact ⟨_, _, by simp [Instr.makeMap], hend⟩
   ·cases h
  ·rename_i k1 n
   rcases hr with ⟨h, _⟩ | ⟨x, y, h1, rfl, h3⟩
   ·cases h
   ·cases h1
    have hc := h3.int_inv
    subst hc
    exact ⟨_, _, by simp [Instr.makeMap, run_underlying hu, asInt, asIntOf], hend⟩
  ·trivial
 ·trivial
omit hT hg in
theorem findNow_none {kk : IntKind} (vk : IntKind) : ∀ (es : List (Int × Int)) (l : List MapEntry) (i : Nat) (n : Int), l.map (fun x => (x.key, x.val)) = es.map (fun x => (Value.int kk x.1, Value.int vk x.2)) → findM es n = none →
 Instr.findNow (.int kk) (.int kk n) l i = some none
 | [], [], i, n, _, _ => rfl
 | [], _ :: _, i, n, h, _ => by simp at h
 | _ :: _, [], i, n, h, _ => by simp at h
 | (k, v) :: es, x :: l, i, n, h, hf => by
   simp only [List.map_cons, List.cons.injEq, Prod.mk.injEq] at h
   obtain ⟨⟨h1, h2⟩, h3⟩ := h
   simp only [findM] at hf
   split at hf
   ·cases hf
   ·rename_i hd
    rw [decide_eq_false_iff_not] at hd
    simp only [Instr.findNow, h1, Instr.sameNow, if_true]
    rw [show (n == k) = false by simpa using hd]
    exact findNow_none vk es l (i + 1) n h3 hf
omit hT hg in
theorem findNow_some {kk vk : IntKind} : ∀ (es : List (Int × Int)) (l : List MapEntry) (i : Nat) (n v : Int), l.map (fun x => (x.key, x.val)) = es.map (fun x => (Value.int kk x.1, Value.int vk x.2)) → findM es n = some v →
 ∃ j, Instr.findNow (.int kk) (.int kk n) l i = some (some (j, .int vk v))
 | [], _, i, n, v, _, hf => by simp [findM] at hf
 | _ :: _, [], i, n, v, h, _ => by simp at h
 | (k, u) :: es, x :: l, i, n, v, h, hf => by
   simp only [List.map_cons, List.cons.injEq, Prod.mk.injEq] at h
   obtain ⟨⟨h1, h2⟩, h3⟩ := h
   simp only [findM] at hf
   simp only [Instr.findNow, h1, Instr.sameNow, if_true]
   split at hf
   ·rename_i hd
    rw [decide_eq_true_eq] at hd
    cases hf
    rw [show (n == k) = true by simpa using hd]
    exact ⟨i, by rw [h2]⟩
   ·rename_i hd
    rw [decide_eq_false_iff_not] at hd
    rw [show (n == k) = false by simpa using hd]
    exact findNow_some es l (i + 1) n v h3 hf
omit hT hg in
theorem same_kind {k k' : IntKind} (h : IntKind.same k k' = true) : k = k' := by
 cases k <;> cases k' <;> first | rfl | (simp [IntKind.same] at h)
omit hT hg in
theorem run_checkKey_int {w : World} {t : TypeId} {kk : IntKind} {n : Int} (em : Bool) (hu : P.underlying t = some (.int kk)) : (Instr.checkKey em 10000 t (.int kk n)).run P w = .ok () w := by
 rw [show (10000 : Nat) = 9999 + 1 from rfl, Instr.checkKey]
 simp [run_underlying hu]
omit hT in
theorem hnd_inv {i : Nat} {c : Value} (h : VR e (.hnd true i) c) {x : ObjX} (hi : e.h[i]? = some (.obj x)) : ∃ b o, c = .map (some b) ∧ e.sg i = some b ∧ e.w.heap[b]? = some o ∧ x.real o := by
 obtain ⟨b, o, h1, h2, h3⟩ := hg.obj i _ hi
 cases h with
 | pure _ _ h => cases h
 | hnd _ _ _ h4 h5 =>
   rw [hi] at h5
   obtain ⟨b', h6, h7⟩ := h5
   obtain rfl : b = b' := by rw [h1] at h6; exact Option.some.inj h6
   exact ⟨b, o, h7, h1, h2, h3⟩
theorem aMapUpd_ok {t : Nat} {m k v : AVal} {cm ck cv : Value} (hm : VR e m cm) (hk : VR e k ck) (hv : VR e v cv) : ARok e (aMapUpd T t m k v e.h) (((Instr.mapUpdate t cm ck cv).run P e.w).andThen fun _ w => .ok undef w) := by
 unfold aMapUpd
 split
 case h_2 => trivial
 rename_i kk vk hmk
 obtain ⟨kt, el, hu, hu2, hu3⟩ := mapKinds_spec hT hmk
 split
 case h_2 => trivial
 rename_i i
 split
 case h_2 => trivial
 rename_i kk' vk' es hi
 split
 case h_2 => trivial
 rename_i hs1
 split
 case h_2 => trivial
 rename_i hs2
 split
 case h_2 => trivial
 rename_i k1 n
 split
 case h_2 => trivial
 rename_i hs3
 split
 case h_2 => trivial
 rename_i v1 x
 split
 case h_2 => trivial
 rename_i hs4
 split
 case h_2 => trivial
 rename_i hf
 have := same_kind hs1; have := same_kind hs2; have := same_kind hs3; have := same_kind hs4
 subst_vars
 obtain ⟨b, o, hc, h1, h2, h3⟩ := hnd_inv hg hm hi
 have := hk.int_inv; have := hv.int_inv
 subst_vars
 cases o with
 | map es' clock =>
   have hfn := findNow_none _ es es'.toList 0 n h3 hf
   have hrun : (Instr.mapUpdate t (.map (some b)) (.int k1 n) (.int v1 x)).run P e.w = .ok () (e.w.putObj b (.map (es'.push { key := .int k1 n, val := .int v1 x, born := clock }) (clock + 1))) := by
    simp only [Instr.mapUpdate, Sem.run_bind, run_underlying hu, Result.andThen_ok, run_getObj_map e.w b es' clock h2, run_checkKey_int false hu2, Instr.findKey, run_underlying hu2, hfn, Sem.run_pure]
    simp [setObj, Sem.run, h2, World.putObj]
   obtain ⟨g1, u1, x1⟩ := obj_put hg (x' := .mp k1 v1 (es ++ [(n, x)])) (o' := .map (es'.push { key := .int k1 n, val := .int v1 x, born := clock }) (clock + 1)) hi h1 h2 h3 (by
    show List.map _ _ = _
    rw [Array.toList_push, List.map_append, List.map_append, h3]; rfl)
   refine ⟨undef, _, by rw [hrun]; rfl, ⟨e.w.putObj b _, e.sg, _, e.ps⟩, g1, rfl, rfl, ?_, u1, x1⟩
   exact .pure _ _ .und
 | _ => exact h3.elim
theorem aLookup_ok {t : Nat} {m k : AVal} {cm ck : Value} {ok : Bool} (hm : VR e m cm) (hk : VR e k ck) : ARok e (aLookup T t m k ok e.h) ((Instr.lookup t cm ck ok).run P e.w) := by
 unfold aLookup
 split
 case h_2 => trivial
 rename_i kk vk hmk
 obtain ⟨kt, el, hu, hu2, hu3⟩ := mapKinds_spec hT hmk
 split
 case h_2 => trivial
 rename_i i
 split
 case h_2 => trivial
 rename_i kk' vk' es hi
 split
 case h_2 => trivial
 rename_i hs1
 split
 case h_2 => trivial
 rename_i k1 n
 split
 case h_2 => trivial
 rename_i hs3
 split
 case h_2 => trivial
 rename_i v hf
 have := same_kind hs1; have := same_kind hs3
 subst_vars
 obtain ⟨b, o, hc, h1, h2, h3⟩ := hnd_inv hg hm hi
 have := hk.int_inv
 subst_vars
 cases o with
 | map es' clock =>
   obtain ⟨j, hfn⟩ := findNow_some es es'.toList 0 n v h3 hf
   have hrun : (Instr.lookup t (.map (some b)) (.int k1 n) ok).run P e.w = .ok (if ok then .tuple #[.int vk' v, .bool true] else .int vk' v) e.w := by
    simp only [Instr.lookup, Sem.run_bind, run_underlying hu, Result.andThen_ok, run_getObj_map e.w b es' clock h2, run_checkKey_int _ hu2, Instr.findKey, run_underlying hu2, hfn, Sem.run_pure]
   split
   ·exact ARok.same hg (.pure _ _ (.int _ _)) hrun
   ·refine ARok.same hg (.tup _ _ rfl (fun i hi => ?_)) hrun
    match i, hi with
    | 0, _ => exact .pure _ _ (.int _ _)
    | 1, _ => exact .pure _ _ (.bool _)
 | _ => exact h3.elim
end
end Go.AL
