/-
  AL: what an abstract value says of a concrete one, in a world: relations, and how they last while the world goes on.
-/
import Derived.Test.YtnnpookoencpnaaAlDefs
namespace Go.AL
open Go

def cellsSize (w : World) (b : Nat) : Nat := match w.heap[b]? with
  | some (.cells cs _ _) => cs.size
  | _ => 0

/-! ### The real hooks, as far as values go -/
def rFi : AVal → Int | .int _ n => n | _ => 0
def rFb : AVal → Bool | .bool b => b | _ => false
def rFs : AVal → List UInt8 | .str s => s | _ => []
def rFl : AVal → List Int | .ls (.il _ l) _ => l | _ => []
def rFg : AVal → List AVal | .ls (.gl _ l) _ => l | _ => []
def rFc (x : AVal) (j : Nat) : AVal := x.cells.getD j .junk
def rI2 (op : BinOp) (k : IntKind) (a b : Int) : Int := match op with
  | .add => k.wrap (a + b)
  | .sub => k.wrap (a - b)
  | .mul => k.wrap (a * b)
  | .quo => k.wrap (a.tdiv b)
  | .rem => a.tmod b
  | .and => k.wrap (BitVec.ofInt k.bits a &&& BitVec.ofInt k.bits b).toNat
  | .or => k.wrap (BitVec.ofInt k.bits a ||| BitVec.ofInt k.bits b).toNat
  | .xor => k.wrap (BitVec.ofInt k.bits a ^^^ BitVec.ofInt k.bits b).toNat
  | .andNot => k.wrap (BitVec.ofInt k.bits a &&& ~~~(BitVec.ofInt k.bits b)).toNat
  | .shl => k.wrap (a * 2 ^ (min b.toNat k.bits))
  | .shr => a.fdiv (2 ^ (min b.toNat k.bits))
  | _ => 0
def rC2 (op : BinOp) (a b : Int) : Bool := match op with
  | .eql => a == b
  | .neq => a != b
  | .lss => a < b
  | .leq => a ≤ b
  | .gtr => a > b
  | .geq => a ≥ b
  | _ => false
def rU1 (op : UnOp) (k : IntKind) (n : Int) : Int := match op with
  | .neg => k.wrap (0 - n)
  | .xor => k.wrap (BitVec.ofInt k.bits (if k.signed then -1 else k.max) ^^^ BitVec.ofInt k.bits n).toNat
  | _ => n
def rSc (op : BinOp) (x y : List UInt8) : Bool :=
  let eq := x == y
  let lt := Op.bytesLess x y
  match op with
  | .eql => eq
  | .neq => !eq
  | .lss => lt
  | .leq => lt || eq
  | .gtr => !(lt || eq)
  | .geq => !lt
  | _ => false
def rSub {α : Type} (l : List α) (a b : Int) : List α := (l.drop a.toNat).take (b - a).toNat
def rNd : Need → Prop
  | .idx i n => 0 ≤ i ∧ i < n
  | .bnd a b n => 0 ≤ a ∧ a ≤ b ∧ b ≤ n
  | .bnd3 a b d n => 0 ≤ a ∧ a ≤ b ∧ b ≤ d ∧ d ≤ n
  | .rooml lo n b => lo = 0 ∧ 0 ≤ n ∧ n * b ≤ 140737488355328 ∧ n ≤ 140737488355328
  | .appn lo hi n m b => lo = 0 ∧ hi = n ∧ 0 ≤ m ∧ m * b ≤ 140737488355328 ∧ m ≤ 140737488355328
  | .bnd4 a b n => 0 ≤ a ∧ a = b ∧ b ≤ n
  | .nz n => n ≠ 0
  | .ge0 n => 0 ≤ n
  | .room n b => 0 ≤ n ∧ n * b ≤ 140737488355328 ∧ n ≤ 140737488355328
  | .srm n => n ≤ 9223372036854775807
  | .ne n => 0 < n
/-- The real data hooks; calls, loops and the end are given. -/
def rPr (call : FuncId → List AVal → Heap → (AVal → Heap → Prop) → Prop) (calld : FuncId → List AVal → Heap → (AVal → Prop) → Prop)
    (callv : AVal → List AVal → Heap → (AVal → Heap → Prop) → Prop) (callvd : AVal → List AVal → Heap → (AVal → Prop) → Prop)
    (loop : (St → (Exit → St → Prop) → Prop) → St → (Exit → St → Prop) → Prop)
    (rfun : AVal → Array Tmp → Code → Code → St → (Exit → St → Prop) → Prop)
    (fin : (AVal → Heap → Prop) → AVal → Heap → Prop) (rowq : Nat → Bool) : Pr where
  i2 := rI2
  c2 := rC2
  u1 := rU1
  cv := fun k n => k.wrap n
  mx := fun a b => if b > a then b else a
  mn := fun a b => if b < a then b else a
  ad := fun a b => a + b
  sbt := fun a b => a - b
  bn := fun b => !b
  bq := fun a b => a == b
  ba := fun a b => a && b
  lnI := fun l => l.length
  gtI := fun l i => l.getD i.toNat 0
  apI := fun l m => l ++ m
  sbI := rSub
  stI := fun l i v => l.set i.toNat v
  rpI := fun n v => List.replicate n.toNat v
  lnG := fun l => l.length
  gtG := fun l i => l.getD i.toNat .junk
  apG := fun l m => l ++ m
  sbG := rSub
  stG := fun l i v => l.set i.toNat v
  rpG := fun n v => List.replicate n.toNat v
  fi := rFi
  fb := rFb
  fs := rFs
  fl := rFl
  fg := rFg
  fc := rFc
  sln := fun s => s.length
  sgt := fun s i => (s.getD i.toNat 0).toNat
  sap := fun s t => s ++ t
  ssb := rSub
  sc := rSc
  b2s := fun l => l.map fun n => n.toNat.toUInt8
  s2b := fun s => s.map fun c => c.toNat
  nd := rNd
  call := call
  calld := calld
  callv := callv
  callvd := callvd
  loop := loop
  rfun := rfun
  fin := fin
  rowq := rowq

mutual
def etaR : Sh → AVal → AVal
  | .int k, x => .int k (rFi x)
  | .bool, x => .bool (rFb x)
  | .str, x => .str (rFs x)
  | .li k, x => .ls (.il k (rFl x)) .any
  | .lg s, x => .ls (.gl s (rFg x)) .any
  | .rc l, x => .agg (etasR l 0 x)
  | .any, x => x
def etasR : List Sh → Nat → AVal → List AVal
  | [], _, _ => []
  | s :: r, j, x => etaR s (rFc x j) :: etasR r (j + 1) x
end
/-- A list's elements have its shape. -/
def LX.fit : LX → Prop
  | .gl s xs => ∀ x ∈ xs, etaR s x = x
  | _ => True
abbrev LX.n (q : LX) : Nat := q.toL.length
abbrev LX.at_ (q : LX) (i : Nat) : AVal := q.toL.getD i .junk

/-- The data hooks are the real ones. -/
structure DataOK (p : Pr) : Prop where
  i2 : p.i2 = rI2
  c2 : p.c2 = rC2
  u1 : p.u1 = rU1
  cv : p.cv = fun k n => k.wrap n
  mx : p.mx = fun a b => if b > a then b else a
  mn : p.mn = fun a b => if b < a then b else a
  ad : p.ad = fun a b => a + b
  sbt : p.sbt = fun a b => a - b
  bn : p.bn = fun b => !b
  bq : p.bq = fun a b => a == b
  ba : p.ba = fun a b => a && b
  lnI : p.lnI = fun l => l.length
  gtI : p.gtI = fun l i => l.getD i.toNat 0
  apI : p.apI = fun l m => l ++ m
  sbI : p.sbI = rSub
  stI : p.stI = fun l i v => l.set i.toNat v
  rpI : p.rpI = fun n v => List.replicate n.toNat v
  lnG : p.lnG = fun l => l.length
  gtG : p.gtG = fun l i => l.getD i.toNat .junk
  apG : p.apG = fun l m => l ++ m
  sbG : p.sbG = rSub
  stG : p.stG = fun l i v => l.set i.toNat v
  rpG : p.rpG = fun n v => List.replicate n.toNat v
  fi : p.fi = rFi
  fb : p.fb = rFb
  fs : p.fs = rFs
  fl : p.fl = rFl
  fg : p.fg = rFg
  fc : p.fc = rFc
  sln : p.sln = fun s => s.length
  sgt : p.sgt = fun s i => (s.getD i.toNat 0).toNat
  sap : p.sap = fun s t => s ++ t
  ssb : p.ssb = rSub
  sc : p.sc = rSc
  b2s : p.b2s = fun l => l.map fun n => n.toNat.toUInt8
  nd : p.nd = rNd
mutual
theorem eta_real {p : Pr} (hp : DataOK p) : ∀ (s : Sh) (x : AVal), eta p s x = etaR s x
  | .int k, x => by simp only [eta, etaR, hp.fi]
  | .bool, x => by simp only [eta, etaR, hp.fb]
  | .str, x => by simp only [eta, etaR, hp.fs]
  | .li k, x => by simp only [eta, etaR, hp.fl]
  | .lg s, x => by simp only [eta, etaR, hp.fg]
  | .rc l, x => by simp only [eta, etaR]; rw [etas_real hp l 0 x]
  | .any, x => by simp only [eta, etaR]
theorem etas_real {p : Pr} (hp : DataOK p) : ∀ (l : List Sh) (j : Nat) (x : AVal), etas p l j x = etasR l j x
  | [], _, _ => by simp only [etas, etasR]
  | s :: r, j, x => by simp only [etas, etasR, hp.fc]; rw [eta_real hp s, etas_real hp r]
end
theorem get_real {p : Pr} (hp : DataOK p) {q : LX} {i : Int} (hf : q.fit) (h0 : 0 ≤ i) (h1 : i < q.n) : q.get p i = q.at_ i.toNat := by
  cases q with
  | nl => simp [LX.n, LX.toL] at h1; omega
  | il k l =>
    simp only [LX.n, LX.toL, List.length_map] at h1
    have : i.toNat < l.length := by omega
    simp [LX.get, LX.at_, LX.toL, hp.gtI, List.getD, this]
  | gl s xs =>
    simp only [LX.n, LX.toL] at h1
    have hi : i.toNat < xs.length := by omega
    simp only [LX.get, LX.at_, LX.toL, hp.gtG, eta_real hp]
    refine hf _ ?_
    simp [List.getD, hi]
theorem len_real {p : Pr} (hp : DataOK p) (q : LX) : q.len p = q.n := by
  cases q <;> simp [LX.len, LX.n, LX.toL, hp.lnI, hp.lnG]
/-- VALUES THAT NOTHING CAN TURN: what they lead to lies in cells that are written no more ('ps': how many first cells of a block are). -/
inductive PVR (w : World) (ps : Nat → Nat) : AVal → Value → Prop
  | bool (b : Bool) : PVR w ps (.bool b) (.bool b)
  | int (k : IntKind) (n : Int) : PVR w ps (.int k n) (.int k n)
  | str (s : ByteArray) : PVR w ps (.str s.data.toList) (.string s)
  | lsnil (q : LX) (c : Cap) (hq : q.n = 0) (hf : q.fit) (hc : c = .any ∨ c = .nil) : PVR w ps (.ls q c) (.slice none 0 0)
  | lse (q : LX) (a : Addr) (hq : q.n = 0) (hf : q.fit) : PVR w ps (.ls q .any) (.slice (some a) 0 0)
  | ls (q : LX) (b off cap : Nat) (cv : Nat → Nat → Value) (hcap : q.n ≤ cap) (hf : q.fit) (hk : ∀ i, i < q.n → (q.at_ i).cells.length = q.k)
      (hp : q.n ≠ 0 → off + q.n * q.k ≤ ps b)
      (hc : ∀ i j, i < q.n → j < q.k → w.cell? ⟨b, off + i * q.k + j, none⟩ = some (cv i j))
      (h1 : ∀ i j, i < q.n → j < q.k → (cv i j).oneCell' = true)
      (hv : ∀ i j, i < q.n → j < q.k → PVR w ps ((q.at_ i).cells.getD j .junk) (cv i j)) : PVR w ps (.ls q .any) (.slice (some ⟨b, off, none⟩) q.n cap)
  | pp (xs : List AVal) (b off : Nat) (cv : Nat → Value) (hp : xs ≠ [] → off + xs.length ≤ ps b) (hc : ∀ j, j < xs.length → w.cell? ⟨b, off + j, none⟩ = some (cv j))
      (hv : ∀ j, j < xs.length → PVR w ps (xs.getD j .junk) (cv j)) : PVR w ps (.pp xs) (.pointer (some ⟨b, off, none⟩))
  | nilp : PVR w ps .nilp (.pointer none)
  | agg (vs : List AVal) (cs : Array Value) (hl : vs.length = cs.size) (hv : ∀ i, i < vs.length → PVR w ps (vs.getD i .junk) (cs.getD i undef)) : PVR w ps (.agg vs) (.agg cs)
  | tup (vs : List AVal) (cs : Array Value) (hl : vs.length = cs.size) (hv : ∀ i, i < vs.length → PVR w ps (vs.getD i .junk) (cs.getD i undef)) : PVR w ps (.tup vs) (.tuple cs)
  | clo (f : FuncId) (fs cs : List AVal) (gs ds : Array Value) (h1 : fs.length = gs.size) (h2 : cs.length = ds.size)
      (hf : ∀ i, i < fs.length → PVR w ps (fs.getD i .junk) (gs.getD i undef)) (hc : ∀ i, i < cs.length → PVR w ps (cs.getD i .junk) (ds.getD i undef)) :
      PVR w ps (.clo (.func f) fs cs) (.func (.func f) gs ds)
  | nilf : PVR w ps .nilf .nilFunc
  | iface (t : TypeId) (v : AVal) (c : Value) (h : PVR w ps v c) : PVR w ps (.iface t v) (.iface t c)
  | nili : PVR w ps .nili .nilIface
  | und : PVR w ps .und undef
  | junk (c : Value) : PVR w ps .junk c

structure Env where
  w : World
  sg : Nat → Option Nat
  h : Heap
  ps : Nat → Nat

/-- A token's claim. -/
def tokAt (o : Option AObj) (n : Nat) (R : Prop) : Prop := match o with
  | some (.tok n') => n ≤ n' ∧ (n = n' → R)
  | some (.dead n') => n ≤ n'
  | _ => False
def rwAt (o : Option AObj) (g : Nat) (R : LX → Prop) : Prop := match o with
  | some (.rw g' q) => g ≤ g' ∧ (g = g' → R q)
  | some (.dead g') => g ≤ g'
  | _ => False
def boxAt (o : Option AObj) (R : List AVal → Prop) : Prop := match o with
  | some (.box vs) => R vs
  | some (.dead _) => True
  | _ => False
def loopAt (o : Option AObj) (R : Prop) : Prop := match o with
  | some (.loop _) => R
  | some (.dead _) => True
  | _ => False
/-- The slice ends where its token's block is free from, or has no room. -/
def endOK (e : Env) (i k : Nat) : Value → Prop
  | .slice none _ _ => True
  | .slice (some a) len cap => len = cap ∨ (e.sg i = some a.block ∧ e.ps a.block = a.off + len * k ∧ a.off + cap * k ≤ cellsSize e.w a.block ∧ 0 < k)
  | _ => False

inductive VR (e : Env) : AVal → Value → Prop
  | pure (v : AVal) (c : Value) (h : PVR e.w e.ps v c) : VR e v c
  | tok (q : LX) (i n : Nat) (c : Value) (h : PVR e.w e.ps (.ls q .any) c) (ht : tokAt e.h[i]? n (endOK e i q.k c)) : VR e (.ls q (.tok i n)) c
  | sl (i g : Nat) (lo hi : Int) (c : Value) (h1 : c.oneCell' = true) (h : rwAt e.h[i]? g fun q => 0 ≤ lo ∧ lo ≤ hi ∧ hi ≤ q.n ∧
      ((c = .slice none 0 0 ∧ lo = 0 ∧ hi = 0 ∧ q.n = 0) ∨
        ∃ b cap off : Nat, c = .slice (some ⟨b, off, none⟩) (hi - lo).toNat cap ∧ e.sg i = some b ∧ q.n - lo.toNat ≤ cap ∧
          (cap = 0 ∨ (off = lo.toNat * q.k ∧ off + cap * q.k ≤ cellsSize e.w b)))) : VR e (.sl i g lo hi) c
  | ptr (i off : Nat) (c : Value) (h1 : c.oneCell' = true) (h : boxAt e.h[i]? fun vs => ∃ b, c = .pointer (some ⟨b, off, none⟩) ∧ e.sg i = some b ∧ off ≤ vs.length) : VR e (.ptr i off) c
  | pe (i g : Nat) (ix : Int) (off : Nat) (c : Value) (h1 : c.oneCell' = true) (h : rwAt e.h[i]? g fun q => 0 ≤ ix ∧ ix < q.n ∧
      ∃ b, c = .pointer (some ⟨b, ix.toNat * q.k + off, none⟩) ∧ e.sg i = some b) : VR e (.pe i g ix off) c
  | agg (vs : List AVal) (cs : Array Value) (hl : vs.length = cs.size) (hv : ∀ i, i < vs.length → VR e (vs.getD i .junk) (cs.getD i undef)) : VR e (.agg vs) (.agg cs)
  | tup (vs : List AVal) (cs : Array Value) (hl : vs.length = cs.size) (hv : ∀ i, i < vs.length → VR e (vs.getD i .junk) (cs.getD i undef)) : VR e (.tup vs) (.tuple cs)
  | clo (f : FuncId) (fs cs : List AVal) (gs ds : Array Value) (h1 : fs.length = gs.size) (h2 : cs.length = ds.size)
      (hf : ∀ i, i < fs.length → VR e (fs.getD i .junk) (gs.getD i undef)) (hc : ∀ i, i < cs.length → VR e (cs.getD i .junk) (ds.getD i undef)) :
      VR e (.clo (.func f) fs cs) (.func (.func f) gs ds)
  | yld (i : Nat) (c : Value) (h1 : c.oneCell' = true) (h : loopAt e.h[i]? (∃ l, e.sg i = some l ∧ c = .func (.yield l) #[] #[])) : VR e (.yld i) c
  | iface (t : TypeId) (v : AVal) (c : Value) (h : VR e v c) : VR e (.iface t v) (.iface t c)

def LoopA.of (L : LoopA) (r : Loop) : Prop := r.state = L.st ∧ r.pending = L.pend ∧ r.params = L.ps ∧ r.assign = L.assign ∧ r.body = L.body ∧ r.tmps.size = L.nt
def AObj.live : AObj → Bool
  | .dead _ => false
  | _ => true
def ObjOK (e : Env) (i : Nat) : AObj → Prop
  | .box vs => ∃ b cs el, e.sg i = some b ∧ e.w.heap[b]? = some (.cells cs el (0, 0)) ∧ vs.length = cs.size ∧ e.ps b = 0 ∧
      ∀ j, j < vs.length → VR e (vs.getD j .junk) (cs.getD j undef)
  | .rw _ q => (q.n = 0 ∧ e.sg i = none) ∨ ∃ b cs el, e.sg i = some b ∧ e.w.heap[b]? = some (.cells cs el (0, 0)) ∧ q.n * q.k ≤ cs.size ∧ e.ps b = 0 ∧
      q.fit ∧ (∀ i, i < q.n → (q.at_ i).cells.length = q.k) ∧ ∀ i j, i < q.n → j < q.k → VR e ((q.at_ i).cells.getD j .junk) (cs.getD (i * q.k + j) undef) ∧ (cs.getD (i * q.k + j) undef).oneCell' = true
  | .tok _ => ∀ b, e.sg i = some b → ∃ cs el, e.w.heap[b]? = some (.cells cs el (0, 0))
  | .loop L => ∃ b r, e.sg i = some b ∧ e.w.heap[b]? = some (.loop r) ∧ L.of r ∧ ∀ t, VR e (tmL L.l t) (r.tmps.getD t undef)
  | .dead _ => True
/-- A block is some live object's. -/
def Owned (e : Env) (b : Nat) : Prop := ∃ i o, e.h[i]? = some o ∧ o.live = true ∧ e.sg i = some b
structure Good (e : Env) : Prop where
  obj : ∀ i o, e.h[i]? = some o → ObjOK e i o
  inj : ∀ i j oi oj b, e.h[i]? = some oi → oi.live = true → e.h[j]? = some oj → oj.live = true → e.sg i = some b → e.sg j = some b → i = j
  ps : ∀ b, e.ps b ≤ cellsSize e.w b

/-- One object later. -/
def OMono (e e' : Env) (i : Nat) : AObj → AObj → Prop
  | .box vs, .box vs' => e'.sg i = e.sg i ∧ vs'.length = vs.length
  | .box _, .dead _ => True
  | .rw g q, .rw g' q' => g ≤ g' ∧ (g = g' → e'.sg i = e.sg i ∧ q'.n = q.n ∧ q'.k = q.k)
  | .rw g _, .dead g' => g ≤ g'
  | .tok n, .tok n' => n ≤ n' ∧ (n = n' → e'.sg i = e.sg i ∧ ∀ b, e.sg i = some b → e'.ps b = e.ps b)
  | .tok n, .dead n' => n ≤ n'
  | .loop _, .loop _ => e'.sg i = e.sg i
  | .loop _, .dead _ => True
  | .dead g, .dead g' => g ≤ g'
  | _, _ => False
/-- The first n objects later; cells that are written no more. -/
structure Ext (n : Nat) (e e' : Env) : Prop where
  obj : ∀ i o, i < n → e.h[i]? = some o → ∃ o', e'.h[i]? = some o' ∧ OMono e e' i o o'
  ps : ∀ b, e.ps b ≤ e'.ps b
  cell : ∀ b o, o < e.ps b → e'.w.cell? ⟨b, o, none⟩ = e.w.cell? ⟨b, o, none⟩
  size : ∀ b, cellsSize e.w b ≤ cellsSize e'.w b
/-- What may have been written: what was owned. -/
structure Upd (e e' : Env) : Prop where
  os : e'.w.os = e.w.os
  tape : e'.w.tape = e.w.tape
  output : e'.w.output = e.w.output
  size : e.w.heap.size ≤ e'.w.heap.size
  frame : ∀ b, b < e.w.heap.size → ¬ Owned e b → e'.w.heap[b]? = e.w.heap[b]? ∧ e'.ps b = e.ps b
  own : ∀ b, Owned e' b → Owned e b ∨ e.w.heap.size ≤ b

theorem OMono.refl (e : Env) (i : Nat) (o : AObj) : OMono e e i o o := by
  cases o <;> simp [OMono]
theorem Ext.refl (n : Nat) (e : Env) : Ext n e e := ⟨fun i o _ h => ⟨o, h, OMono.refl e i o⟩, fun _ => Nat.le_refl _, fun _ _ _ => rfl, fun _ => Nat.le_refl _⟩
theorem Upd.refl (e : Env) : Upd e e := ⟨rfl, rfl, rfl, Nat.le_refl _, fun _ _ _ => ⟨rfl, rfl⟩, fun _ h => .inl h⟩
theorem OMono.trans {e e1 e2 : Env} {i : Nat} {o o1 o2 : AObj} (h : OMono e e1 i o o1) (k : OMono e1 e2 i o1 o2) : OMono e e2 i o o2 := by
  cases o <;> cases o1 <;> simp only [OMono] at h <;> cases o2 <;> simp only [OMono] at k ⊢
  · exact ⟨k.1.trans h.1, k.2.trans h.2⟩
  · refine ⟨Nat.le_trans h.1 k.1, fun e => ?_⟩
    have e1 := h.2 (by omega)
    have e2 := k.2 (by omega)
    exact ⟨e2.1.trans e1.1, e2.2.1.trans e1.2.1, e2.2.2.trans e1.2.2⟩
  · exact Nat.le_trans h.1 k
  · exact Nat.le_trans h k
  · refine ⟨Nat.le_trans h.1 k.1, fun e => ?_⟩
    have e1 := h.2 (by omega)
    have e2 := k.2 (by omega)
    exact ⟨e2.1.trans e1.1, fun b hb => (e2.2 b (e1.1.trans hb)).trans (e1.2 b hb)⟩
  · exact Nat.le_trans h.1 k
  · exact Nat.le_trans h k
  · exact k.trans h
  · exact Nat.le_trans h k
theorem Ext.trans {n : Nat} {e e1 e2 : Env} (h : Ext n e e1) (k : Ext n e1 e2) : Ext n e e2 where
  obj := fun i o hi ho => by
    obtain ⟨o1, h1, m1⟩ := h.obj i o hi ho
    obtain ⟨o2, h2, m2⟩ := k.obj i o1 hi h1
    exact ⟨o2, h2, m1.trans m2⟩
  ps := fun b => Nat.le_trans (h.ps b) (k.ps b)
  cell := fun b o ho => (k.cell b o (Nat.lt_of_lt_of_le ho (h.ps b))).trans (h.cell b o ho)
  size := fun b => Nat.le_trans (h.size b) (k.size b)
theorem Ext.le {n m : Nat} {e e' : Env} (h : Ext n e e') (hm : m ≤ n) : Ext m e e' := ⟨fun i o hi => h.obj i o (Nat.lt_of_lt_of_le hi hm), h.ps, h.cell, h.size⟩
theorem Upd.trans {e e1 e2 : Env} (h : Upd e e1) (k : Upd e1 e2) : Upd e e2 where
  os := k.os.trans h.os
  tape := k.tape.trans h.tape
  output := k.output.trans h.output
  size := Nat.le_trans h.size k.size
  frame := fun b hb ho => by
    have h1 := h.frame b hb ho
    have h2 := k.frame b (Nat.lt_of_lt_of_le hb h.size) (fun hc => by
      rcases h.own b hc with h | h
      · exact ho h
      · omega)
    exact ⟨h2.1.trans h1.1, h2.2.trans h1.2⟩
  own := fun b hb => by
    rcases k.own b hb with h1 | h1
    · rcases h.own b h1 with h2 | h2
      · exact .inl h2
      · exact .inr h2
    · exact .inr (Nat.le_trans h.size h1)

/-! ### What lasts -/
theorem PVR.mono {w w' : World} {ps ps' : Nat → Nat} (hps : ∀ b, ps b ≤ ps' b) (hcell : ∀ b o, o < ps b → w'.cell? ⟨b, o, none⟩ = w.cell? ⟨b, o, none⟩)
    {v : AVal} {c : Value} (h : PVR w ps v c) : PVR w' ps' v c := by
  induction h with
  | bool b => exact .bool b
  | int k n => exact .int k n
  | str s => exact .str s
  | lsnil q c hq hf hc => exact .lsnil q c hq hf hc
  | lse q a hq hf => exact .lse q a hq hf
  | ls q b off cap cv hcap hf hk hp hc h1 hv ih =>
    refine .ls q b off cap cv hcap hf hk (fun h => Nat.le_trans (hp h) (hps b)) (fun i j hi hj => ?_) h1 ih
    rw [hcell]
    · exact hc i j hi hj
    · have := hp (by omega)
      have h2 : (i + 1) * q.k ≤ q.n * q.k := Nat.mul_le_mul_right _ hi
      rw [Nat.add_mul] at h2
      omega
  | pp xs b off cv hp hc hv ih =>
    refine .pp xs b off cv (fun h => Nat.le_trans (hp h) (hps b)) (fun j hj => ?_) ih
    rw [hcell]
    · exact hc j hj
    · have := hp (by intro h; rw [h] at hj; simp at hj)
      omega
  | nilp => exact .nilp
  | agg vs cs hl _ ih => exact .agg vs cs hl ih
  | tup vs cs hl _ ih => exact .tup vs cs hl ih
  | clo f fs cs gs ds h1 h2 _ _ ih1 ih2 => exact .clo f fs cs gs ds h1 h2 ih1 ih2
  | nilf => exact .nilf
  | iface t v c _ ih => exact .iface t v c ih
  | nili => exact .nili
  | und => exact .und
  | junk c => exact .junk c

theorem endOK.mono {e e' : Env} {i k : Nat} {c : Value} (hs : e'.sg i = e.sg i) (hp : ∀ b, e.sg i = some b → e'.ps b = e.ps b) (hz : ∀ b, cellsSize e.w b ≤ cellsSize e'.w b)
    (h : endOK e i k c) : endOK e' i k c := by
  unfold endOK at *
  split
  · trivial
  · rename_i a len cap
    rcases h with h | ⟨h1, h2, h3, h4⟩
    · exact .inl h
    · exact .inr ⟨hs.trans h1, (hp _ h1).trans h2, Nat.le_trans h3 (hz _), h4⟩
  · rename_i h1 h2
    split at h
    · exact (h1 _ _ rfl).elim
    · exact (h2 _ _ _ rfl).elim
    · exact h
theorem VR.mono {n : Nat} {e e' : Env} (hn : e.h.length ≤ n) (hx : Ext n e e') {v : AVal} {c : Value} (h : VR e v c) : VR e' v c := by
  have look : ∀ i o, e.h[i]? = some o → ∃ o', e'.h[i]? = some o' ∧ OMono e e' i o o' := fun i o ho => by
    have : i < e.h.length := (List.getElem?_eq_some_iff.1 ho).1
    exact hx.obj i o (by omega) ho
  induction h with
  | pure v c h => exact .pure v c (h.mono hx.ps hx.cell)
  | tok q i n c h ht =>
    refine .tok q i n c (h.mono hx.ps hx.cell) ?_
    unfold tokAt at ht
    split at ht
    · rename_i n' ho
      obtain ⟨o', ho', hm⟩ := look i _ ho
      rw [ho']
      cases o' <;> simp only [OMono] at hm
      · refine ⟨by omega, fun heq => ?_⟩
        have hm2 := hm.2 (by omega)
        exact (ht.2 (by omega)).mono hm2.1 hm2.2 hx.size
      · simp only [tokAt]; omega
    · rename_i n' ho
      obtain ⟨o', ho', hm⟩ := look i _ ho
      rw [ho']
      cases o' <;> simp only [OMono] at hm
      simp only [tokAt]; omega
    · exact ht.elim
  | sl i g lo hi c h1 h =>
    refine .sl i g lo hi c h1 ?_
    unfold rwAt at h
    split at h
    · rename_i g' q ho
      obtain ⟨o', ho', hm⟩ := look i _ ho
      rw [ho']
      cases o' <;> simp only [OMono] at hm
      · rename_i g2 q2
        refine ⟨by omega, fun heq => ?_⟩
        obtain ⟨hs, hq, hk⟩ := hm.2 (by omega)
        have h2 := h.2 (by omega)
        obtain ⟨a1, a2, a3, a4⟩ := h2
        refine ⟨a1, a2, by omega, ?_⟩
        rcases a4 with a4 | ⟨b, cap, off, r1, r2, r3, r4⟩
        · exact .inl ⟨a4.1, a4.2.1, a4.2.2.1, by omega⟩
        · refine .inr ⟨b, cap, off, r1, by rw [hs]; exact r2, by rw [hq]; exact r3, ?_⟩
          rcases r4 with r4 | r4
          · exact .inl r4
          · rw [hk]; exact .inr ⟨r4.1, Nat.le_trans r4.2 (hx.size b)⟩
      · simp only [rwAt]; omega
    · rename_i g' ho
      obtain ⟨o', ho', hm⟩ := look i _ ho
      rw [ho']
      cases o' <;> simp only [OMono] at hm
      simp only [rwAt]; omega
    · exact h.elim
  | ptr i off c h1 h =>
    refine .ptr i off c h1 ?_
    unfold boxAt at h
    split at h
    · rename_i vs ho
      obtain ⟨o', ho', hm⟩ := look i _ ho
      rw [ho']
      cases o' <;> simp only [OMono] at hm
      · obtain ⟨b, r1, r2, r3⟩ := h
        exact ⟨b, r1, by rw [hm.1]; exact r2, by rw [hm.2]; exact r3⟩
      · trivial
    · rename_i ho
      obtain ⟨o', ho', hm⟩ := look i _ ho
      rw [ho']
      cases o' <;> simp only [OMono] at hm
      trivial
    · exact h.elim
  | pe i g ix off c h1 h =>
    refine .pe i g ix off c h1 ?_
    unfold rwAt at h
    split at h
    · rename_i g' q ho
      obtain ⟨o', ho', hm⟩ := look i _ ho
      rw [ho']
      cases o' <;> simp only [OMono] at hm
      · refine ⟨by omega, fun heq => ?_⟩
        obtain ⟨hs, hq, hk⟩ := hm.2 (by omega)
        obtain ⟨a1, a2, b, r1, r2⟩ := h.2 (by omega)
        exact ⟨a1, by omega, b, by rw [hk]; exact r1, by rw [hs]; exact r2⟩
      · simp only [rwAt]; omega
    · rename_i g' ho
      obtain ⟨o', ho', hm⟩ := look i _ ho
      rw [ho']
      cases o' <;> simp only [OMono] at hm
      simp only [rwAt]; omega
    · exact h.elim
  | agg vs cs hl _ ih => exact .agg vs cs hl ih
  | tup vs cs hl _ ih => exact .tup vs cs hl ih
  | clo f fs cs gs ds h1 h2 _ _ ih1 ih2 => exact .clo f fs cs gs ds h1 h2 ih1 ih2
  | yld i c h1 h =>
    refine .yld i c h1 ?_
    unfold loopAt at h
    split at h
    · rename_i r ho
      obtain ⟨o', ho', hm⟩ := look i _ ho
      rw [ho']
      cases o' <;> simp only [OMono] at hm
      · obtain ⟨l, r1, r2⟩ := h
        exact ⟨l, by rw [hm]; exact r1, r2⟩
      · trivial
    · rename_i ho
      obtain ⟨o', ho', hm⟩ := look i _ ho
      rw [ho']
      cases o' <;> simp only [OMono] at hm
      trivial
    · exact h.elim
  | iface t v c _ ih => exact .iface t v c ih
end Go.AL
