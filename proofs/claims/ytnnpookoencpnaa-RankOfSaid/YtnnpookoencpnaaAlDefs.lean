/-
  AL: an abstract machine over the model's code: values in which slices that nobody writes are plain lists, a heap of numbered objects, and a predicate transformer 'wpc' over the code itself.
  No theorem here is about a program; definitions only.
-/
import Derived.CallsIn
import Derived.OrdersIn
import Derived.RangeFuncLeaves
set_option linter.unusedVariables false
namespace Go.AL
open Go

/-- What is known of a slice's spare room: nothing; it is nil; its end is token i's, at count n. -/
inductive Cap where
  | any | nil | tok (i n : Nat)

/-- The shape of a list's elements. -/
inductive Sh where
  | int (k : IntKind) | bool | str | li (k : IntKind) | lg (s : Sh) | rc (l : List Sh) | any

mutual
inductive AVal where
  | bool (b : Bool) | int (k : IntKind) (n : Int) | str (s : List UInt8)
  | ls (p : LX) (c : Cap)
  | sl (i g : Nat) (lo hi : Int)
  | ptr (i off : Nat) | pe (i g : Nat) (ix : Int) (off : Nat) | pp (xs : List AVal) | nilp
  | agg (vs : List AVal) | tup (vs : List AVal)
  | clo (fn : Fn) (first caps : List AVal) | nilf | yld (i : Nat)
  | iface (t : Nat) (v : AVal) | nili
  | und | junk
inductive LX where
  | nl | il (k : IntKind) (l : List Int) | gl (s : Sh) (xs : List AVal)
end
instance : Inhabited AVal := ⟨.junk⟩

/-- The temporaries, one by one. -/
def tmL : List (Nat × AVal) → Nat → AVal
  | [], _ => .junk
  | (d, v) :: r, t => match Nat.beq t d with
    | true => v
    | false => tmL r t
/-- A range over a function, under way. -/
structure LoopA where
  st : LoopState
  pend : Option Code
  ps : Array Tmp
  assign : Code
  body : Code
  nt : Nat
  l : List (Nat × AVal)
inductive AObj where
  | box (vs : List AVal)
  | rw (g : Nat) (p : LX)
  | tok (n : Nat)
  | loop (r : LoopA)
  | dead (g : Nat)
abbrev Heap := List AObj

structure St where
  tm : Nat → AVal
  h : Heap

/-- What must be shown at an operation. -/
inductive Need where
  | idx (i n : Int) | bnd (lo hi n : Int) | bnd3 (lo hi m n : Int) | rooml (lo n : Int) (b : Nat) | appn (lo hi n m : Int) (b : Nat) | bnd4 (a b n : Int) | nz (n : Int) | ge0 (n : Int) | room (n : Int) (b : Nat) | srm (n : Int) | ne (n : Int)

inductive AR where
  | ok (v : AVal) (h : Heap)
  | need (q : Need) (v : AVal) (h : Heap)
  | stuck

/-- The hooks: what the evaluation leaves folded. -/
structure Pr where
  i2 : BinOp → IntKind → Int → Int → Int
  c2 : BinOp → Int → Int → Bool
  u1 : UnOp → IntKind → Int → Int
  cv : IntKind → Int → Int
  mx : Int → Int → Int
  mn : Int → Int → Int
  ad : Int → Int → Int
  sbt : Int → Int → Int
  bn : Bool → Bool
  bq : Bool → Bool → Bool
  ba : Bool → Bool → Bool
  lnI : List Int → Int
  gtI : List Int → Int → Int
  apI : List Int → List Int → List Int
  sbI : List Int → Int → Int → List Int
  stI : List Int → Int → Int → List Int
  rpI : Int → Int → List Int
  lnG : List AVal → Int
  gtG : List AVal → Int → AVal
  apG : List AVal → List AVal → List AVal
  sbG : List AVal → Int → Int → List AVal
  stG : List AVal → Int → AVal → List AVal
  rpG : Int → AVal → List AVal
  fi : AVal → Int
  fb : AVal → Bool
  fs : AVal → List UInt8
  fl : AVal → List Int
  fg : AVal → List AVal
  fc : AVal → Nat → AVal
  sln : List UInt8 → Int
  sgt : List UInt8 → Int → Int
  sap : List UInt8 → List UInt8 → List UInt8
  ssb : List UInt8 → Int → Int → List UInt8
  sc : BinOp → List UInt8 → List UInt8 → Bool
  b2s : List Int → List UInt8
  s2b : List UInt8 → List Int
  nd : Need → Prop
  call : FuncId → List AVal → Heap → (AVal → Heap → Prop) → Prop
  calld : FuncId → List AVal → Heap → (AVal → Prop) → Prop
  callv : AVal → List AVal → Heap → (AVal → Heap → Prop) → Prop
  callvd : AVal → List AVal → Heap → (AVal → Prop) → Prop
  loop : (St → (Exit → St → Prop) → Prop) → St → (Exit → St → Prop) → Prop
  rfun : AVal → Array Tmp → Code → Code → St → (Exit → St → Prop) → Prop
  fin : (AVal → Heap → Prop) → AVal → Heap → Prop
  rowq : Nat → Bool

/-- Types, as the evaluation wants them: a table. -/
inductive TD where
  | int (k : IntKind) | bool | str | slice (e : Nat) | array (n e : Nat) | struct (fs : List (Nat × Nat)) | ptr (e : Nat) | iface | func | other
structure TI where
  d : TD
  sz : Nat
  by_ : Nat
  zero : AVal
  eqf : Bool := true
abbrev TabL := List (Nat × TI)
def TabL.get? : TabL → Nat → Option TI
  | [], _ => none
  | (t, i) :: r, u => match Nat.beq t u with
    | true => some i
    | false => TabL.get? r u
/-- (A function: so it stays folded where nothing is looked up.) -/
abbrev Tab := Nat → Option TI
def Tab.get? (T : Tab) (t : Nat) : Option TI := T t
def TD.isAgg : TD → Bool
  | .struct _ | .array _ _ => true
  | _ => false
abbrev MTabL := List (Nat × String × Nat × Option Nat)
def MTabL.get? : MTabL → Nat → String → Option (Nat × Option Nat)
  | [], _, _ => none
  | (t, n, f, d) :: r, u, m => match Nat.beq t u with
    | true => match decide (n = m) with
      | true => some (f, d)
      | false => MTabL.get? r u m
    | false => MTabL.get? r u m
abbrev MTab := Nat → String → Option (Nat × Option Nat)
def MTab.get? (M : MTab) (t : Nat) (m : String) : Option (Nat × Option Nat) := M t m

def AVal.cells : AVal → List AVal
  | .agg vs => vs
  | v => [v]
def Sh.k : Sh → Nat
  | .rc l => l.length
  | _ => 1
def LX.k : LX → Nat
  | .nl => 0
  | .il _ _ => 1
  | .gl s _ => s.k
def LX.toL : LX → List AVal
  | .nl => []
  | .il k l => l.map (.int k)
  | .gl _ xs => xs
def putCells : List AVal → Nat → List AVal → List AVal
  | xs, 0, vs => vs ++ xs.drop vs.length
  | [], _ + 1, vs => vs
  | x :: xs, n + 1, vs => x :: putCells xs n vs
def part (ti : TI) (cs : List AVal) (off : Nat) : AVal :=
  match ti.d.isAgg with
  | true => .agg ((cs.drop off).take ti.sz)
  | false => cs.getD off .junk
def IntKind.same : IntKind → IntKind → Bool
  | .i8, .i8 | .i16, .i16 | .i32, .i32 | .i64, .i64 | .u8, .u8 | .u16, .u16 | .u32, .u32 | .u64, .u64 => true
  | _, _ => false
mutual
def Sh.same : Sh → Sh → Bool
  | .int a, .int b => IntKind.same a b
  | .bool, .bool => true
  | .str, .str => true
  | .li a, .li b => IntKind.same a b
  | .lg a, .lg b => Sh.same a b
  | .rc a, .rc b => Sh.sames a b
  | .any, .any => true
  | _, _ => false
def Sh.sames : List Sh → List Sh → Bool
  | [], [] => true
  | a :: x, b :: y => match Sh.same a b with
    | true => Sh.sames x y
    | false => false
  | _, _ => false
end
mutual
/-- The shape of a value that is written out. -/
def shOf : AVal → Sh
  | .int k _ => .int k
  | .bool _ => .bool
  | .str _ => .str
  | .ls (.il k _) .any => .li k
  | .ls (.gl s _) .any => .lg s
  | .agg vs => .rc (shsOf vs)
  | _ => .any
def shsOf : List AVal → List Sh
  | [] => []
  | v :: r => shOf v :: shsOf r
end

/-- Elements of so many cells (or none at all). -/
def LX.kOK (z : Nat) : LX → Bool
  | .nl => true
  | .il _ _ => Nat.beq 1 z
  | .gl s _ => Nat.beq s.k z

section
variable (p : Pr)
mutual
/-- An element of a shape, taken apart. -/
def eta : Sh → AVal → AVal
  | .int k, x => .int k (p.fi x)
  | .bool, x => .bool (p.fb x)
  | .str, x => .str (p.fs x)
  | .li k, x => .ls (.il k (p.fl x)) .any
  | .lg s, x => .ls (.gl s (p.fg x)) .any
  | .rc l, x => .agg (etas l 0 x)
  | .any, x => x
def etas : List Sh → Nat → AVal → List AVal
  | [], _, _ => []
  | s :: r, j, x => eta s (p.fc x j) :: etas r (j + 1) x
end
def LX.len : LX → Int
  | .nl => 0
  | .il _ l => p.lnI l
  | .gl _ xs => p.lnG xs
def LX.get : LX → Int → AVal
  | .nl, _ => .junk
  | .il k l, i => .int k (p.gtI l i)
  | .gl s xs, i => eta p s (p.gtG xs i)
def LX.app : LX → LX → Option LX
  | .nl, q => some q
  | x, .nl => some x
  | .il k l, .il k' m => match IntKind.same k k' with
    | true => some (.il k (p.apI l m))
    | false => none
  | .gl s xs, .gl s' ys => match Sh.same s s' with
    | true => some (.gl s (p.apG xs ys))
    | false => none
  | _, _ => none
def LX.sub : LX → Int → Int → LX
  | .nl, _, _ => .nl
  | .il k l, a, b => .il k (p.sbI l a b)
  | .gl s xs, a, b => .gl s (p.sbG xs a b)
def LX.set : LX → Int → AVal → Option LX
  | .il k l, i, .int k' n => match IntKind.same k k' with
    | true => some (.il k (p.stI l i n))
    | false => none
  | .gl s xs, i, v => match Sh.same s (shOf v) with
    | true => some (.gl s (p.stG xs i v))
    | false => none
  | _, _, _ => none
/-- Some elements of a row, told anew: the first m of r from place a on. -/
def LX.splice (q : LX) (a : Int) (r : LX) (m : Int) : Option LX := match (q.sub p 0 a).app p (r.sub p 0 m) with
  | some s => s.app p (q.sub p (p.ad a m) (q.len p))
  | none => none
def LX.nil0 : LX → LX
  | .nl => .nl
  | .il k _ => .il k []
  | .gl s _ => .gl s []
def intsOf (k : IntKind) : List AVal → Option (List Int)
  | [] => some []
  | .int k' n :: r => match IntKind.same k k' with
    | true => match intsOf k r with
      | some l => some (n :: l)
      | none => none
    | false => none
  | _ :: _ => none
def allSh (s : Sh) : List AVal → Bool
  | [] => true
  | v :: r => match Sh.same s (shOf v) with
    | true => allSh s r
    | false => false
/-- A list of values that are written out. -/
def mkLX : List AVal → Option LX
  | [] => some .nl
  | .int k n :: r => match intsOf k (.int k n :: r) with
    | some l => some (.il k l)
    | none => none
  | v :: r => match allSh (shOf v) (v :: r) with
    | true => some (.gl (shOf v) (v :: r))
    | false => none
/-- So many of one value. -/
def repLX (n : Int) : AVal → LX
  | .int k m => .il k (p.rpI n m)
  | v => .gl (shOf v) (p.rpG n v)

def evc : Value → AVal
  | .bool b => .bool b
  | .int k n => .int k n
  | .string s => .str s.data.toList
  | .slice none 0 0 => .ls .nl .nil
  | .nilFunc => .nilf
  | .nilIface => .nili
  | .pointer none => .nilp
  | _ => .junk
def ev (tm : Nat → AVal) : Operand → AVal
  | .tmp t => tm t
  | .const v => evc v
  | .func f => .clo (.func f) [] []
  | .global _ => .junk
/-- A constant that is a count. -/
def cnat : Operand → Option Nat
  | .const (.int _ (.ofNat n)) => some n
  | _ => none
/-- What one cell may hold. -/
def oneA : AVal → Bool
  | .agg _ | .tup _ | .und | .junk => false
  | _ => true
def allOne : List AVal → Bool
  | [] => true
  | v :: r => match oneA v with
    | true => allOne r
    | false => false
def eqs : List AVal → List AVal → Option Bool
  | [], [] => some true
  | .int _ a :: x, .int _ b :: y => match eqs x y with
    | some t => some (p.ba (p.c2 .eql a b) t)
    | none => none
  | .bool a :: x, .bool b :: y => match eqs x y with
    | some t => some (p.ba (p.bq a b) t)
    | none => none
  | .str a :: x, .str b :: y => match eqs x y with
    | some t => some (p.ba (p.sc .eql a b) t)
    | none => none
  | _, _ => none
/-- Are a type's cells whole numbers, bools and strings, compared one by one? (A row of the table says so; d: depth.) -/
def flatEq (T : Tab) : Nat → Nat → Option (List Sh)
  | 0, _ => none
  | d + 1, t => match Tab.get? T t with
    | some ti => match ti.d with
      | .int k => some [.int k]
      | .bool => some [.bool]
      | .str => some [.str]
      | .struct fs => match ti.eqf with
        | true => match flats T d fs 0 with
          | some l => match Nat.beq l.length ti.sz with
            | true => some l
            | false => none
          | none => none
        | false => none
      | .array m e => match ti.eqf with
        | true => match flatEq T d e with
          | some l => match Nat.beq (List.replicate m l).flatten.length ti.sz with
            | true => some (List.replicate m l).flatten
            | false => none
          | none => none
        | false => none
      | _ => none
    | none => none
where flats (T : Tab) (d : Nat) : List (Nat × Nat) → Nat → Option (List Sh)
  | [], _ => some []
  | (off, t) :: r, at_ => match Nat.beq off at_ with
    | true => match flatEq T d t with
      | some l => match flats T d r (at_ + l.length) with
        | some m => some (l ++ m)
        | none => none
      | none => none
    | false => none
def fitsSh : List Sh → List AVal → Bool
  | [], [] => true
  | .int k :: r, .int k' _ :: s => match IntKind.same k k' with
    | true => fitsSh r s
    | false => false
  | .bool :: r, .bool _ :: s => fitsSh r s
  | .str :: r, .str _ :: s => fitsSh r s
  | _, _ => false
def aEqAgg (T : Tab) (op : BinOp) (t : Nat) (a b : List AVal) (h : Heap) : AR :=
  match flatEq T 8 t with
  | some sh => match (match Tab.get? T t with
    | some ti => match ti.d.isAgg with
      | true => ti.eqf
      | false => false
    | none => false) with
   | true => match fitsSh sh a with
    | true => match fitsSh sh b with
      | true => match eqs p a b with
        | some r => match op with
          | .eql => .ok (.bool r) h
          | .neq => .ok (.bool (p.bn r)) h
          | _ => .stuck
        | none => .stuck
      | false => .stuck
    | false => .stuck
   | false => .stuck
  | none => .stuck
def aBin (T : Tab) (op : BinOp) (t : Nat) (x y : AVal) (h : Heap) : AR :=
  match x, y with
  | .int k a, .int k' b => match op with
    | .shl | .shr => .need (.ge0 b) (.int k (p.i2 op k a b)) h
    | _ => match IntKind.same k k' with
      | true => match op with
        | .quo | .rem => .need (.nz b) (.int k (p.i2 op k a b)) h
        | .add | .sub | .mul | .and | .or | .xor | .andNot => .ok (.int k (p.i2 op k a b)) h
        | _ => .ok (.bool (p.c2 op a b)) h
      | false => .stuck
  | .bool a, .bool b => match Tab.get? T t with
    | some ti => match ti.d with
      | .bool => match op with
        | .eql => .ok (.bool (p.bq a b)) h
        | .neq => .ok (.bool (p.bn (p.bq a b))) h
        | _ => .stuck
      | _ => .stuck
    | none => .stuck
  | .str a, .str b => match op with
    | .add => .need (.srm (p.ad (p.sln a) (p.sln b))) (.str (p.sap a b)) h
    | .sub | .mul | .quo | .rem | .and | .or | .xor | .andNot | .shl | .shr => .stuck
    | _ => .ok (.bool (p.sc op a b)) h
  | .agg a, .agg b => aEqAgg p T op t a b h
  | .ls q c, .ls .nl .nil => match Tab.get? T t with
    | some ti => match ti.d with
      | .slice _ => match op with
        | .eql => match c with
          | .nil => .ok (.bool true) h
          | _ => .need (.ne (q.len p)) (.bool false) h
        | .neq => match c with
          | .nil => .ok (.bool false) h
          | _ => .need (.ne (q.len p)) (.bool true) h
        | _ => .stuck
      | _ => .stuck
    | none => .stuck
  | .sl i g _ _, .ls .nl .nil => match Tab.get? T t with
    | some ti => match ti.d with
      | .slice _ => match h[i]? with
        | some (.rw g' q) => match Nat.beq g g' with
          | true => match op with
            | .eql => .need (.ne (q.len p)) (.bool false) h
            | .neq => .need (.ne (q.len p)) (.bool true) h
            | _ => .stuck
          | false => .stuck
        | _ => .stuck
      | _ => .stuck
    | none => .stuck
  | .iface _ _, .nili => match Tab.get? T t with
    | some ti => match ti.d with
      | .iface => match op with
        | .eql => .ok (.bool false) h
        | .neq => .ok (.bool true) h
        | _ => .stuck
      | _ => .stuck
    | none => .stuck
  | _, _ => .stuck
/-- Each part laid over the cells. -/
def fillA (place : Nat → Option (Nat × Nat)) : List (Nat × AVal) → List AVal → Option (List AVal)
  | [], cs => some cs
  | (i, x) :: r, cs => match place i with
    | none => none
    | some (off, size) => match Nat.beq x.cells.length size with
      | true => match Nat.ble (off + size) cs.length with
        | true => fillA place r (putCells cs off x.cells)
        | false => none
      | false => none
def placeOf (fs : List (Nat × Nat)) (T : Tab) (i : Nat) : Option (Nat × Nat) :=
  match fs[i]? with
  | some (off, t) => match Tab.get? T t with
    | some ti => some (off, ti.sz)
    | none => none
  | none => none
def allIn (T : Tab) : List (Nat × Nat) → Bool
  | [] => true
  | (_, t) :: r => match Tab.get? T t with
    | some _ => allIn T r
    | none => false
def chunk (k : Nat) : Nat → List AVal → List AVal
  | 0, _ => []
  | n + 1, cs => (match Nat.beq k 1 with
    | true => cs.getD 0 .junk
    | false => .agg (cs.take k)) :: chunk k n (cs.drop k)
def allPure : List AVal → Bool
  | [] => true
  | v :: r => match isPure v with
    | true => allPure r
    | false => false
where isPure : AVal → Bool
  | .bool _ | .int _ _ | .str _ | .ls _ .any | .ls _ .nil | .pp _ | .nilp | .nilf | .nili => true
  | .agg vs => allPure vs
  | _ => false
def noJunk : List (Nat × AVal) → Bool
  | [] => true
  | (_, .junk) :: _ => false
  | _ :: r => noJunk r
def zrep (n : Nat) (z : List AVal) : List AVal := (List.replicate n z).flatten

def aAlloc (T : Tab) (t : Nat) (h : Heap) : AR := match Tab.get? T t with
  | some ti => .ok (.ptr h.length 0) (h ++ [.box ti.zero.cells])
  | none => .stuck
def aBox (v : AVal) (h : Heap) : AR := match allOne v.cells with
  | true => .ok (.ptr h.length 0) (h ++ [.box v.cells])
  | false => .stuck
def aBuild (T : Tab) (t : Nat) (parts : List (Nat × AVal)) (h : Heap) : AR := match noJunk parts with
 | false => .stuck
 | true => match Tab.get? T t with
  | some ti => match ti.d with
    | .struct fs => match allIn T fs with
      | true => match fillA (placeOf fs T) parts ti.zero.cells with
        | some cs => .ok (.agg cs) h
        | none => .stuck
      | false => .stuck
    | .array _ e => match Tab.get? T e with
      | some te => match fillA (fun i => some (i * te.sz, te.sz)) parts ti.zero.cells with
        | some cs => .ok (.agg cs) h
        | none => .stuck
      | none => .stuck
    | _ => .stuck
  | none => .stuck
def aBuildSlice (T : Tab) (t len : Nat) (parts : List (Nat × AVal)) (h : Heap) : AR := match noJunk parts with
 | false => .stuck
 | true => match Tab.get? T t with
  | some ti => match ti.d with
    | .slice e => match Tab.get? T e with
      | some te => match Nat.blt 0 te.sz with
        | true => match Nat.ble (len * te.sz) 10000 with
          | true => match fillA (fun i => some (i * te.sz, te.sz)) parts (zrep len te.zero.cells) with
            | some cs => match allPure cs with
              | true => match allOne cs with
                | true => match mkLX (chunk te.sz len cs) with
                  | some q => match q.kOK te.sz with
                    | true => .ok (.ls q (.tok h.length 0)) (h ++ [.tok 0])
                    | false => .stuck
                  | none => .stuck
                | false => .stuck
              | false => .stuck
            | none => .stuck
          | false => .stuck
        | false => .stuck
      | none => .stuck
    | _ => .stuck
  | none => .stuck
def aLoad (T : Tab) (t : Nat) (a : AVal) (h : Heap) : AR := match Tab.get? T t with
  | some ti => match a with
    | .ptr i off => match h[i]? with
      | some (.box vs) => match Nat.ble (off + ti.sz) vs.length with
        | true => .ok (part ti vs off) h
        | false => .stuck
      | _ => .stuck
    | .pe i g ix off => match h[i]? with
      | some (.rw g' q) => match Nat.beq g g' with
        | true => match Nat.ble (off + ti.sz) (q.get p ix).cells.length with
          | true => .ok (part ti (q.get p ix).cells off) h
          | false => .stuck
        | false => .stuck
      | _ => .stuck
    | .pp xs => match Nat.ble ti.sz xs.length with
      | true => .ok (part ti xs 0) h
      | false => .stuck
    | _ => .stuck
  | none => .stuck
def aStore (T : Tab) (t : Nat) (a v : AVal) (h : Heap) : AR := match Tab.get? T t with
  | some ti => match Nat.beq v.cells.length ti.sz with
    | true => match allOne v.cells with
      | true => match a with
        | .ptr i off => match h[i]? with
          | some (.box vs) => match Nat.ble (off + ti.sz) vs.length with
            | true => .ok .und (h.set i (.box (putCells vs off v.cells)))
            | false => .stuck
          | _ => .stuck
        | .pe i g ix off => match h[i]? with
          | some (.rw g' q) => match Nat.beq g g' with
            | true => match Nat.beq ti.sz q.k with
              | true => match Nat.beq off 0 with
                | true => match q.set p ix v with
                  | some q' => .ok .und (h.set i (.rw g q'))
                  | none => .stuck
                | false => .stuck
              | false => match Nat.ble (off + ti.sz) q.k with
                | true => match q.set p ix (.agg (putCells (q.get p ix).cells off v.cells)) with
                  | some q' => .ok .und (h.set i (.rw g q'))
                  | none => .stuck
                | false => .stuck
            | false => .stuck
          | _ => .stuck
        | _ => .stuck
      | false => .stuck
    | false => .stuck
  | none => .stuck
def aNil (x : AVal) (h : Heap) : AR := match x with
  | .ptr i off => match h[i]? with
    | some (.box _) => .ok (.ptr i off) h
    | _ => .stuck
  | .pp xs => .ok (.pp xs) h
  | .clo (.func f) first caps => .ok (.clo (.func f) first caps) h
  | .iface t v => .ok (.iface t v) h
  | _ => .stuck
def aUn (op : UnOp) (x : AVal) (h : Heap) : AR := match op, x with
  | .not, .bool b => .ok (.bool (p.bn b)) h
  | .neg, .int k n => .ok (.int k (p.u1 .neg k n)) h
  | .xor, .int k n => .ok (.int k (p.u1 .xor k n)) h
  | _, _ => .stuck
def aConv (T : Tab) (s d : Nat) (x : AVal) (h : Heap) : AR := match Tab.get? T s with
  | some ts => match Tab.get? T d with
    | some td => match td.d with
      | .int k => match x with
        | .int _ n => .ok (.int k (p.cv k n)) h
        | _ => .stuck
      | .str => match x with
        | .str s => match ts.d with
          | .str => .ok (.str s) h
          | _ => .stuck
        | .ls q _ => match ts.d with
          | .slice e => match Tab.get? T e with
            | some te => match te.d with
              | .int .u8 => match q with
                | .il .u8 l => .ok (.str (p.b2s l)) h
                | _ => .stuck
              | _ => .stuck
            | none => .stuck
          | _ => .stuck
        | _ => .stuck
      | _ => .stuck
    | none => .stuck
  | none => .stuck
def aMkI (T : Tab) (t : Nat) (x : AVal) (h : Heap) : AR := match Tab.get? T t with
  | some ti => match ti.d with
    | .iface => .stuck
    | .other => .stuck
    | _ => .ok (.iface t x) h
  | none => .stuck
def aMkS (T : Tab) (t : Nat) (l c : AVal) (same : Bool) (h : Heap) : AR := match Tab.get? T t with
  | some ti => match ti.d with
    | .slice e => match Tab.get? T e with
      | some te => match l, c with
        | .int .i64 n, .int .i64 _ => match same with
          | true => match allOne te.zero.cells with
            | true => match (repLX p n te.zero) with
              | q => match Nat.beq q.k te.sz with
                | true => match Nat.blt 0 te.sz with
                  | true => .need (.room n te.by_) (.sl h.length 0 0 n) (h ++ [.rw 0 q])
                  | false => .stuck
                | false => .stuck
            | false => .stuck
          | false => .stuck
        | _, _ => .stuck
      | none => .stuck
    | _ => .stuck
  | none => .stuck
def opt0 (d : Int) : Option AVal → Option Int
  | none => some d
  | some (.int _ n) => some n
  | _ => none
def isSl (T : Tab) (t : Nat) : Bool := match Tab.get? T t with
  | some ti => match ti.d with
    | .slice _ => true
    | _ => false
  | none => false
def slElem (T : Tab) (t : Nat) : Option TI := match Tab.get? T t with
  | some ti => match ti.d with
    | .slice e => Tab.get? T e
    | _ => none
  | none => none
def aSlice (T : Tab) (t : Nat) (x : AVal) (lo hi mx : Option AVal) (h : Heap) : AR := match mx with
  | none => match x with
    | .str s => match Tab.get? T t with
      | some ti => match ti.d with
        | .str => match opt0 0 lo with
          | some a => match opt0 (p.sln s) hi with
            | some b => .need (.bnd a b (p.sln s)) (.str (p.ssb s a b)) h
            | none => .stuck
          | none => .stuck
        | _ => .stuck
      | none => .stuck
    | .ls q c => match slElem T t with
      | some te => match q.kOK te.sz with
        | true => match opt0 0 lo with
          | some a => match opt0 (q.len p) hi with
            | some b => .need (.bnd a b (q.len p)) (.ls (q.sub p a b) (match c with
              | .tok i n => match hi with
                | none => .tok i n
                | some _ => .any
              | _ => .any)) h
            | none => .stuck
          | none => .stuck
        | false => .stuck
      | none => .stuck
    | .sl i g l u => match slElem T t with
      | some te => match h[i]? with
        | some (.rw g' q) => match Nat.beq g g' with
          | true => match q.kOK te.sz with
            | true => match opt0 0 lo with
              | some a => match opt0 (p.sbt u l) hi with
                | some b => .need (.bnd a b (p.sbt (q.len p) l)) (.sl i g (p.ad l a) (p.ad l b)) h
                | none => .stuck
              | none => .stuck
            | false => .stuck
          | false => .stuck
        | _ => .stuck
      | none => .stuck
    | _ => .stuck
  | some m => match x, hi with
    | .ls q c, some hv => match slElem T t with
      | some te => match q.kOK te.sz with
        | true => match opt0 0 lo with
          | some a => match hv with
            | .int _ b => match m with
              | .int _ d => .need (.bnd3 a b d (q.len p)) (.ls (q.sub p a b) .any) h
              | _ => .stuck
            | _ => .stuck
          | none => .stuck
        | false => .stuck
      | none => .stuck
    | _, _ => .stuck
def aFieldAddr (T : Tab) (s : Nat) (x : AVal) (f : Nat) (h : Heap) : AR := match Tab.get? T s with
  | some ti => match ti.d with
    | .struct fs => match fs[f]? with
      | some (off, t) => match Tab.get? T t with
        | some tf => match Nat.blt 0 tf.sz with
          | true => match x with
            | .ptr i o => match h[i]? with
              | some (.box vs) => match Nat.ble (o + off) vs.length with
                | true => .ok (.ptr i (o + off)) h
                | false => .stuck
              | _ => .stuck
            | .pe i g ix o => match h[i]? with
              | some (.rw g' _) => match Nat.beq g g' with
                | true => .ok (.pe i g ix (o + off)) h
                | false => .stuck
              | _ => .stuck
            | .pp xs => match Nat.ble off xs.length with
              | true => .ok (.pp (xs.drop off)) h
              | false => .stuck
            | _ => .stuck
          | false => .stuck
        | none => .stuck
      | none => .stuck
    | _ => .stuck
  | none => .stuck
def aField (T : Tab) (s : Nat) (x : AVal) (f : Nat) (h : Heap) : AR := match Tab.get? T s with
  | some ti => match ti.d with
    | .struct fs => match fs[f]? with
      | some (off, t) => match Tab.get? T t with
        | some tf => match x with
          | .agg cs => match Nat.ble (off + tf.sz) cs.length with
            | true => .ok (part tf cs off) h
            | false => .stuck
          | _ => .stuck
        | none => .stuck
      | none => .stuck
    | _ => .stuck
  | none => .stuck
def aIndexAddr (T : Tab) (t : Nat) (x i : AVal) (ci : Option Nat) (h : Heap) : AR := match Tab.get? T t with
  | some ti => match ti.d with
    | .slice e => match Tab.get? T e with
      | some te => match x with
        | .ls q _ => match i with
          | .int _ n => match Nat.beq te.sz q.k with
            | true => .need (.idx n (q.len p)) (.pp (q.get p n).cells) h
            | false => .stuck
          | _ => .stuck
        | .sl j g lo hi => match i with
          | .int _ n => match h[j]? with
            | some (.rw g' q) => match Nat.beq g g' with
              | true => match Nat.beq te.sz q.k with
                | true => .need (.idx n (p.sbt hi lo)) (.pe j g (p.ad lo n) 0) h
                | false => .stuck
              | false => .stuck
            | _ => .stuck
          | _ => .stuck
        | _ => .stuck
      | none => .stuck
    | .array m e => match Tab.get? T e with
      | some te => match ci with
        | some n => match Nat.blt n m with
          | true => match x with
            | .ptr j o => match h[j]? with
              | some (.box vs) => match Nat.ble (o + n * te.sz) vs.length with
                | true => .ok (.ptr j (o + n * te.sz)) h
                | false => .stuck
              | _ => .stuck
            | .pp xs => match Nat.ble (n * te.sz) xs.length with
              | true => .ok (.pp (xs.drop (n * te.sz))) h
              | false => .stuck
            | _ => .stuck
          | false => .stuck
        | none => .stuck
      | none => .stuck
    | _ => .stuck
  | none => .stuck
def aIndex (T : Tab) (t : Nat) (x i : AVal) (ci : Option Nat) (h : Heap) : AR := match Tab.get? T t with
  | some ti => match ti.d with
    | .str => match x with
      | .str s => match i with
        | .int _ n => .need (.idx n (p.sln s)) (.int .u8 (p.sgt s n)) h
        | _ => .stuck
      | _ => .stuck
    | .array m e => match Tab.get? T e with
      | some te => match x with
        | .agg cs => match Nat.beq cs.length (m * te.sz) with
          | true => match ci with
            | some n => match Nat.blt n m with
              | true => .ok (part te cs (n * te.sz)) h
              | false => .stuck
            | none => match i with
              | .int _ n => match te.d.isAgg with
                | true => match mkLX (chunk te.sz m cs) with
                  | some (.gl s xs) => match s with
                    | .rc l => match Nat.beq l.length te.sz with
                      | true => match Nat.beq te.sz 1 with
                        | true => .stuck
                        | false => .need (.idx n m) ((LX.gl s xs).get p n) h
                      | false => .stuck
                    | _ => .stuck
                  | _ => .stuck
                | false => match Nat.beq te.sz 1 with
                  | true => match mkLX cs with
                    | some (.il k l) => .need (.idx n m) ((LX.il k l).get p n) h
                    | _ => .stuck
                  | false => .stuck
              | _ => .stuck
          | false => .stuck
        | _ => .stuck
      | none => .stuck
    | _ => .stuck
  | none => .stuck
def aExtract (x : AVal) (i : Nat) (h : Heap) : AR := match x with
  | .tup vs => match vs[i]? with
    | some v => .ok v h
    | none => .stuck
  | _ => .stuck
def aAssert (T : Tab) (x : AVal) (a : Nat) (ok : Bool) (h : Heap) : AR := match x with
  | .iface t v => match Tab.get? T a with
    | some ta => match ta.d with
      | .iface => .stuck
      | .other => .stuck
      | _ => match Nat.beq t a with
        | true => match ok with
          | true => .ok (.tup [v, .bool true]) h
          | false => .ok v h
        | false => match ok with
          | true => .ok (.tup [ta.zero, .bool false]) h
          | false => .stuck
    | none => .stuck
  | _ => .stuck
def aLen (T : Tab) (t : Nat) (x : AVal) (h : Heap) : AR := match Tab.get? T t with
  | some ti => match ti.d with
    | .slice _ => match x with
      | .ls q _ => .ok (.int .i64 (q.len p)) h
      | .sl i g lo hi => match h[i]? with
        | some (.rw g' _) => match Nat.beq g g' with
          | true => .ok (.int .i64 (p.sbt hi lo)) h
          | false => .stuck
        | _ => .stuck
      | _ => .stuck
    | .str => match x with
      | .str s => .ok (.int .i64 (p.sln s)) h
      | _ => .stuck
    | .array m _ => .ok (.int .i64 m) h
    | _ => .stuck
  | none => .stuck
def aMax (x y : AVal) (h : Heap) : AR := match x, y with
  | .int k a, .int _ b => .ok (.int k (p.mx a b)) h
  | _, _ => .stuck
def aMin (x y : AVal) (h : Heap) : AR := match x, y with
  | .int k a, .int _ b => .ok (.int k (p.mn a b)) h
  | _, _ => .stuck
/-- What a slice's elements are, read now. -/
def asR (y : AVal) (h : Heap) : Option LX := match y with
  | .ls r _ => some r
  | .sl j g lo hi => match h[j]? with
    | some (.rw g' q) => match Nat.beq g g' with
      | true => some (q.sub p lo hi)
      | false => none
    | _ => none
  | _ => none
/-- .. as a list that may be copied into one. -/
def asL (y : AVal) (h : Heap) : Option LX := match y with
  | .ls r _ => some r
  | .sl j g lo hi => match h[j]? with
    | some (.rw g' q) => match Nat.beq g g' with
      | true => match q with
        | .il k l => some (.il k (p.sbI l lo hi))
        | _ => none
      | false => none
    | _ => none
  | _ => none
def isOwn (i : Nat) (y : AVal) : Bool := match y with
  | .sl j _ _ _ => Nat.beq i j
  | _ => false
def aSlice3 (T : Tab) (t : Nat) (x : AVal) (lo : Option AVal) (hi m : AVal) (same : Bool) (h : Heap) : AR := match same with
  | true => match slElem T t with
    | some te => match opt0 0 lo with
      | some a => match hi with
        | .int _ b => match m with
          | .int _ _ => match x with
            | .ls q _ => match q.kOK te.sz with
              | true => .need (.bnd a b (q.len p)) (.ls (q.sub p a b) (.tok h.length 0)) (h ++ [.tok 0])
              | false => .stuck
            | .sl i g l u => match h[i]? with
              | some (.rw g' q) => match Nat.beq g g' with
                | true => match q.kOK te.sz with
                  | true => .need (.bnd4 a b (p.sbt u l)) (.ls q.nil0 (.tok h.length 0)) (h ++ [.tok 0])
                  | false => .stuck
                | false => .stuck
              | _ => .stuck
            | _ => .stuck
          | _ => .stuck
        | _ => .stuck
      | none => .stuck
    | none => .stuck
  | false => match x with
    | .sl i g l u => match slElem T t with
      | some _ => match opt0 0 lo with
        | some a => match hi with
          | .int _ b => match m with
            | .int _ d => match h[i]? with
              | some (.rw g' _) => match Nat.beq g g' with
                | true => .need (.bnd3 a b d (p.sbt u l)) .junk h
                | false => .stuck
              | _ => .stuck
            | _ => .stuck
          | _ => .stuck
        | none => .stuck
      | none => .stuck
    | _ => aSlice p T t x lo (some hi) (some m) h
def aCopy (T : Tab) (t : Nat) (x y : AVal) (h : Heap) : AR := match slElem T t with
  | some te => match Nat.blt 0 te.sz with
    | true => match x with
      | .sl i g lo hi => match h[i]? with
        | some (.rw g' q) => match Nat.beq g g' with
          | true => match Nat.beq q.k te.sz with
            | true => match asR p y h with
              | some r => match r.kOK te.sz with
                | true => match q.splice p lo r (p.mn (p.sbt hi lo) (r.len p)) with
                  | some q' => .ok (.int .i64 (p.mn (p.sbt hi lo) (r.len p))) (h.set i (.rw g q'))
                  | none => .stuck
                | false => .stuck
              | none => .stuck
            | false => .stuck
          | false => .stuck
        | _ => .stuck
      | _ => .stuck
    | false => .stuck
  | none => .stuck
def aClear (T : Tab) (t : Nat) (x : AVal) (h : Heap) : AR := match slElem T t with
  | some te => match Nat.blt 0 te.sz with
    | true => match allOne te.zero.cells with
      | true => match x with
        | .sl i g lo hi => match h[i]? with
          | some (.rw g' q) => match Nat.beq g g' with
            | true => match Nat.beq q.k te.sz with
              | true => match q.splice p lo (repLX p (p.sbt hi lo) te.zero) (p.sbt hi lo) with
                | some q' => .ok (.tup []) (h.set i (.rw g q'))
                | none => .stuck
              | false => .stuck
            | false => .stuck
          | _ => .stuck
        | _ => .stuck
      | false => .stuck
    | false => .stuck
  | none => .stuck
def aAppend (T : Tab) (t t2 : Nat) (x y : AVal) (h : Heap) : AR := match slElem T t with
  | some te => match isSl T t2 with
    | true => match x with
      | .ls q c => match asL p y h with
        | some r => match r.kOK te.sz with
          | true => match q.kOK te.sz with
            | true => match Nat.blt 0 te.sz with
              | true => match q.app p r with
                | some s => match c with
                  | .nil => match p.rowq h.length with
                    | false => .need (.room (p.ad (q.len p) (r.len p)) te.by_) (.ls s (.tok h.length 0)) (h ++ [.tok 0])
                    | true => match Nat.beq r.k te.sz with
                      | true => match r.nil0.app p r with
                        | some s' => .need (.room (p.ad (q.len p) (r.len p)) te.by_) (.sl h.length 1 0 (s'.len p)) (h ++ [.rw 1 s'])
                        | none => .stuck
                      | false => .stuck
                  | .tok i n => match h[i]? with
                    | some (.tok n') => match Nat.beq n n' with
                      | true => .need (.room (p.ad (q.len p) (r.len p)) te.by_) (.ls s (.tok i (n + 1))) (h.set i (.tok (n + 1)))
                      | false => .stuck
                    | _ => .stuck
                  | .any => .stuck
                | none => .stuck
              | false => .stuck
            | false => .stuck
          | false => .stuck
        | _ => .stuck
      | .sl i g lo hi => match h[i]? with
        | some (.rw g' q) => match Nat.beq g g' with
          | true => match asR p y h with
            | some r => match r.kOK te.sz with
              | true => match Nat.beq q.k te.sz with
                | true => match Nat.blt 0 te.sz with
                  | true => match isOwn i y with
                    | false => match q.app p r with
                      | some s => .need (.appn lo hi (q.len p) (p.ad (q.len p) (r.len p)) te.by_) (.sl i (g + 1) 0 (s.len p)) (h.set i (.rw (g + 1) s))
                      | none => .stuck
                    | true => match q.splice p hi r (r.len p) with
                      | some q' => .need (.bnd hi (p.ad hi (r.len p)) (q.len p)) (.sl i g lo (p.ad hi (r.len p))) (h.set i (.rw g q'))
                      | none => .stuck
                  | false => .stuck
                | false => .stuck
              | false => .stuck
            | none => .stuck
          | false => .stuck
        | _ => .stuck
      | _ => .stuck
    | false => .stuck
  | none => .stuck

/-- A builtin. -/
def aBuiltin (T : Tab) (b : Builtin) (ts : List TypeId) (xs : List AVal) (h : Heap) : AR := match b with
  | .len => match ts, xs with
    | [t], [x] => aLen p T t x h
    | _, _ => .stuck
  | .max => match xs with
    | [x, y] => aMax p x y h
    | _ => .stuck
  | .min => match xs with
    | [x, y] => aMin p x y h
    | _ => .stuck
  | .copy => match ts, xs with
    | [t, _], [x, y] => aCopy p T t x y h
    | _, _ => .stuck
  | .clear => match ts, xs with
    | [t], [x] => aClear p T t x h
    | _, _ => .stuck
  | .append => match ts, xs with
    | [t, t2], [x, y] => aAppend p T t t2 x y h
    | _, _ => .stuck
  | _ => .stuck
/-- Do two operands surely come to the same number? -/
def sameOp (a b : Operand) : Bool := match a, b with
  | .tmp i, .tmp j => Nat.beq i j
  | _, _ => match cnat a with
    | some n => match cnat b with
      | some m => Nat.beq n m
      | none => false
    | none => false
/-- One operation that is no call of a function. -/
def aop (T : Tab) (tm : Nat → AVal) (h : Heap) (op : Op) : AR :=
  match op with
  | .move x | .assign x => .ok (ev tm x) h
  | .pick c a b => match ev tm c with
    | .bool t => match t with
      | true => .ok (ev tm a) h
      | false => .ok (ev tm b) h
    | _ => .stuck
  | .alloc t => aAlloc T t h
  | .box _ v => aBox (ev tm v) h
  | .build t parts => aBuild T t (parts.toList.map fun x => (x.1, ev tm x.2)) h
  | .buildSlice t len parts => aBuildSlice T t len (parts.toList.map fun x => (x.1, ev tm x.2)) h
  | .load t a => aLoad p T t (ev tm a) h
  | .store t a v => aStore p T t (ev tm a) (ev tm v) h
  | .nilCheck x => aNil (ev tm x) h
  | .binOp op t x y _ => aBin p T op t (ev tm x) (ev tm y) h
  | .unOp op _ x => aUn p op (ev tm x) h
  | .convert s d x => aConv p T s d (ev tm x) h
  | .makeInterface t x => aMkI T t (ev tm x) h
  | .makeFunc fn first caps => match fn with
    | .func f => .ok (.clo (.func f) (first.toList.map (ev tm)) (caps.toList.map (ev tm))) h
    | _ => .stuck
  | .makeSlice t l c => aMkS p T t (ev tm l) (ev tm c) (match l, c with
    | .tmp a, .tmp b => Nat.beq a b
    | _, _ => false) h
  | .slice t x lo hi mx => match mx with
    | none => aSlice p T t (ev tm x) (lo.map (ev tm)) (hi.map (ev tm)) none h
    | some m => match hi with
      | some b => aSlice3 p T t (ev tm x) (lo.map (ev tm)) (ev tm b) (ev tm m) (sameOp b m) h
      | none => .stuck
  | .fieldAddr s x f => aFieldAddr T s (ev tm x) f h
  | .field s x f => aField T s (ev tm x) f h
  | .indexAddr t x i => aIndexAddr p T t (ev tm x) (ev tm i) (cnat i) h
  | .index t x i => aIndex p T t (ev tm x) (ev tm i) (cnat i) h
  | .extract x i => aExtract (ev tm x) i h
  | .typeAssert x _ a ok => aAssert T (ev tm x) a ok h
  | .call c => match c.callee with
    | .builtin b => aBuiltin p T b c.argTypes.toList (c.args.toList.map (ev tm)) h
    | _ => .stuck
  | _ => .stuck

def upd (tm : Nat → AVal) (d : Nat) (v : AVal) : Nat → AVal := fun t => match Nat.beq t d with
  | true => v
  | false => tm t
/-- Into a temporary that there is. -/
def putK (nt : Nat) (s : St) (d : Option Nat) (v : AVal) (h : Heap) (K : St → Prop) : Prop :=
  match d with
  | none => K ⟨s.tm, h⟩
  | some d => match Nat.blt d nt with
    | true => K ⟨upd s.tm d v, h⟩
    | false => False
/-- The receiver of a method called through an interface, and its function. -/
def recvA (T : Tab) (M : MTab) (h : Heap) (r : AVal) (name : String) : Option (FuncId × AVal) :=
  match r with
  | .iface t v => match MTab.get? M t name with
    | some (f, none) => some (f, v)
    | some (f, some u) => match aLoad p T u v h with
      | .ok x _ => some (f, x)
      | _ => none
    | none => none
  | _ => none
/-- One operation, whatever it is; dr: in a region that draws its order. -/
def wpo (T : Tab) (M : MTab) (nt : Nat) (dr : Bool) (s : St) (o : Oper) (K : St → Prop) : Prop :=
  match o.op with
  | .call c => match c.callee with
    | .value f => match ev s.tm f with
      | .clo (.func f) first caps => match dr with
        | false => p.call f (first ++ c.args.toList.map (ev s.tm) ++ caps) s.h fun v h => putK nt s o.dst v h K
        | true => p.calld f (first ++ c.args.toList.map (ev s.tm) ++ caps) s.h fun v => putK nt s o.dst v s.h K
      | v => match dr with
        | false => p.callv v (c.args.toList.map (ev s.tm)) s.h fun v h => putK nt s o.dst v h K
        | true => p.callvd v (c.args.toList.map (ev s.tm)) s.h fun v => putK nt s o.dst v s.h K
    | .invoke r name => match recvA p T M s.h (ev s.tm r) name with
      | some (f, x) => match dr with
        | false => p.call f (x :: c.args.toList.map (ev s.tm)) s.h fun v h => putK nt s o.dst v h K
        | true => p.calld f (x :: c.args.toList.map (ev s.tm)) s.h fun v => putK nt s o.dst v s.h K
      | none => False
    | .builtin _ => match aop p T s.tm s.h o.op with
      | .ok v h => putK nt s o.dst v h K
      | .need q v h => p.nd q ∧ putK nt s o.dst v h K
      | .stuck => False
  | op => match aop p T s.tm s.h op with
    | .ok v h => putK nt s o.dst v h K
    | .need q v h => p.nd q ∧ putK nt s o.dst v h K
    | .stuck => False
/-- One operation with its guard. -/
def wpg (T : Tab) (M : MTab) (nt : Nat) (dr : Bool) (all : List Oper) (o : Oper) (s : St) (K : St → Prop) : Prop :=
  match o.guard with
  | none => wpo p T M nt dr s o K
  | some (j, b) => match (all[j]?).bind (·.dst) with
    | none => False
    | some d => match s.tm d with
      | .bool c => match c with
        | true => match b with
          | true => wpo p T M nt dr ⟨upd s.tm d (.bool true), s.h⟩ o K
          | false => putK nt ⟨upd s.tm d (.bool true), s.h⟩ o.dst .und s.h K
        | false => match b with
          | false => wpo p T M nt dr ⟨upd s.tm d (.bool false), s.h⟩ o K
          | true => putK nt ⟨upd s.tm d (.bool false), s.h⟩ o.dst .und s.h K
      | .und => putK nt s o.dst .und s.h K
      | _ => False
def wpr (T : Tab) (M : MTab) (nt : Nat) (dr : Bool) (all : List Oper) : List Oper → St → (St → Prop) → Prop
  | [], s, K => K s
  | o :: rest, s, K => wpg p T M nt dr all o s fun s' => wpr T M nt dr all rest s' K
def wpc (T : Tab) (M : MTab) (nt : Nat) : Code → St → (Exit → St → Prop) → Prop
  | .skip, s, Q => Q .normal s
  | .label _, s, Q => Q .normal s
  | .region _ ops dr, s, Q => wpr p T M nt dr ops.toList ops.toList s fun s' => Q .normal s'
  | .seq a b, s, Q => wpc T M nt a s fun e s' => match e with
    | .normal => wpc T M nt b s' Q
    | .exit id => Q (.exit id) s'
    | .ret => Q .ret s'
    | e => Q e s'
  | .cond c a b, s, Q => match ev s.tm c with
    | .bool t => match t with
      | true => wpc T M nt a s Q
      | false => wpc T M nt b s Q
    | _ => False
  | .block id b, s, Q => wpc T M nt b s fun e s' => match e with
    | .exit id' => match Nat.beq id' id with
      | true => Q .normal s'
      | false => Q (.exit id') s'
    | .normal => Q .normal s'
    | .ret => Q .ret s'
    | e => Q e s'
  | .loop b, s, Q => p.loop (wpc T M nt b) s Q
  | .rangeFunc f ps assign body, s, Q => p.rfun (ev s.tm f) ps assign body s Q
  | .exit id, s, Q => Q (.exit id) s
  | .ret, s, Q => Q .ret s
  | _, _, _ => False
/-- A result. -/
def resA (T : Tab) (s : St) : ResultVar → Option AVal
  | .tmp t => some (s.tm t)
  | .cell a t => match aLoad p T t (s.tm a) s.h with
    | .ok v _ => some v
    | _ => none
def resAs (T : Tab) (s : St) : List ResultVar → Option (List AVal)
  | [] => some []
  | r :: rs => match resA p T s r with
    | some v => match resAs T s rs with
      | some vs => some (v :: vs)
      | none => none
    | none => none
def one1 : List AVal → AVal
  | [v] => v
  | vs => .tup vs
def endPost (T : Tab) (rs : List ResultVar) (R : AVal → Heap → Prop) : Exit → St → Prop
  | .normal, s | .ret, s => match resAs p T s rs with
    | some vs => p.fin R (one1 vs) s.h
    | none => False
  | _, _ => False
def args0 (l : List AVal) : Nat → AVal := fun t => l.getD t .und
end
end Go.AL
