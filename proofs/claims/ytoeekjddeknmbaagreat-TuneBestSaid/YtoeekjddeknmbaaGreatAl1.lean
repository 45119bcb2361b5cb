/-
  AL: an abstract machine over the model's code: values in which slices that nobody writes are plain lists, a heap of numbered objects, and a predicate transformer 'wpc' over the code itself.
  No theorem here is about a program; definitions only.
-/
import Derived.CallsIn
import Derived.OrdersIn
import Derived.RangeFuncLeaves
import Derived.Laws.World
import Derived.Laws.Rows
import Derived.Laws.AppendOwn
import Derived.Laws.Entries
import Derived.Laws.Append
import Derived.WalkKit
import Derived.Laws.IdiomCopy
import Derived.ChangeKeysEq
import Derived.Laws.CopyRow
import Derived.Laws.StructEq
import Derived.WideLaws
set_option linter.unusedVariables false
namespace Go.AL
open Go
inductive Cap where
 | any | nil | tok (i n : Nat)
inductive Sh where
 | int (k : IntKind) | bool | str | li (k : IntKind) | lg (s : Sh) | rc (l : List Sh) | any
mutual
inductive AVal where
 | bool (b : Bool) | int (k : IntKind) (n : Int) | str (s : List UInt8)
 | ls (p : LX) (c : Cap)
 | sl (i g : Nat) (lo hi : Int)
 | ptr (i off : Nat) | pe (i g : Nat) (ix : Int) (off : Nat) | pp (xs : List AVal) | nilp
 | agg (vs : List AVal) | tup (vs : List AVal)
 | clo (fn : Fn) (first caps : List AVal) | nilf | yld (i : Nat) | hnd (k : Bool) (i : Nat)
 | iface (t : Nat) (v : AVal) | nili
 | und | junk
inductive LX where
 | nl | il (k : IntKind) (l : List Int) | gl (s : Sh) (xs : List AVal)
end
instance : Inhabited AVal := ⟨.junk⟩
def tmL : List (Nat × AVal) → Nat → AVal
 | [], _ => .junk
 | (d, v) :: r, t => match Nat.beq t d with
   | true => v
   | false => tmL r t
structure LoopA where
 st : LoopState
 pend : Option Code
 ps : Array Tmp
 assign : Code
 body : Code
 nt : Nat
 l : List (Nat × AVal)
inductive ObjX where
 | mp (kk vk : IntKind) (es : List (Int × Int))
 | it (s : List UInt8) (pos : Nat)
inductive AObj where
 | box (vs : List AVal)
 | rw (g : Nat) (p : LX)
 | tok (n : Nat)
 | loop (r : LoopA)
 | obj (x : ObjX)
 | dead (g : Nat)
abbrev Heap := List AObj
structure St where
 tm : Nat → AVal
 h : Heap
inductive Need where
 | idx (i n : Int) | bnd (lo hi n : Int) | bnd3 (lo hi m n : Int) | rooml (lo n : Int) (b : Nat) | appn (lo hi n m : Int) (b : Nat) | bnd4 (a b n : Int) | nz (n : Int) | ge0 (n : Int) | room (n : Int) (b : Nat) | srm (n : Int) | ne (n : Int)
inductive AR where
 | ok (v : AVal) (h : Heap)
 | need (q : Need) (v : AVal) (h : Heap)
 | stuck
structure Pr where
 i2 : BinOp → IntKind → Int → Int → Int
 c2 : BinOp → Int → Int → Bool
 u1 : UnOp → IntKind → Int → Int
 cv : IntKind → Int → Int
 mx : Int → Int → Int
 mn : Int → Int → Int
 ad : Int → Int → Int
 sbt : Int → Int → Int
 bn : Bool → Bool
 bq : Bool → Bool → Bool
 ba : Bool → Bool → Bool
 lnI : List Int → Int
 gtI : List Int → Int → Int
 apI : List Int → List Int → List Int
 sbI : List Int → Int → Int → List Int
 stI : List Int → Int → Int → List Int
 rpI : Int → Int → List Int
 lnG : List AVal → Int
 gtG : List AVal → Int → AVal
 apG : List AVal → List AVal → List AVal
 sbG : List AVal → Int → Int → List AVal
 stG : List AVal → Int → AVal → List AVal
 rpG : Int → AVal → List AVal
 fi : AVal → Int
 fb : AVal → Bool
 fs : AVal → List UInt8
 fl : AVal → List Int
 fg : AVal → List AVal
 fc : AVal → Nat → AVal
 sln : List UInt8 → Int
 sgt : List UInt8 → Int → Int
 sap : List UInt8 → List UInt8 → List UInt8
 ssb : List UInt8 → Int → Int → List UInt8
 sc : BinOp → List UInt8 → List UInt8 → Bool
 b2s : List Int → List UInt8
 s2b : List UInt8 → List Int
 nd : Need → Prop
 call : FuncId → List AVal → Heap → (AVal → Heap → Prop) → Prop
 calld : FuncId → List AVal → Heap → (AVal → Prop) → Prop
 callv : AVal → List AVal → Heap → (AVal → Heap → Prop) → Prop
 callvd : AVal → List AVal → Heap → (AVal → Prop) → Prop
 loop : (St → (Exit → St → Prop) → Prop) → St → (Exit → St → Prop) → Prop
 rfun : AVal → Array Tmp → Code → Code → St → (Exit → St → Prop) → Prop
 fin : (AVal → Heap → Prop) → AVal → Heap → Prop
 rowq : Nat → Bool
 strict : Nat → Bool
inductive TD where
 | int (k : IntKind) | bool | str | slice (e : Nat) | array (n e : Nat) | struct (fs : List (Nat × Nat)) | ptr (e : Nat) | iface | func | map (k e : Nat) | other
structure TI where
 d : TD
 sz : Nat
 by_ : Nat
 zero : AVal
 eqf : Bool := true
abbrev TabL := List (Nat × TI)
def TabL.get? : TabL → Nat → Option TI
 | [], _ => none
 | (t, i) :: r, u => match Nat.beq t u with
   | true => some i
   | false => TabL.get? r u
abbrev Tab := Nat → Option TI
def Tab.get? (T : Tab) (t : Nat) : Option TI := T t
def TD.isAgg : TD → Bool
 | .struct _ | .array _ _ => true
 | _ => false
abbrev MTabL := List (Nat × String × Nat × Option Nat)
def MTabL.get? : MTabL → Nat → String → Option (Nat × Option Nat)
 | [], _, _ => none
 | (t, n, f, d) :: r, u, m => match Nat.beq t u with
   | true => match decide (n = m) with
     | true => some (f, d)
     | false => MTabL.get? r u m
   | false => MTabL.get? r u m
abbrev MTab := Nat → String → Option (Nat × Option Nat)
def MTab.get? (M : MTab) (t : Nat) (m : String) : Option (Nat × Option Nat) := M t m
def AVal.cells : AVal → List AVal
 | .agg vs => vs
 | v => [v]
def Sh.k : Sh → Nat
 | .rc l => l.length
 | _ => 1
def LX.k : LX → Nat
 | .nl => 0
 | .il _ _ => 1
 | .gl s _ => s.k
def LX.toL : LX → List AVal
 | .nl => []
 | .il k l => l.map (.int k)
 | .gl _ xs => xs
def putCells : List AVal → Nat → List AVal → List AVal
 | xs, 0, vs => vs ++ xs.drop vs.length
 | [], _ + 1, vs => vs
 | x :: xs, n + 1, vs => x :: putCells xs n vs
def part (ti : TI) (cs : List AVal) (off : Nat) : AVal :=
 match ti.d.isAgg with
 | true => .agg ((cs.drop off).take ti.sz)
 | false => cs.getD off .junk
def IntKind.same : IntKind → IntKind → Bool
 | .i8, .i8 | .i16, .i16 | .i32, .i32 | .i64, .i64 | .u8, .u8 | .u16, .u16 | .u32, .u32 | .u64, .u64 => true
 | _, _ => false
mutual
def Sh.same : Sh → Sh → Bool
 | .int a, .int b => IntKind.same a b
 | .bool, .bool => true
 | .str, .str => true
 | .li a, .li b => IntKind.same a b
 | .lg a, .lg b => Sh.same a b
 | .rc a, .rc b => Sh.sames a b
 | .any, .any => true
 | _, _ => false
def Sh.sames : List Sh → List Sh → Bool
 | [], [] => true
 | a :: x, b :: y => match Sh.same a b with
   | true => Sh.sames x y
   | false => false
 | _, _ => false
end
mutual
/-- The shape of a value that is written out. -/
def shOf : AVal → Sh
 | .int k _ => .int k
 | .bool _ => .bool
 | .str _ => .str
 | .ls (.il k _) .any => .li k
 | .ls (.gl s _) .any => .lg s
 | .agg vs => .rc (shsOf vs)
 | _ => .any
def shsOf : List AVal → List Sh
 | [] => []
 | v :: r => shOf v :: shsOf r
end
def LX.kOK (z : Nat) : LX → Bool
 | .nl => true
 | .il _ _ => Nat.beq 1 z
 | .gl s _ => Nat.beq s.k z
section
variable (p : Pr)
mutual
/-- An element of a shape, taken apart. -/
def eta : Sh → AVal → AVal
 | .int k, x => .int k (p.fi x)
 | .bool, x => .bool (p.fb x)
 | .str, x => .str (p.fs x)
 | .li k, x => .ls (.il k (p.fl x)) .any
 | .lg s, x => .ls (.gl s (p.fg x)) .any
 | .rc l, x => .agg (etas l 0 x)
 | .any, x => x
def etas : List Sh → Nat → AVal → List AVal
 | [], _, _ => []
 | s :: r, j, x => eta s (p.fc x j) :: etas r (j + 1) x
end
def LX.len : LX → Int
 | .nl => 0
 | .il _ l => p.lnI l
 | .gl _ xs => p.lnG xs
def LX.get : LX → Int → AVal
 | .nl, _ => .junk
 | .il k l, i => .int k (p.gtI l i)
 | .gl s xs, i => eta p s (p.gtG xs i)
def LX.app : LX → LX → Option LX
 | .nl, q => some q
 | x, .nl => some x
 | .il k l, .il k' m => match IntKind.same k k' with
   | true => some (.il k (p.apI l m))
   | false => none
 | .gl s xs, .gl s' ys => match Sh.same s s' with
   | true => some (.gl s (p.apG xs ys))
   | false => none
 | _, _ => none
def LX.sub : LX → Int → Int → LX
 | .nl, _, _ => .nl
 | .il k l, a, b => .il k (p.sbI l a b)
 | .gl s xs, a, b => .gl s (p.sbG xs a b)
def LX.set : LX → Int → AVal → Option LX
 | .il k l, i, .int k' n => match IntKind.same k k' with
   | true => some (.il k (p.stI l i n))
   | false => none
 | .gl s xs, i, v => match Sh.same s (shOf v) with
   | true => some (.gl s (p.stG xs i v))
   | false => none
 | _, _, _ => none
def LX.splice (q : LX) (a : Int) (r : LX) (m : Int) : Option LX := match (q.sub p 0 a).app p (r.sub p 0 m) with
 | some s => s.app p (q.sub p (p.ad a m) (q.len p))
 | none => none
def LX.nil0 : LX → LX
 | .nl => .nl
 | .il k _ => .il k []
 | .gl s _ => .gl s []
def intsOf (k : IntKind) : List AVal → Option (List Int)
 | [] => some []
 | .int k' n :: r => match IntKind.same k k' with
   | true => match intsOf k r with
     | some l => some (n :: l)
     | none => none
   | false => none
 | _ :: _ => none
def allSh (s : Sh) : List AVal → Bool
 | [] => true
 | v :: r => match Sh.same s (shOf v) with
   | true => allSh s r
   | false => false
def mkLX : List AVal → Option LX
 | [] => some .nl
 | .int k n :: r => match intsOf k (.int k n :: r) with
   | some l => some (.il k l)
   | none => none
 | v :: r => match allSh (shOf v) (v :: r) with
   | true => some (.gl (shOf v) (v :: r))
   | false => none
def repLX (n : Int) : AVal → LX
 | .int k m => .il k (p.rpI n m)
 | v => .gl (shOf v) (p.rpG n v)
def evc : Value → AVal
 | .bool b => .bool b
 | .int k n => .int k n
 | .string s => .str s.data.toList
 | .slice none 0 0 => .ls .nl .nil
 | .nilFunc => .nilf
 | .nilIface => .nili
 | .pointer none => .nilp
 | _ => .junk
def ev (tm : Nat → AVal) : Operand → AVal
 | .tmp t => tm t
 | .const v => evc v
 | .func f => .clo (.func f) [] []
 | .global _ => .junk
def cnat : Operand → Option Nat
 | .const (.int _ (.ofNat n)) => some n
 | _ => none
def oneA : AVal → Bool
 | .agg _ | .tup _ | .und | .junk => false
 | _ => true
def allOne : List AVal → Bool
 | [] => true
 | v :: r => match oneA v with
   | true => allOne r
   | false => false
def eqs : List AVal → List AVal → Option Bool
 | [], [] => some true
 | .int _ a :: x, .int _ b :: y => match eqs x y with
   | some t => some (p.ba (p.c2 .eql a b) t)
   | none => none
 | .bool a :: x, .bool b :: y => match eqs x y with
   | some t => some (p.ba (p.bq a b) t)
   | none => none
 | .str a :: x, .str b :: y => match eqs x y with
   | some t => some (p.ba (p.sc .eql a b) t)
   | none => none
 | _, _ => none
def flatEq (T : Tab) : Nat → Nat → Option (List Sh)
 | 0, _ => none
 | d + 1, t => match Tab.get? T t with
   | some ti => match ti.d with
     | .int k => some [.int k]
     | .bool => some [.bool]
     | .str => some [.str]
     | .struct fs => match ti.eqf with
       | true => match flats T d fs 0 with
         | some l => match Nat.beq l.length ti.sz with
           | true => some l
           | false => none
         | none => none
       | false => none
     | .array m e => match ti.eqf with
       | true => match flatEq T d e with
         | some l => match Nat.beq (List.replicate m l).flatten.length ti.sz with
           | true => some (List.replicate m l).flatten
           | false => none
         | none => none
       | false => none
     | _ => none
   | none => none
where flats (T : Tab) (d : Nat) : List (Nat × Nat) → Nat → Option (List Sh)
 | [], _ => some []
 | (off, t) :: r, at_ => match Nat.beq off at_ with
   | true => match flatEq T d t with
     | some l => match flats T d r (at_ + l.length) with
       | some m => some (l ++ m)
       | none => none
     | none => none
   | false => none
def fitsSh : List Sh → List AVal → Bool
 | [], [] => true
 | .int k :: r, .int k' _ :: s => match IntKind.same k k' with
   | true => fitsSh r s
   | false => false
 | .bool :: r, .bool _ :: s => fitsSh r s
 | .str :: r, .str _ :: s => fitsSh r s
 | _, _ => false
def aEqAgg (T : Tab) (op : BinOp) (t : Nat) (a b : List AVal) (h : Heap) : AR :=
 match flatEq T 8 t with
 | some sh => match (match Tab.get? T t with
   | some ti => match ti.d.isAgg with
     | true => ti.eqf
     | false => false
   | none => false) with
  | true => match fitsSh sh a with
   | true => match fitsSh sh b with
     | true => match eqs p a b with
       | some r => match op with
         | .eql => .ok (.bool r) h
         | .neq => .ok (.bool (p.bn r)) h
         | _ => .stuck
       | none => .stuck
     | false => .stuck
   | false => .stuck
  | false => .stuck
 | none => .stuck
def aPtrNil (T : Tab) (op : BinOp) (t : Nat) (b : Bool) (h : Heap) : AR := match Tab.get? T t with
 | some ti => match ti.d with
   | .ptr _ => match op with
     | .eql => .ok (.bool b) h
     | .neq => .ok (.bool (!b)) h
     | _ => .stuck
   | _ => .stuck
 | none => .stuck
def aBin (T : Tab) (op : BinOp) (t : Nat) (x y : AVal) (h : Heap) : AR :=
 match x, y with
 | .int k a, .int k' b => match op with
   | .shl | .shr => .need (.ge0 b) (.int k (p.i2 op k a b)) h
   | _ => match IntKind.same k k' with
     | true => match op with
       | .quo | .rem => .need (.nz b) (.int k (p.i2 op k a b)) h
       | .add | .sub | .mul | .and | .or | .xor | .andNot => .ok (.int k (p.i2 op k a b)) h
       | _ => .ok (.bool (p.c2 op a b)) h
     | false => .stuck
 | .bool a, .bool b => match Tab.get? T t with
   | some ti => match ti.d with
     | .bool => match op with
       | .eql => .ok (.bool (p.bq a b)) h
       | .neq => .ok (.bool (p.bn (p.bq a b))) h
       | _ => .stuck
     | _ => .stuck
   | none => .stuck
 | .str a, .str b => match op with
   | .add => .need (.srm (p.ad (p.sln a) (p.sln b))) (.str (p.sap a b)) h
   | .sub | .mul | .quo | .rem | .and | .or | .xor | .andNot | .shl | .shr => .stuck
   | _ => .ok (.bool (p.sc op a b)) h
 | .agg a, .agg b => aEqAgg p T op t a b h
 | .ls q c, .ls .nl .nil => match Tab.get? T t with
   | some ti => match ti.d with
     | .slice _ => match op with
       | .eql => match c with
         | .nil => .ok (.bool true) h
         | _ => .need (.ne (q.len p)) (.bool false) h
       | .neq => match c with
         | .nil => .ok (.bool false) h
         | _ => .need (.ne (q.len p)) (.bool true) h
       | _ => .stuck
     | _ => .stuck
   | none => .stuck
 | .sl i g _ _, .ls .nl .nil => match Tab.get? T t with
   | some ti => match ti.d with
     | .slice _ => match h[i]? with
       | some (.rw g' q) => match Nat.beq g g' with
         | true => match op with
           | .eql => .need (.ne (q.len p)) (.bool false) h
           | .neq => .need (.ne (q.len p)) (.bool true) h
           | _ => .stuck
         | false => .stuck
       | _ => .stuck
     | _ => .stuck
   | none => .stuck
 | .iface _ _, .nili => match Tab.get? T t with
   | some ti => match ti.d with
     | .iface => match op with
       | .eql => .ok (.bool false) h
       | .neq => .ok (.bool true) h
       | _ => .stuck
     | _ => .stuck
   | none => .stuck
 | .ptr i _, .nilp => match h[i]? with
   | some (.box _) => aPtrNil T op t false h
   | _ => .stuck
 | .pp _, .nilp => aPtrNil T op t false h
 | .nilp, .nilp => aPtrNil T op t true h
 | _, _ => .stuck
def fillA (place : Nat → Option (Nat × Nat)) : List (Nat × AVal) → List AVal → Option (List AVal)
 | [], cs => some cs
 | (i, x) :: r, cs => match place i with
   | none => none
   | some (off, size) => match Nat.beq x.cells.length size with
     | true => match Nat.ble (off + size) cs.length with
       | true => fillA place r (putCells cs off x.cells)
       | false => none
     | false => none
def placeOf (fs : List (Nat × Nat)) (T : Tab) (i : Nat) : Option (Nat × Nat) :=
 match fs[i]? with
 | some (off, t) => match Tab.get? T t with
   | some ti => some (off, ti.sz)
   | none => none
 | none => none
def allIn (T : Tab) : List (Nat × Nat) → Bool
 | [] => true
 | (_, t) :: r => match Tab.get? T t with
   | some _ => allIn T r
   | none => false
def chunk (k : Nat) : Nat → List AVal → List AVal
 | 0, _ => []
 | n + 1, cs => (match Nat.beq k 1 with
   | true => cs.getD 0 .junk
   | false => .agg (cs.take k)) :: chunk k n (cs.drop k)
def allPure : List AVal → Bool
 | [] => true
 | v :: r => match isPure v with
   | true => allPure r
   | false => false
where isPure : AVal → Bool
 | .bool _ | .int _ _ | .str _ | .ls _ .any | .ls _ .nil | .pp _ | .nilp | .nilf | .nili => true
 | .agg vs => allPure vs
 | _ => false
def noJunk : List (Nat × AVal) → Bool
 | [] => true
 | (_, .junk) :: _ => false
 | _ :: r => noJunk r
def zrep (n : Nat) (z : List AVal) : List AVal := (List.replicate n z).flatten
def aAlloc (T : Tab) (t : Nat) (h : Heap) : AR := match Tab.get? T t with
 | some ti => .ok (.ptr h.length 0) (h ++ [.box ti.zero.cells])
 | none => .stuck
def aBox (v : AVal) (h : Heap) : AR := match allOne v.cells with
 | true => .ok (.ptr h.length 0) (h ++ [.box v.cells])
 | false => .stuck
def aBuild (T : Tab) (t : Nat) (parts : List (Nat × AVal)) (h : Heap) : AR := match noJunk parts with
 | false => .stuck
 | true => match Tab.get? T t with
  | some ti => match ti.d with
    | .struct fs => match allIn T fs with
      | true => match fillA (placeOf fs T) parts ti.zero.cells with
        | some cs => .ok (.agg cs) h
        | none => .stuck
      | false => .stuck
    | .array _ e => match Tab.get? T e with
      | some te => match fillA (fun i => some (i * te.sz, te.sz)) parts ti.zero.cells with
        | some cs => .ok (.agg cs) h
        | none => .stuck
      | none => .stuck
    | _ => .stuck
  | none => .stuck
def litq (h : Heap) : Bool := match p.rowq h.length with
 | true => false
 | false => p.rowq (h.length + 64)
def aBuildSlice (T : Tab) (t len : Nat) (parts : List (Nat × AVal)) (h : Heap) : AR := match noJunk parts with
 | false => .stuck
 | true => match Tab.get? T t with
  | some ti => match ti.d with
    | .slice e => match Tab.get? T e with
      | some te => match Nat.blt 0 te.sz with
        | true => match Nat.ble (len * te.sz) 10000 with
          | true => match fillA (fun i => some (i * te.sz, te.sz)) parts (zrep len te.zero.cells) with
            | some cs => match allPure cs with
              | true => match allOne cs with
                | true => match mkLX (chunk te.sz len cs) with
                  | some q => match q.kOK te.sz with
                    | true => match litq p h with
                      | false => .ok (.ls q (.tok h.length 0)) (h ++ [.tok 0])
                      | true => match len with
                        | 0 => match te.d with
                          | .int k => .ok (.sl h.length 0 0 0) (h ++ [.rw 0 (.il k [])])
                          | _ => .ok (.ls q (.tok h.length 0)) (h ++ [.tok 0])
                        | _ + 1 => .ok (.sl h.length 0 0 (len : Nat)) (h ++ [.rw 0 q])
                    | false => .stuck
                  | none => .stuck
                | false => .stuck
              | false => .stuck
            | none => .stuck
          | false => .stuck
        | false => .stuck
      | none => .stuck
    | _ => .stuck
  | none => .stuck
def aLoad (T : Tab) (t : Nat) (a : AVal) (h : Heap) : AR := match Tab.get? T t with
 | some ti => match a with
   | .ptr i off => match h[i]? with
     | some (.box vs) => match Nat.ble (off + ti.sz) vs.length with
       | true => .ok (part ti vs off) h
       | false => .stuck
     | _ => .stuck
   | .pe i g ix off => match h[i]? with
     | some (.rw g' q) => match Nat.beq g g' with
       | true => match Nat.ble (off + ti.sz) (q.get p ix).cells.length with
         | true => .ok (part ti (q.get p ix).cells off) h
         | false => .stuck
       | false => .stuck
     | _ => .stuck
   | .pp xs => match Nat.ble ti.sz xs.length with
     | true => .ok (part ti xs 0) h
     | false => .stuck
   | _ => .stuck
 | none => .stuck
def aStore (T : Tab) (t : Nat) (a v : AVal) (h : Heap) : AR := match Tab.get? T t with
 | some ti => match Nat.beq v.cells.length ti.sz with
   | true => match allOne v.cells with
     | true => match a with
       | .ptr i off => match h[i]? with
         | some (.box vs) => match Nat.ble (off + ti.sz) vs.length with
           | true => .ok .und (h.set i (.box (putCells vs off v.cells)))
           | false => .stuck
         | _ => .stuck
       | .pe i g ix off => match h[i]? with
         | some (.rw g' q) => match Nat.beq g g' with
           | true => match Nat.beq ti.sz q.k with
             | true => match Nat.beq off 0 with
               | true => match q.set p ix v with
                 | some q' => .ok .und (h.set i (.rw g q'))
                 | none => .stuck
               | false => .stuck
             | false => match Nat.ble (off + ti.sz) q.k with
               | true => match q.set p ix (.agg (putCells (q.get p ix).cells off v.cells)) with
                 | some q' => .ok .und (h.set i (.rw g q'))
                 | none => .stuck
               | false => .stuck
           | false => .stuck
         | _ => .stuck
       | _ => .stuck
     | false => .stuck
   | false => .stuck
 | none => .stuck
def aNil (x : AVal) (h : Heap) : AR := match x with
 | .ptr i off => match h[i]? with
   | some (.box _) => .ok (.ptr i off) h
   | _ => .stuck
 | .pp xs => .ok (.pp xs) h
 | .clo (.func f) first caps => .ok (.clo (.func f) first caps) h
 | .iface t v => .ok (.iface t v) h
 | _ => .stuck
def aUn (op : UnOp) (x : AVal) (h : Heap) : AR := match op, x with
 | .not, .bool b => .ok (.bool (p.bn b)) h
 | .neg, .int k n => .ok (.int k (p.u1 .neg k n)) h
 | .xor, .int k n => .ok (.int k (p.u1 .xor k n)) h
 | _, _ => .stuck
def aConv (T : Tab) (s d : Nat) (x : AVal) (h : Heap) : AR := match Tab.get? T s with
 | some ts => match Tab.get? T d with
   | some td => match td.d with
     | .int k => match x with
       | .int _ n => .ok (.int k (p.cv k n)) h
       | _ => .stuck
     | .str => match x with
       | .str s => match ts.d with
         | .str => .ok (.str s) h
         | _ => .stuck
       | .ls q _ => match ts.d with
         | .slice e => match Tab.get? T e with
           | some te => match te.d with
             | .int .u8 => match q with
               | .il .u8 l => .ok (.str (p.b2s l)) h
               | _ => .stuck
             | _ => .stuck
           | none => .stuck
         | _ => .stuck
       | _ => .stuck
     | _ => .stuck
   | none => .stuck
 | none => .stuck
def aMkI (T : Tab) (t : Nat) (x : AVal) (h : Heap) : AR := match Tab.get? T t with
 | some ti => match ti.d with
   | .iface => .stuck
   | .other => .stuck
   | _ => .ok (.iface t x) h
 | none => .stuck
def aMkS (T : Tab) (t : Nat) (l c : AVal) (same : Bool) (h : Heap) : AR := match Tab.get? T t with
 | some ti => match ti.d with
   | .slice e => match Tab.get? T e with
     | some te => match l, c with
       | .int .i64 n, .int .i64 _ => match same with
         | true => match allOne te.zero.cells with
           | true => match (repLX p n te.zero) with
             | q => match Nat.beq q.k te.sz with
               | true => match Nat.blt 0 te.sz with
                 | true => .need (.room n te.by_) (.sl h.length 0 0 n) (h ++ [.rw 0 q])
                 | false => .stuck
               | false => .stuck
           | false => .stuck
         | false => .stuck
       | _, _ => .stuck
     | none => .stuck
   | _ => .stuck
 | none => .stuck
def opt0 (d : Int) : Option AVal → Option Int
 | none => some d
 | some (.int _ n) => some n
 | _ => none
def isSl (T : Tab) (t : Nat) : Bool := match Tab.get? T t with
 | some ti => match ti.d with
   | .slice _ => true
   | _ => false
 | none => false
def slElem (T : Tab) (t : Nat) : Option TI := match Tab.get? T t with
 | some ti => match ti.d with
   | .slice e => Tab.get? T e
   | _ => none
 | none => none
def aSlice (T : Tab) (t : Nat) (x : AVal) (lo hi mx : Option AVal) (h : Heap) : AR := match mx with
 | none => match x with
   | .str s => match Tab.get? T t with
     | some ti => match ti.d with
       | .str => match opt0 0 lo with
         | some a => match opt0 (p.sln s) hi with
           | some b => .need (.bnd a b (p.sln s)) (.str (p.ssb s a b)) h
           | none => .stuck
         | none => .stuck
       | _ => .stuck
     | none => .stuck
   | .ls q c => match slElem T t with
     | some te => match q.kOK te.sz with
       | true => match opt0 0 lo with
         | some a => match opt0 (q.len p) hi with
           | some b => .need (.bnd a b (q.len p)) (.ls (q.sub p a b) (match c with
             | .tok i n => match hi with
               | none => .tok i n
               | some _ => .any
             | _ => .any)) h
           | none => .stuck
         | none => .stuck
       | false => .stuck
     | none => .stuck
   | .sl i g l u => match slElem T t with
     | some te => match h[i]? with
       | some (.rw g' q) => match Nat.beq g g' with
         | true => match q.kOK te.sz with
           | true => match opt0 0 lo with
             | some a => match opt0 (p.sbt u l) hi with
               | some b => .need (.bnd a b (p.sbt (q.len p) l)) (.sl i g (p.ad l a) (p.ad l b)) h
               | none => .stuck
             | none => .stuck
           | false => .stuck
         | false => .stuck
       | _ => .stuck
     | none => .stuck
   | _ => .stuck
 | some m => match x, hi with
   | .ls q c, some hv => match slElem T t with
     | some te => match q.kOK te.sz with
       | true => match opt0 0 lo with
         | some a => match hv with
           | .int _ b => match m with
             | .int _ d => .need (.bnd3 a b d (q.len p)) (.ls (q.sub p a b) .any) h
             | _ => .stuck
           | _ => .stuck
         | none => .stuck
       | false => .stuck
     | none => .stuck
   | _, _ => .stuck
def aFieldAddr (T : Tab) (s : Nat) (x : AVal) (f : Nat) (h : Heap) : AR := match Tab.get? T s with
 | some ti => match ti.d with
   | .struct fs => match fs[f]? with
     | some (off, t) => match Tab.get? T t with
       | some tf => match Nat.blt 0 tf.sz with
         | true => match x with
           | .ptr i o => match h[i]? with
             | some (.box vs) => match Nat.ble (o + off) vs.length with
               | true => .ok (.ptr i (o + off)) h
               | false => .stuck
             | _ => .stuck
           | .pe i g ix o => match h[i]? with
             | some (.rw g' _) => match Nat.beq g g' with
               | true => .ok (.pe i g ix (o + off)) h
               | false => .stuck
             | _ => .stuck
           | .pp xs => match Nat.ble off xs.length with
             | true => .ok (.pp (xs.drop off)) h
             | false => .stuck
           | _ => .stuck
         | false => .stuck
       | none => .stuck
     | none => .stuck
   | _ => .stuck
 | none => .stuck
def aField (T : Tab) (s : Nat) (x : AVal) (f : Nat) (h : Heap) : AR := match Tab.get? T s with
 | some ti => match ti.d with
   | .struct fs => match fs[f]? with
     | some (off, t) => match Tab.get? T t with
       | some tf => match x with
         | .agg cs => match Nat.ble (off + tf.sz) cs.length with
           | true => .ok (part tf cs off) h
           | false => .stuck
         | _ => .stuck
       | none => .stuck
     | none => .stuck
   | _ => .stuck
 | none => .stuck
def aIndexAddr (T : Tab) (t : Nat) (x i : AVal) (ci : Option Nat) (h : Heap) : AR := match Tab.get? T t with
 | some ti => match ti.d with
   | .slice e => match Tab.get? T e with
     | some te => match x with
       | .ls q _ => match i with
         | .int _ n => match Nat.beq te.sz q.k with
           | true => .need (.idx n (q.len p)) (.pp (q.get p n).cells) h
           | false => .stuck
         | _ => .stuck
       | .sl j g lo hi => match i with
         | .int _ n => match h[j]? with
           | some (.rw g' q) => match Nat.beq g g' with
             | true => match Nat.beq te.sz q.k with
               | true => .need (.idx n (p.sbt hi lo)) (.pe j g (p.ad lo n) 0) h
               | false => .stuck
             | false => .stuck
           | _ => .stuck
         | _ => .stuck
       | _ => .stuck
     | none => .stuck
   | .array m e => match Tab.get? T e with
     | some te => match ci with
       | some n => match Nat.blt n m with
         | true => match x with
           | .ptr j o => match h[j]? with
             | some (.box vs) => match Nat.ble (o + n * te.sz) vs.length with
               | true => .ok (.ptr j (o + n * te.sz)) h
               | false => .stuck
             | _ => .stuck
           | .pp xs => match Nat.ble (n * te.sz) xs.length with
             | true => .ok (.pp (xs.drop (n * te.sz))) h
             | false => .stuck
           | _ => .stuck
         | false => .stuck
       | none => .stuck
     | none => .stuck
   | _ => .stuck
 | none => .stuck
def aIndex (T : Tab) (t : Nat) (x i : AVal) (ci : Option Nat) (h : Heap) : AR := match Tab.get? T t with
 | some ti => match ti.d with
   | .str => match x with
     | .str s => match i with
       | .int _ n => .need (.idx n (p.sln s)) (.int .u8 (p.sgt s n)) h
       | _ => .stuck
     | _ => .stuck
   | .array m e => match Tab.get? T e with
     | some te => match x with
       | .agg cs => match Nat.beq cs.length (m * te.sz) with
         | true => match ci with
           | some n => match Nat.blt n m with
             | true => .ok (part te cs (n * te.sz)) h
             | false => .stuck
           | none => match i with
             | .int _ n => match te.d.isAgg with
               | true => match mkLX (chunk te.sz m cs) with
                 | some (.gl s xs) => match s with
                   | .rc l => match Nat.beq l.length te.sz with
                     | true => match Nat.beq te.sz 1 with
                       | true => .stuck
                       | false => .need (.idx n m) ((LX.gl s xs).get p n) h
                     | false => .stuck
                   | _ => .stuck
                 | _ => .stuck
               | false => match Nat.beq te.sz 1 with
                 | true => match mkLX cs with
                   | some (.il k l) => .need (.idx n m) ((LX.il k l).get p n) h
                   | _ => .stuck
                 | false => .stuck
             | _ => .stuck
         | false => .stuck
       | _ => .stuck
     | none => .stuck
   | _ => .stuck
 | none => .stuck
def aExtract (x : AVal) (i : Nat) (h : Heap) : AR := match x with
 | .tup vs => match vs[i]? with
   | some v => .ok v h
   | none => .stuck
 | _ => .stuck
def aAssert (T : Tab) (x : AVal) (a : Nat) (ok : Bool) (h : Heap) : AR := match x with
 | .iface t v => match Tab.get? T a with
   | some ta => match ta.d with
     | .iface => .stuck
     | .other => .stuck
     | _ => match Nat.beq t a with
       | true => match ok with
         | true => .ok (.tup [v, .bool true]) h
         | false => .ok v h
       | false => match ok with
         | true => .ok (.tup [ta.zero, .bool false]) h
         | false => .stuck
   | none => .stuck
 | _ => .stuck
def aLen (T : Tab) (t : Nat) (x : AVal) (h : Heap) : AR := match Tab.get? T t with
 | some ti => match ti.d with
   | .slice _ => match x with
     | .ls q _ => .ok (.int .i64 (q.len p)) h
     | .sl i g lo hi => match h[i]? with
       | some (.rw g' _) => match Nat.beq g g' with
         | true => .ok (.int .i64 (p.sbt hi lo)) h
         | false => .stuck
       | _ => .stuck
     | _ => .stuck
   | .str => match x with
     | .str s => .ok (.int .i64 (p.sln s)) h
     | _ => .stuck
   | .array m _ => .ok (.int .i64 m) h
   | _ => .stuck
 | none => .stuck
def aMax (x y : AVal) (h : Heap) : AR := match x, y with
 | .int k a, .int _ b => .ok (.int k (p.mx a b)) h
 | _, _ => .stuck
def aMin (x y : AVal) (h : Heap) : AR := match x, y with
 | .int k a, .int _ b => .ok (.int k (p.mn a b)) h
 | _, _ => .stuck
def asR (y : AVal) (h : Heap) : Option LX := match y with
 | .ls r _ => some r
 | .sl j g lo hi => match h[j]? with
   | some (.rw g' q) => match Nat.beq g g' with
     | true => some (q.sub p lo hi)
     | false => none
   | _ => none
 | _ => none
def asL (y : AVal) (h : Heap) : Option LX := match y with
 | .ls r _ => some r
 | .sl j g lo hi => match h[j]? with
   | some (.rw g' q) => match Nat.beq g g' with
     | true => match q with
       | .il k l => some (.il k (p.sbI l lo hi))
       | _ => none
     | false => none
   | _ => none
 | _ => none
def isOwn (i : Nat) (y : AVal) : Bool := match y with
 | .sl j _ _ _ => Nat.beq i j
 | _ => false
def aSlice3 (T : Tab) (t : Nat) (x : AVal) (lo : Option AVal) (hi m : AVal) (same : Bool) (h : Heap) : AR := match same with
 | true => match slElem T t with
   | some te => match opt0 0 lo with
     | some a => match hi with
       | .int _ b => match m with
         | .int _ _ => match x with
           | .ls q _ => match q.kOK te.sz with
             | true => match litq p h with
               | false => .need (.bnd a b (q.len p)) (.ls (q.sub p a b) (.tok h.length 0)) (h ++ [.tok 0])
               | true => .need (.bnd4 a b (q.len p)) (.sl h.length 0 0 0) (h ++ [.rw 0 q.nil0])
             | false => .stuck
           | .sl i g l u => match h[i]? with
             | some (.rw g' q) => match Nat.beq g g' with
               | true => match q.kOK te.sz with
                 | true => .need (.bnd4 a b (p.sbt u l)) (.ls q.nil0 (.tok h.length 0)) (h ++ [.tok 0])
                 | false => .stuck
               | false => .stuck
             | _ => .stuck
           | _ => .stuck
         | _ => .stuck
       | _ => .stuck
     | none => .stuck
   | none => .stuck
 | false => match x with
   | .sl i g l u => match slElem T t with
     | some _ => match opt0 0 lo with
       | some a => match hi with
         | .int _ b => match m with
           | .int _ d => match h[i]? with
             | some (.rw g' _) => match Nat.beq g g' with
               | true => .need (.bnd3 a b d (p.sbt u l)) .junk h
               | false => .stuck
             | _ => .stuck
           | _ => .stuck
         | _ => .stuck
       | none => .stuck
     | none => .stuck
   | _ => aSlice p T t x lo (some hi) (some m) h
def aCopy (T : Tab) (t : Nat) (x y : AVal) (h : Heap) : AR := match slElem T t with
 | some te => match Nat.blt 0 te.sz with
   | true => match x with
     | .sl i g lo hi => match h[i]? with
       | some (.rw g' q) => match Nat.beq g g' with
         | true => match Nat.beq q.k te.sz with
           | true => match asR p y h with
             | some r => match r.kOK te.sz with
               | true => match q.splice p lo r (p.mn (p.sbt hi lo) (r.len p)) with
                 | some q' => .ok (.int .i64 (p.mn (p.sbt hi lo) (r.len p))) (h.set i (.rw g q'))
                 | none => .stuck
               | false => .stuck
             | none => .stuck
           | false => .stuck
         | false => .stuck
       | _ => .stuck
     | _ => .stuck
   | false => .stuck
 | none => .stuck
def aClear (T : Tab) (t : Nat) (x : AVal) (h : Heap) : AR := match slElem T t with
 | some te => match Nat.blt 0 te.sz with
   | true => match allOne te.zero.cells with
     | true => match x with
       | .sl i g lo hi => match h[i]? with
         | some (.rw g' q) => match Nat.beq g g' with
           | true => match Nat.beq q.k te.sz with
             | true => match q.splice p lo (repLX p (p.sbt hi lo) te.zero) (p.sbt hi lo) with
               | some q' => .ok (.tup []) (h.set i (.rw g q'))
               | none => .stuck
             | false => .stuck
           | false => .stuck
         | _ => .stuck
       | _ => .stuck
     | false => .stuck
   | false => .stuck
 | none => .stuck
def aAppend (T : Tab) (t t2 : Nat) (x y : AVal) (h : Heap) : AR := match slElem T t with
 | some te => match isSl T t2 with
   | true => match x with
     | .ls q c => match asL p y h with
       | some r => match r.kOK te.sz with
         | true => match q.kOK te.sz with
           | true => match Nat.blt 0 te.sz with
             | true => match q.app p r with
               | some s => match c with
                 | .nil => match p.rowq h.length with
                   | false => .need (.room (p.ad (q.len p) (r.len p)) te.by_) (.ls s (.tok h.length 0)) (h ++ [.tok 0])
                   | true => match Nat.beq r.k te.sz with
                     | true => match r.nil0.app p r with
                       | some s' => .need (.room (p.ad (q.len p) (r.len p)) te.by_) (.sl h.length 1 0 (s'.len p)) (h ++ [.rw 1 s'])
                       | none => .stuck
                     | false => .stuck
                 | .tok i n => match h[i]? with
                   | some (.tok n') => match Nat.beq n n' with
                     | true => .need (.room (p.ad (q.len p) (r.len p)) te.by_) (.ls s (.tok i (n + 1))) (h.set i (.tok (n + 1)))
                     | false => .stuck
                   | _ => .stuck
                 | .any => .stuck
               | none => .stuck
             | false => .stuck
           | false => .stuck
         | false => .stuck
       | _ => .stuck
     | .sl i g lo hi => match h[i]? with
       | some (.rw g' q) => match Nat.beq g g' with
         | true => match asR p y h with
           | some r => match r.kOK te.sz with
             | true => match Nat.beq q.k te.sz with
               | true => match Nat.blt 0 te.sz with
                 | true => match isOwn i y with
                   | false => match q.app p r with
                     | some s => .need (.appn lo hi (q.len p) (p.ad (q.len p) (r.len p)) te.by_) (.sl i (g + 1) 0 (s.len p)) (h.set i (.rw (g + 1) s))
                     | none => .stuck
                   | true => match q.splice p hi r (r.len p) with
                     | some q' => .need (.bnd hi (p.ad hi (r.len p)) (q.len p)) (.sl i g lo (p.ad hi (r.len p))) (h.set i (.rw g q'))
                     | none => .stuck
                 | false => .stuck
               | false => .stuck
             | false => .stuck
           | none => .stuck
         | false => .stuck
       | _ => .stuck
     | _ => .stuck
   | false => .stuck
 | none => .stuck
def aBuiltin (T : Tab) (b : Builtin) (ts : List TypeId) (xs : List AVal) (h : Heap) : AR := match b with
 | .len => match ts, xs with
   | [t], [x] => aLen p T t x h
   | _, _ => .stuck
 | .max => match xs with
   | [x, y] => aMax p x y h
   | _ => .stuck
 | .min => match xs with
   | [x, y] => aMin p x y h
   | _ => .stuck
 | .copy => match ts, xs with
   | [t, _], [x, y] => aCopy p T t x y h
   | _, _ => .stuck
 | .clear => match ts, xs with
   | [t], [x] => aClear p T t x h
   | _, _ => .stuck
 | .append => match ts, xs with
   | [t, t2], [x, y] => aAppend p T t t2 x y h
   | _, _ => .stuck
 | _ => .stuck
def mapKinds (T : Tab) (t : Nat) : Option (IntKind × IntKind) := match Tab.get? T t with
 | some ti => match ti.d with
   | .map k e => match Tab.get? T k with
     | some tk => match tk.d with
       | .int kk => match Tab.get? T e with
         | some te => match te.d with
           | .int vk => some (kk, vk)
           | _ => none
         | none => none
       | _ => none
     | none => none
   | _ => none
 | none => none
def findM : List (Int × Int) → Int → Option Int
 | [], _ => none
 | (k, v) :: r, n => match decide (n = k) with
   | true => some v
   | false => findM r n
def aMakeMap (T : Tab) (t : Nat) (r : Option AVal) (h : Heap) : AR := match mapKinds T t with
 | some (kk, vk) => match r with
   | none => .ok (.hnd true h.length) (h ++ [.obj (.mp kk vk [])])
   | some (.int _ _) => .ok (.hnd true h.length) (h ++ [.obj (.mp kk vk [])])
   | some _ => .stuck
 | none => .stuck
def aMapUpd (T : Tab) (t : Nat) (m k v : AVal) (h : Heap) : AR := match mapKinds T t with
 | some (kk, vk) => match m with
   | .hnd true i => match h[i]? with
     | some (.obj (.mp kk' vk' es)) => match IntKind.same kk kk' with
       | true => match IntKind.same vk vk' with
         | true => match k with
           | .int k1 n => match IntKind.same k1 kk with
             | true => match v with
               | .int v1 x => match IntKind.same v1 vk with
                 | true => match findM es n with
                   | none => .ok .und (h.set i (.obj (.mp kk' vk' (es ++ [(n, x)]))))
                   | some _ => .stuck
                 | false => .stuck
               | _ => .stuck
             | false => .stuck
           | _ => .stuck
         | false => .stuck
       | false => .stuck
     | _ => .stuck
   | _ => .stuck
 | none => .stuck
def aLookup (T : Tab) (t : Nat) (m k : AVal) (ok : Bool) (h : Heap) : AR := match mapKinds T t with
 | some (kk, vk) => match m with
   | .hnd true i => match h[i]? with
     | some (.obj (.mp kk' vk' es)) => match IntKind.same kk kk' with
       | true => match k with
         | .int k1 n => match IntKind.same k1 kk with
           | true => match findM es n with
             | some v => match ok with
               | false => .ok (.int vk' v) h
               | true => .ok (.tup [.int vk' v, .bool true]) h
             | none => .stuck
           | false => .stuck
         | _ => .stuck
       | false => .stuck
     | _ => .stuck
   | _ => .stuck
 | none => .stuck
def sameOp (a b : Operand) : Bool := match a, b with
 | .tmp i, .tmp j => Nat.beq i j
 | _, _ => match cnat a with
   | some n => match cnat b with
     | some m => Nat.beq n m
     | none => false
   | none => false
def aop (T : Tab) (tm : Nat → AVal) (h : Heap) (op : Op) : AR :=
 match op with
 | .move x | .assign x => .ok (ev tm x) h
 | .pick c a b => match ev tm c with
   | .bool t => match t with
     | true => .ok (ev tm a) h
     | false => .ok (ev tm b) h
   | _ => .stuck
 | .alloc t => aAlloc T t h
 | .box _ v => aBox (ev tm v) h
 | .build t parts => aBuild T t (parts.toList.map fun x => (x.1, ev tm x.2)) h
 | .buildSlice t len parts => aBuildSlice p T t len (parts.toList.map fun x => (x.1, ev tm x.2)) h
 | .load t a => aLoad p T t (ev tm a) h
 | .store t a v => aStore p T t (ev tm a) (ev tm v) h
 | .nilCheck x => aNil (ev tm x) h
 | .binOp op t x y _ => aBin p T op t (ev tm x) (ev tm y) h
 | .unOp op _ x => aUn p op (ev tm x) h
 | .convert s d x => aConv p T s d (ev tm x) h
 | .makeInterface t x => aMkI T t (ev tm x) h
 | .makeFunc fn first caps => match fn with
   | .func f => .ok (.clo (.func f) (first.toList.map (ev tm)) (caps.toList.map (ev tm))) h
   | _ => .stuck
 | .makeSlice t l c => aMkS p T t (ev tm l) (ev tm c) (match l, c with
   | .tmp a, .tmp b => Nat.beq a b
   | _, _ => false) h
 | .slice t x lo hi mx => match mx with
   | none => aSlice p T t (ev tm x) (lo.map (ev tm)) (hi.map (ev tm)) none h
   | some m => match hi with
     | some b => aSlice3 p T t (ev tm x) (lo.map (ev tm)) (ev tm b) (ev tm m) (sameOp b m) h
     | none => .stuck
 | .fieldAddr s x f => aFieldAddr T s (ev tm x) f h
 | .field s x f => aField T s (ev tm x) f h
 | .indexAddr t x i => aIndexAddr p T t (ev tm x) (ev tm i) (cnat i) h
 | .index t x i => aIndex p T t (ev tm x) (ev tm i) (cnat i) h
 | .extract x i => aExtract (ev tm x) i h
 | .typeAssert x _ a ok => aAssert T (ev tm x) a ok h
 | .makeMap t r => aMakeMap T t (r.map (ev tm)) h
 | .mapUpdate t m k v | .insert t m k v => aMapUpd T t (ev tm m) (ev tm k) (ev tm v) h
 | .lookup t m k ok => aLookup T t (ev tm m) (ev tm k) ok h
 | .call c => match c.callee with
   | .builtin b => aBuiltin p T b c.argTypes.toList (c.args.toList.map (ev tm)) h
   | _ => .stuck
 | _ => .stuck
def upd (tm : Nat → AVal) (d : Nat) (v : AVal) : Nat → AVal := fun t => match Nat.beq t d with
 | true => v
 | false => tm t
def putK (nt : Nat) (s : St) (d : Option Nat) (v : AVal) (h : Heap) (K : St → Prop) : Prop :=
 match d with
 | none => K ⟨s.tm, h⟩
 | some d => match Nat.blt d nt with
   | true => K ⟨upd s.tm d v, h⟩
   | false => False
def recvA (T : Tab) (M : MTab) (h : Heap) (r : AVal) (name : String) : Option (FuncId × AVal) :=
 match r with
 | .iface t v => match MTab.get? M t name with
   | some (f, none) => some (f, v)
   | some (f, some u) => match aLoad p T u v h with
     | .ok x _ => some (f, x)
     | _ => none
   | none => none
 | _ => none
def effC (st : Nat → Bool) : Callee → Bool
 | .value (.func f) => st f
 | _ => false
def wpo (T : Tab) (M : MTab) (nt : Nat) (dr : Bool) (s : St) (o : Oper) (K : St → Prop) : Prop :=
 match o.op with
 | .call c => match c.callee with
   | .value f => match ev s.tm f with
     | .clo (.func f) first caps => match dr with
       | false => p.call f (first ++ c.args.toList.map (ev s.tm) ++ caps) s.h fun v h => putK nt s o.dst v h K
       | true => match effC p.strict c.callee with
         | false => p.calld f (first ++ c.args.toList.map (ev s.tm) ++ caps) s.h fun v => putK nt s o.dst v s.h K
         | true => ∃ r h1, p.call f (first ++ c.args.toList.map (ev s.tm) ++ caps) s.h (fun v h => v = r ∧ h = h1) ∧ putK nt s o.dst r h1 K
     | v => match dr with
       | false => p.callv v (c.args.toList.map (ev s.tm)) s.h fun v h => putK nt s o.dst v h K
       | true => match effC p.strict c.callee with
         | false => p.callvd v (c.args.toList.map (ev s.tm)) s.h fun v => putK nt s o.dst v s.h K
         | true => ∃ r h1, p.callv v (c.args.toList.map (ev s.tm)) s.h (fun v h => v = r ∧ h = h1) ∧ putK nt s o.dst r h1 K
   | .invoke r name => match recvA p T M s.h (ev s.tm r) name with
     | some (f, x) => match dr with
       | false => p.call f (x :: c.args.toList.map (ev s.tm)) s.h fun v h => putK nt s o.dst v h K
       | true => p.calld f (x :: c.args.toList.map (ev s.tm)) s.h fun v => putK nt s o.dst v s.h K
     | none => False
   | .builtin _ => match aop p T s.tm s.h o.op with
     | .ok v h => putK nt s o.dst v h K
     | .need q v h => p.nd q ∧ putK nt s o.dst v h K
     | .stuck => False
 | op => match aop p T s.tm s.h op with
   | .ok v h => putK nt s o.dst v h K
   | .need q v h => p.nd q ∧ putK nt s o.dst v h K
   | .stuck => False
def wpg (T : Tab) (M : MTab) (nt : Nat) (dr : Bool) (all : List Oper) (o : Oper) (s : St) (K : St → Prop) : Prop :=
 match o.guard with
 | none => wpo p T M nt dr s o K
 | some (j, b) => match (all[j]?).bind (·.dst) with
   | none => False
   | some d => match s.tm d with
     | .bool c => match c with
       | true => match b with
         | true => wpo p T M nt dr ⟨upd s.tm d (.bool true), s.h⟩ o K
         | false => putK nt ⟨upd s.tm d (.bool true), s.h⟩ o.dst .und s.h K
       | false => match b with
         | false => wpo p T M nt dr ⟨upd s.tm d (.bool false), s.h⟩ o K
         | true => putK nt ⟨upd s.tm d (.bool false), s.h⟩ o.dst .und s.h K
     | .und => putK nt s o.dst .und s.h K
     | _ => False
def wpr (T : Tab) (M : MTab) (nt : Nat) (dr : Bool) (all : List Oper) : List Oper → St → (St → Prop) → Prop
 | [], s, K => K s
 | o :: rest, s, K => wpg p T M nt dr all o s fun s' => wpr T M nt dr all rest s' K
def sepK (a b : Nat) : Nat := 10000 + 1000 * a + b
def ptrs : List Oper → List Nat
 | [] => []
 | o :: r => match o.op with
   | .fieldAddr _ (.tmp a) _ => a :: ptrs r
   | .load _ (.tmp a) => a :: ptrs r
   | .store _ (.tmp a) _ => a :: ptrs r
   | _ => ptrs r
def dsts : List Oper → List Nat
 | [] => []
 | o :: r => match o.dst with
   | some d => d :: dsts r
   | none => dsts r
def bases (l : List Oper) : List Nat := (ptrs l).filter fun a => !(dsts l).contains a
def apartP : AVal → AVal → Bool
 | .ptr i _, .ptr j _ => match Nat.beq i j with
   | true => false
   | false => true
 | _, _ => false
def sepP (st : Nat → Bool) (tm : Nat → AVal) (a b : Nat) : Bool := match st (sepK a b) with
 | false => true
 | true => apartP (tm a) (tm b)
def sepD (dr : Bool) (st : Nat → Bool) (l : List Oper) (tm : Nat → AVal) (K : Prop) : Prop := match dr with
 | false => K
 | true => match st 9999 with
   | false => K
   | true => match (bases l).all fun a => (bases l).all fun b => sepP st tm a b with
     | true => K
     | false => False
def ptrs2 : List Oper → List Nat
 | [] => []
 | o :: r => match o.op with
   | .move (.tmp a) => a :: ptrs2 r
   | .nilCheck (.tmp a) => a :: ptrs2 r
   | .fieldAddr _ (.tmp a) _ => a :: ptrs2 r
   | .load _ (.tmp a) => a :: ptrs2 r
   | _ => ptrs2 r
def bases2 (l : List Oper) : List Nat := (ptrs2 l).filter fun a => !(dsts l).contains a
def oldP (n : Nat) : AVal → Bool
 | .ptr i _ => Nat.blt i n
 | _ => true
def rowT (T : Tab) (o : Oper) : Bool := match o.op with
 | .indexAddr t _ _ => match Tab.get? T t with
   | some ti => match ti.d with
     | .slice _ => true
     | _ => false
   | none => false
 | _ => true
def sepF (T : Tab) (dr : Bool) (st : Nat → Bool) (l : List Oper) (tm : Nat → AVal) (h : Heap) (K : Prop) : Prop := match dr with
 | false => K
 | true => match st 9998 with
   | false => K
   | true => match l.all (rowT T) with
     | true => match (bases2 l).all fun a => oldP h.length (tm a) with
       | true => K
       | false => False
     | false => False
def isMk (o : Oper) : Bool := match o.guard with
 | none => match o.op with
   | .alloc _ => true
   | _ => false
 | some _ => false
def pairQ (st : Nat → Bool) (dr : Bool) (a b : Oper) : Bool := match dr with
 | false => false
 | true => match st 9997 with
   | false => false
   | true => match isMk a with
     | false => false
     | true => isMk b
def wprA (T : Tab) (M : MTab) (nt : Nat) (dr : Bool) (all : List Oper) : List Oper → St → (St → Prop) → Prop
 | [], s, K => K s
 | [o], s, K => wpg p T M nt dr all o s K
 | a :: b :: rest, s, K => match pairQ p.strict dr a b with
   | true => (wpg p T M nt dr all a s fun s' => wpg p T M nt dr all b s' fun s' => wprA T M nt dr all rest s' K) ∧
      (wpg p T M nt dr all b s fun s' => wpg p T M nt dr all a s' fun s' => wprA T M nt dr all rest s' K)
   | false => wpg p T M nt dr all a s fun s' => wprA T M nt dr all (b :: rest) s' K
theorem wprA_eq {T : Tab} {M : MTab} {nt : Nat} {dr : Bool} {all : List Oper} (h : ∀ a b, pairQ p.strict dr a b = false) : ∀ (l : List Oper) (s : St) (K : St → Prop), wprA p T M nt dr all l s K = wpr p T M nt dr all l s K
 | [], _, _ => rfl
 | [_], _, _ => rfl
 | a :: b :: r, s, K => by
   have h1 := fun s' => wprA_eq (T := T) (M := M) (nt := nt) (all := all) h (b :: r) s' K
   simp only [wprA, h a b]
   show wpg p T M nt dr all a s (fun s' => wprA p T M nt dr all (b :: r) s' K) = wpg p T M nt dr all a s (fun s' => wpr p T M nt dr all (b :: r) s' K)
   congr 1
   funext s'
   exact h1 s'
def wpc (T : Tab) (M : MTab) (nt : Nat) : Code → St → (Exit → St → Prop) → Prop
 | .skip, s, Q => Q .normal s
 | .label _, s, Q => Q .normal s
 | .region _ ops dr, s, Q => sepD dr p.strict ops.toList s.tm (sepF T dr p.strict ops.toList s.tm s.h (wprA p T M nt dr ops.toList ops.toList s fun s' => Q .normal s'))
 | .seq a b, s, Q => wpc T M nt a s fun e s' => match e with
   | .normal => wpc T M nt b s' Q
   | .exit id => Q (.exit id) s'
   | .ret => Q .ret s'
   | e => Q e s'
 | .cond c a b, s, Q => match ev s.tm c with
   | .bool t => match t with
     | true => wpc T M nt a s Q
     | false => wpc T M nt b s Q
   | _ => False
 | .block id b, s, Q => wpc T M nt b s fun e s' => match e with
   | .exit id' => match Nat.beq id' id with
     | true => Q .normal s'
     | false => Q (.exit id') s'
   | .normal => Q .normal s'
   | .ret => Q .ret s'
   | e => Q e s'
 | .loop b, s, Q => p.loop (wpc T M nt b) s Q
 | .rangeFunc f ps assign body, s, Q => p.rfun (ev s.tm f) ps assign body s Q
 | .exit id, s, Q => Q (.exit id) s
 | .ret, s, Q => Q .ret s
 | _, _, _ => False
def resA (T : Tab) (s : St) : ResultVar → Option AVal
 | .tmp t => some (s.tm t)
 | .cell a t => match aLoad p T t (s.tm a) s.h with
   | .ok v _ => some v
   | _ => none
def resAs (T : Tab) (s : St) : List ResultVar → Option (List AVal)
 | [] => some []
 | r :: rs => match resA p T s r with
   | some v => match resAs T s rs with
     | some vs => some (v :: vs)
     | none => none
   | none => none
def one1 : List AVal → AVal
 | [v] => v
 | vs => .tup vs
def endPost (T : Tab) (rs : List ResultVar) (R : AVal → Heap → Prop) : Exit → St → Prop
 | .normal, s | .ret, s => match resAs p T s rs with
   | some vs => p.fin R (one1 vs) s.h
   | none => False
 | _, _ => False
def args0 (l : List AVal) : Nat → AVal := fun t => l.getD t .und
end
end Go.AL
/-
  AL: what an abstract value says of a concrete one, in a world: relations, and how they last while the world goes on.
-/
namespace Go.AL
open Go
def cellsSize (w : World) (b : Nat) : Nat := match w.heap[b]? with
 | some (.cells cs _ _) => cs.size
 | _ => 0
def rFi : AVal → Int | .int _ n => n | _ => 0
def rFb : AVal → Bool | .bool b => b | _ => false
def rFs : AVal → List UInt8 | .str s => s | _ => []
def rFl : AVal → List Int | .ls (.il _ l) _ => l | _ => []
def rFg : AVal → List AVal | .ls (.gl _ l) _ => l | _ => []
def rFc (x : AVal) (j : Nat) : AVal := x.cells.getD j .junk
def rI2 (op : BinOp) (k : IntKind) (a b : Int) : Int := match op with
 | .add => k.wrap (a + b)
 | .sub => k.wrap (a - b)
 | .mul => k.wrap (a * b)
 | .quo => k.wrap (a.tdiv b)
 | .rem => a.tmod b
 | .and => k.wrap (BitVec.ofInt k.bits a &&& BitVec.ofInt k.bits b).toNat
 | .or => k.wrap (BitVec.ofInt k.bits a ||| BitVec.ofInt k.bits b).toNat
 | .xor => k.wrap (BitVec.ofInt k.bits a ^^^ BitVec.ofInt k.bits b).toNat
 | .andNot => k.wrap (BitVec.ofInt k.bits a &&& ~~~(BitVec.ofInt k.bits b)).toNat
 | .shl => k.wrap (a * 2 ^ (min b.toNat k.bits))
 | .shr => a.fdiv (2 ^ (min b.toNat k.bits))
 | _ => 0
def rC2 (op : BinOp) (a b : Int) : Bool := match op with
 | .eql => a == b
 | .neq => a != b
 | .lss => a < b
 | .leq => a ≤ b
 | .gtr => a > b
 | .geq => a ≥ b
 | _ => false
def rU1 (op : UnOp) (k : IntKind) (n : Int) : Int := match op with
 | .neg => k.wrap (0 - n)
 | .xor => k.wrap (BitVec.ofInt k.bits (if k.signed then -1 else k.max) ^^^ BitVec.ofInt k.bits n).toNat
 | _ => n
def rSc (op : BinOp) (x y : List UInt8) : Bool :=
 let eq := x == y
 let lt := Op.bytesLess x y
 match op with
 | .eql => eq
 | .neq => !eq
 | .lss => lt
 | .leq => lt || eq
 | .gtr => !(lt || eq)
 | .geq => !lt
 | _ => false
def rSub {α : Type} (l : List α) (a b : Int) : List α := (l.drop a.toNat).take (b - a).toNat
def rNd : Need → Prop
 | .idx i n => 0 ≤ i ∧ i < n
 | .bnd a b n => 0 ≤ a ∧ a ≤ b ∧ b ≤ n
 | .bnd3 a b d n => 0 ≤ a ∧ a ≤ b ∧ b ≤ d ∧ d ≤ n
 | .rooml lo n b => lo = 0 ∧ 0 ≤ n ∧ n * b ≤ 140737488355328 ∧ n ≤ 140737488355328
 | .appn lo hi n m b => lo = 0 ∧ hi = n ∧ 0 ≤ m ∧ m * b ≤ 140737488355328 ∧ m ≤ 140737488355328
 | .bnd4 a b n => 0 ≤ a ∧ a = b ∧ b ≤ n
 | .nz n => n ≠ 0
 | .ge0 n => 0 ≤ n
 | .room n b => 0 ≤ n ∧ n * b ≤ 140737488355328 ∧ n ≤ 140737488355328
 | .srm n => n ≤ 9223372036854775807
 | .ne n => 0 < n
def rPr (call : FuncId → List AVal → Heap → (AVal → Heap → Prop) → Prop) (calld : FuncId → List AVal → Heap → (AVal → Prop) → Prop)
 (callv : AVal → List AVal → Heap → (AVal → Heap → Prop) → Prop) (callvd : AVal → List AVal → Heap → (AVal → Prop) → Prop)
 (loop : (St → (Exit → St → Prop) → Prop) → St → (Exit → St → Prop) → Prop)
 (rfun : AVal → Array Tmp → Code → Code → St → (Exit → St → Prop) → Prop)
 (fin : (AVal → Heap → Prop) → AVal → Heap → Prop) (rowq : Nat → Bool) (strict : Nat → Bool) : Pr where
 i2 := rI2
 c2 := rC2
 u1 := rU1
 cv := fun k n => k.wrap n
 mx := fun a b => if b > a then b else a
 mn := fun a b => if b < a then b else a
 ad := fun a b => a + b
 sbt := fun a b => a - b
 bn := fun b => !b
 bq := fun a b => a == b
 ba := fun a b => a && b
 lnI := fun l => l.length
 gtI := fun l i => l.getD i.toNat 0
 apI := fun l m => l ++ m
 sbI := rSub
 stI := fun l i v => l.set i.toNat v
 rpI := fun n v => List.replicate n.toNat v
 lnG := fun l => l.length
 gtG := fun l i => l.getD i.toNat .junk
 apG := fun l m => l ++ m
 sbG := rSub
 stG := fun l i v => l.set i.toNat v
 rpG := fun n v => List.replicate n.toNat v
 fi := rFi
 fb := rFb
 fs := rFs
 fl := rFl
 fg := rFg
 fc := rFc
 sln := fun s => s.length
 sgt := fun s i => (s.getD i.toNat 0).toNat
 sap := fun s t => s ++ t
 ssb := rSub
 sc := rSc
 b2s := fun l => l.map fun n => n.toNat.toUInt8
 s2b := fun s => s.map fun c => c.toNat
 nd := rNd
 call := call
 calld := calld
 callv := callv
 callvd := callvd
 loop := loop
 rfun := rfun
 fin := fin
 rowq := rowq
 strict := strict
mutual
def etaR : Sh → AVal → AVal
 | .int k, x => .int k (rFi x)
 | .bool, x => .bool (rFb x)
 | .str, x => .str (rFs x)
 | .li k, x => .ls (.il k (rFl x)) .any
 | .lg s, x => .ls (.gl s (rFg x)) .any
 | .rc l, x => .agg (etasR l 0 x)
 | .any, x => x
def etasR : List Sh → Nat → AVal → List AVal
 | [], _, _ => []
 | s :: r, j, x => etaR s (rFc x j) :: etasR r (j + 1) x
end
def LX.fit : LX → Prop
 | .gl s xs => ∀ x ∈ xs, etaR s x = x
 | _ => True
abbrev LX.n (q : LX) : Nat := q.toL.length
abbrev LX.at_ (q : LX) (i : Nat) : AVal := q.toL.getD i .junk
structure DataOK (p : Pr) : Prop where
 i2 : p.i2 = rI2
 c2 : p.c2 = rC2
 u1 : p.u1 = rU1
 cv : p.cv = fun k n => k.wrap n
 mx : p.mx = fun a b => if b > a then b else a
 mn : p.mn = fun a b => if b < a then b else a
 ad : p.ad = fun a b => a + b
 sbt : p.sbt = fun a b => a - b
 bn : p.bn = fun b => !b
 bq : p.bq = fun a b => a == b
 ba : p.ba = fun a b => a && b
 lnI : p.lnI = fun l => l.length
 gtI : p.gtI = fun l i => l.getD i.toNat 0
 apI : p.apI = fun l m => l ++ m
 sbI : p.sbI = rSub
 stI : p.stI = fun l i v => l.set i.toNat v
 rpI : p.rpI = fun n v => List.replicate n.toNat v
 lnG : p.lnG = fun l => l.length
 gtG : p.gtG = fun l i => l.getD i.toNat .junk
 apG : p.apG = fun l m => l ++ m
 sbG : p.sbG = rSub
 stG : p.stG = fun l i v => l.set i.toNat v
 rpG : p.rpG = fun n v => List.replicate n.toNat v
 fi : p.fi = rFi
 fb : p.fb = rFb
 fs : p.fs = rFs
 fl : p.fl = rFl
 fg : p.fg = rFg
 fc : p.fc = rFc
 sln : p.sln = fun s => s.length
 sgt : p.sgt = fun s i => (s.getD i.toNat 0).toNat
 sap : p.sap = fun s t => s ++ t
 ssb : p.ssb = rSub
 sc : p.sc = rSc
 b2s : p.b2s = fun l => l.map fun n => n.toNat.toUInt8
 nd : p.nd = rNd
mutual
theorem eta_real {p : Pr} (hp : DataOK p) : ∀ (s : Sh) (x : AVal), eta p s x = etaR s x
 | .int k, x => by simp only [eta, etaR, hp.fi]
 | .bool, x => by simp only [eta, etaR, hp.fb]
 | .str, x => by simp only [eta, etaR, hp.fs]
 | .li k, x => by simp only [eta, etaR, hp.fl]
 | .lg s, x => by simp only [eta, etaR, hp.fg]
 | .rc l, x => by simp only [eta, etaR]; rw [etas_real hp l 0 x]
 | .any, x => by simp only [eta, etaR]
theorem etas_real {p : Pr} (hp : DataOK p) : ∀ (l : List Sh) (j : Nat) (x : AVal), etas p l j x = etasR l j x
 | [], _, _ => by simp only [etas, etasR]
 | s :: r, j, x => by simp only [etas, etasR, hp.fc]; rw [eta_real hp s, etas_real hp r]
end
theorem get_real {p : Pr} (hp : DataOK p) {q : LX} {i : Int} (hf : q.fit) (h0 : 0 ≤ i) (h1 : i < q.n) : q.get p i = q.at_ i.toNat := by
 cases q with
 | nl => simp [LX.n, LX.toL] at h1; omega
 | il k l =>
   simp only [LX.n, LX.toL, List.length_map] at h1
   have : i.toNat < l.length := by omega
   simp [LX.get, LX.at_, LX.toL, hp.gtI, List.getD, this]
 | gl s xs =>
   simp only [LX.n, LX.toL] at h1
   have hi : i.toNat < xs.length := by omega
   simp only [LX.get, LX.at_, LX.toL, hp.gtG, eta_real hp]
   refine hf _ ?_
   simp [List.getD, hi]
theorem len_real {p : Pr} (hp : DataOK p) (q : LX) : q.len p = q.n := by
 cases q <;> simp [LX.len, LX.n, LX.toL, hp.lnI, hp.lnG]
inductive PVR (w : World) (ps : Nat → Nat) : AVal → Value → Prop
 | bool (b : Bool) : PVR w ps (.bool b) (.bool b)
 | int (k : IntKind) (n : Int) : PVR w ps (.int k n) (.int k n)
 | str (s : ByteArray) : PVR w ps (.str s.data.toList) (.string s)
 | lsnil (q : LX) (c : Cap) (hq : q.n = 0) (hf : q.fit) (hc : c = .any ∨ c = .nil) : PVR w ps (.ls q c) (.slice none 0 0)
 | lse (q : LX) (a : Addr) (hq : q.n = 0) (hf : q.fit) : PVR w ps (.ls q .any) (.slice (some a) 0 0)
 | ls (q : LX) (b off cap : Nat) (cv : Nat → Nat → Value) (hcap : q.n ≤ cap) (hf : q.fit) (hk : ∀ i, i < q.n → (q.at_ i).cells.length = q.k)
    (hp : q.n ≠ 0 → off + q.n * q.k ≤ ps b)
    (hc : ∀ i j, i < q.n → j < q.k → w.cell? ⟨b, off + i * q.k + j, none⟩ = some (cv i j))
    (h1 : ∀ i j, i < q.n → j < q.k → (cv i j).oneCell' = true)
    (hv : ∀ i j, i < q.n → j < q.k → PVR w ps ((q.at_ i).cells.getD j .junk) (cv i j)) : PVR w ps (.ls q .any) (.slice (some ⟨b, off, none⟩) q.n cap)
 | pp (xs : List AVal) (b off : Nat) (cv : Nat → Value) (hp : xs ≠ [] → off + xs.length ≤ ps b) (hc : ∀ j, j < xs.length → w.cell? ⟨b, off + j, none⟩ = some (cv j))
    (hv : ∀ j, j < xs.length → PVR w ps (xs.getD j .junk) (cv j)) : PVR w ps (.pp xs) (.pointer (some ⟨b, off, none⟩))
 | nilp : PVR w ps .nilp (.pointer none)
 | agg (vs : List AVal) (cs : Array Value) (hl : vs.length = cs.size) (hv : ∀ i, i < vs.length → PVR w ps (vs.getD i .junk) (cs.getD i undef)) : PVR w ps (.agg vs) (.agg cs)
 | tup (vs : List AVal) (cs : Array Value) (hl : vs.length = cs.size) (hv : ∀ i, i < vs.length → PVR w ps (vs.getD i .junk) (cs.getD i undef)) : PVR w ps (.tup vs) (.tuple cs)
 | clo (f : FuncId) (fs cs : List AVal) (gs ds : Array Value) (h1 : fs.length = gs.size) (h2 : cs.length = ds.size)
    (hf : ∀ i, i < fs.length → PVR w ps (fs.getD i .junk) (gs.getD i undef)) (hc : ∀ i, i < cs.length → PVR w ps (cs.getD i .junk) (ds.getD i undef)) :
    PVR w ps (.clo (.func f) fs cs) (.func (.func f) gs ds)
 | nilf : PVR w ps .nilf .nilFunc
 | iface (t : TypeId) (v : AVal) (c : Value) (h : PVR w ps v c) : PVR w ps (.iface t v) (.iface t c)
 | nili : PVR w ps .nili .nilIface
 | und : PVR w ps .und undef
 | junk (c : Value) : PVR w ps .junk c
structure Env where
 w : World
 sg : Nat → Option Nat
 h : Heap
 ps : Nat → Nat
def tokAt (o : Option AObj) (n : Nat) (R : Prop) : Prop := match o with
 | some (.tok n') => n ≤ n' ∧ (n = n' → R)
 | some (.dead n') => n ≤ n'
 | _ => False
def rwAt (o : Option AObj) (g : Nat) (R : LX → Prop) : Prop := match o with
 | some (.rw g' q) => g ≤ g' ∧ (g = g' → R q)
 | some (.dead g') => g ≤ g'
 | _ => False
def boxAt (o : Option AObj) (R : List AVal → Prop) : Prop := match o with
 | some (.box vs) => R vs
 | some (.dead _) => True
 | _ => False
def loopAt (o : Option AObj) (R : Prop) : Prop := match o with
 | some (.loop _) => R
 | some (.dead _) => True
 | _ => False
def objAt (o : Option AObj) (R : Prop) : Prop := match o with
 | some (.obj _) => R
 | some (.dead _) => True
 | _ => False
def hval (k : Bool) (b : Nat) : Value := match k with
 | true => .map (some b)
 | false => .pointer (some ⟨b, 0, none⟩)
def ObjX.real : ObjX → Obj → Prop
 | .mp kk vk es, .map es' _ => es'.toList.map (fun x => (x.key, x.val)) = es.map fun x => (Value.int kk x.1, Value.int vk x.2)
 | .it s pos, .stringIter s' pos' => s'.data.toList = s ∧ pos' = pos
 | _, _ => False
def endOK (e : Env) (i k : Nat) : Value → Prop
 | .slice none _ _ => True
 | .slice (some a) len cap => len = cap ∨ (e.sg i = some a.block ∧ e.ps a.block = a.off + len * k ∧ a.off + cap * k ≤ cellsSize e.w a.block ∧ 0 < k)
 | _ => False
inductive VR (e : Env) : AVal → Value → Prop
 | pure (v : AVal) (c : Value) (h : PVR e.w e.ps v c) : VR e v c
 | tok (q : LX) (i n : Nat) (c : Value) (h : PVR e.w e.ps (.ls q .any) c) (ht : tokAt e.h[i]? n (endOK e i q.k c)) : VR e (.ls q (.tok i n)) c
 | sl (i g : Nat) (lo hi : Int) (c : Value) (h1 : c.oneCell' = true) (h : rwAt e.h[i]? g fun q => 0 ≤ lo ∧ lo ≤ hi ∧ hi ≤ q.n ∧
    (((∃ ad : Option Addr, c = .slice ad 0 0) ∧ lo = 0 ∧ hi = 0 ∧ q.n = 0) ∨
      ∃ b cap off : Nat, c = .slice (some ⟨b, off, none⟩) (hi - lo).toNat cap ∧ e.sg i = some b ∧ q.n - lo.toNat ≤ cap ∧
       (cap = 0 ∨ (off = lo.toNat * q.k ∧ off + cap * q.k ≤ cellsSize e.w b)))) : VR e (.sl i g lo hi) c
 | ptr (i off : Nat) (c : Value) (h1 : c.oneCell' = true) (h : boxAt e.h[i]? fun vs => ∃ b, c = .pointer (some ⟨b, off, none⟩) ∧ e.sg i = some b ∧ off ≤ vs.length) : VR e (.ptr i off) c
 | pe (i g : Nat) (ix : Int) (off : Nat) (c : Value) (h1 : c.oneCell' = true) (h : rwAt e.h[i]? g fun q => 0 ≤ ix ∧ ix < q.n ∧
    ∃ b, c = .pointer (some ⟨b, ix.toNat * q.k + off, none⟩) ∧ e.sg i = some b) : VR e (.pe i g ix off) c
 | agg (vs : List AVal) (cs : Array Value) (hl : vs.length = cs.size) (hv : ∀ i, i < vs.length → VR e (vs.getD i .junk) (cs.getD i undef)) : VR e (.agg vs) (.agg cs)
 | tup (vs : List AVal) (cs : Array Value) (hl : vs.length = cs.size) (hv : ∀ i, i < vs.length → VR e (vs.getD i .junk) (cs.getD i undef)) : VR e (.tup vs) (.tuple cs)
 | clo (f : FuncId) (fs cs : List AVal) (gs ds : Array Value) (h1 : fs.length = gs.size) (h2 : cs.length = ds.size)
    (hf : ∀ i, i < fs.length → VR e (fs.getD i .junk) (gs.getD i undef)) (hc : ∀ i, i < cs.length → VR e (cs.getD i .junk) (ds.getD i undef)) :
    VR e (.clo (.func f) fs cs) (.func (.func f) gs ds)
 | yld (i : Nat) (c : Value) (h1 : c.oneCell' = true) (h : loopAt e.h[i]? (∃ l, e.sg i = some l ∧ c = .func (.yield l) #[] #[])) : VR e (.yld i) c
 | hnd (k : Bool) (i : Nat) (c : Value) (h1 : c.oneCell' = true) (h : objAt e.h[i]? (∃ b, e.sg i = some b ∧ c = hval k b)) : VR e (.hnd k i) c
 | iface (t : TypeId) (v : AVal) (c : Value) (h : VR e v c) : VR e (.iface t v) (.iface t c)
def LoopA.of (L : LoopA) (r : Loop) : Prop := r.state = L.st ∧ r.pending = L.pend ∧ r.params = L.ps ∧ r.assign = L.assign ∧ r.body = L.body ∧ r.tmps.size = L.nt
def AObj.live : AObj → Bool
 | .dead _ => false
 | _ => true
def ObjOK (e : Env) (i : Nat) : AObj → Prop
 | .box vs => ∃ b cs el, e.sg i = some b ∧ e.w.heap[b]? = some (.cells cs el (0, 0)) ∧ vs.length = cs.size ∧ e.ps b = 0 ∧
    ∀ j, j < vs.length → VR e (vs.getD j .junk) (cs.getD j undef)
 | .rw _ q => (q.n = 0 ∧ e.sg i = none) ∨ ∃ b cs el, e.sg i = some b ∧ e.w.heap[b]? = some (.cells cs el (0, 0)) ∧ q.n * q.k ≤ cs.size ∧ e.ps b = 0 ∧
    q.fit ∧ (∀ i, i < q.n → (q.at_ i).cells.length = q.k) ∧ ∀ i j, i < q.n → j < q.k → VR e ((q.at_ i).cells.getD j .junk) (cs.getD (i * q.k + j) undef) ∧ (cs.getD (i * q.k + j) undef).oneCell' = true
 | .tok _ => ∀ b, e.sg i = some b → ∃ cs el, e.w.heap[b]? = some (.cells cs el (0, 0))
 | .loop L => ∃ b r, e.sg i = some b ∧ e.w.heap[b]? = some (.loop r) ∧ L.of r ∧ ∀ t, VR e (tmL L.l t) (r.tmps.getD t undef)
 | .obj x => ∃ b o, e.sg i = some b ∧ e.w.heap[b]? = some o ∧ x.real o
 | .dead _ => True
def Owned (e : Env) (b : Nat) : Prop := ∃ i o, e.h[i]? = some o ∧ o.live = true ∧ e.sg i = some b
structure Good (e : Env) : Prop where
 obj : ∀ i o, e.h[i]? = some o → ObjOK e i o
 inj : ∀ i j oi oj b, e.h[i]? = some oi → oi.live = true → e.h[j]? = some oj → oj.live = true → e.sg i = some b → e.sg j = some b → i = j
 ps : ∀ b, e.ps b ≤ cellsSize e.w b
def OMono (e e' : Env) (i : Nat) : AObj → AObj → Prop
 | .box vs, .box vs' => e'.sg i = e.sg i ∧ vs'.length = vs.length
 | .box _, .dead _ => True
 | .rw g q, .rw g' q' => g ≤ g' ∧ (g = g' → e'.sg i = e.sg i ∧ q'.n = q.n ∧ q'.k = q.k)
 | .rw g _, .dead g' => g ≤ g'
 | .tok n, .tok n' => n ≤ n' ∧ (n = n' → e'.sg i = e.sg i ∧ ∀ b, e.sg i = some b → e'.ps b = e.ps b)
 | .tok n, .dead n' => n ≤ n'
 | .loop _, .loop _ => e'.sg i = e.sg i
 | .loop _, .dead _ => True
 | .obj _, .obj _ => e'.sg i = e.sg i
 | .obj _, .dead _ => True
 | .dead g, .dead g' => g ≤ g'
 | _, _ => False
structure Ext (n : Nat) (e e' : Env) : Prop where
 obj : ∀ i o, i < n → e.h[i]? = some o → ∃ o', e'.h[i]? = some o' ∧ OMono e e' i o o'
 ps : ∀ b, e.ps b ≤ e'.ps b
 cell : ∀ b o, o < e.ps b → e'.w.cell? ⟨b, o, none⟩ = e.w.cell? ⟨b, o, none⟩
 size : ∀ b, cellsSize e.w b ≤ cellsSize e'.w b
structure Upd (e e' : Env) : Prop where
 os : e'.w.os = e.w.os
 tape : e'.w.tape = e.w.tape
 output : e'.w.output = e.w.output
 size : e.w.heap.size ≤ e'.w.heap.size
 frame : ∀ b, b < e.w.heap.size → ¬ Owned e b → e'.w.heap[b]? = e.w.heap[b]? ∧ e'.ps b = e.ps b
 own : ∀ b, Owned e' b → Owned e b ∨ e.w.heap.size ≤ b
theorem OMono.refl (e : Env) (i : Nat) (o : AObj) : OMono e e i o o := by
 cases o <;> simp [OMono]
theorem Ext.refl (n : Nat) (e : Env) : Ext n e e := ⟨fun i o _ h => ⟨o, h, OMono.refl e i o⟩, fun _ => Nat.le_refl _, fun _ _ _ => rfl, fun _ => Nat.le_refl _⟩
theorem Upd.refl (e : Env) : Upd e e := ⟨rfl, rfl, rfl, Nat.le_refl _, fun _ _ _ => ⟨rfl, rfl⟩, fun _ h => .inl h⟩
theorem OMono.trans {e e1 e2 : Env} {i : Nat} {o o1 o2 : AObj} (h : OMono e e1 i o o1) (k : OMono e1 e2 i o1 o2) : OMono e e2 i o o2 := by
 cases o <;> cases o1 <;> simp only [OMono] at h <;> cases o2 <;> simp only [OMono] at k ⊢
 ·exact ⟨k.1.trans h.1, k.2.trans h.2⟩
 ·refine ⟨Nat.le_trans h.1 k.1, fun e => ?_⟩
  have e1 := h.2 (by omega)
  have e2 := k.2 (by omega)
  exact ⟨e2.1.trans e1.1, e2.2.1.trans e1.2.1, e2.2.2.trans e1.2.2⟩
 ·exact Nat.le_trans h.1 k
 ·exact Nat.le_trans h k
 ·refine ⟨Nat.le_trans h.1 k.1, fun e => ?_⟩
  have e1 := h.2 (by omega)
  have e2 := k.2 (by omega)
  exact ⟨e2.1.trans e1.1, fun b hb => (e2.2 b (e1.1.trans hb)).trans (e1.2 b hb)⟩
 ·exact Nat.le_trans h.1 k
 ·exact Nat.le_trans h k
 ·exact k.trans h
 ·exact k.trans h
 ·exact Nat.le_trans h k
theorem Ext.trans {n : Nat} {e e1 e2 : Env} (h : Ext n e e1) (k : Ext n e1 e2) : Ext n e e2 where
 obj := fun i o hi ho => by
  obtain ⟨o1, h1, m1⟩ := h.obj i o hi ho
  obtain ⟨o2, h2, m2⟩ := k.obj i o1 hi h1
  exact ⟨o2, h2, m1.trans m2⟩
 ps := fun b => Nat.le_trans (h.ps b) (k.ps b)
 cell := fun b o ho => (k.cell b o (Nat.lt_of_lt_of_le ho (h.ps b))).trans (h.cell b o ho)
 size := fun b => Nat.le_trans (h.size b) (k.size b)
theorem Ext.le {n m : Nat} {e e' : Env} (h : Ext n e e') (hm : m ≤ n) : Ext m e e' := ⟨fun i o hi => h.obj i o (Nat.lt_of_lt_of_le hi hm), h.ps, h.cell, h.size⟩
theorem Upd.trans {e e1 e2 : Env} (h : Upd e e1) (k : Upd e1 e2) : Upd e e2 where
 os := k.os.trans h.os
 tape := k.tape.trans h.tape
 output := k.output.trans h.output
 size := Nat.le_trans h.size k.size
 frame := fun b hb ho => by
  have h1 := h.frame b hb ho
  have h2 := k.frame b (Nat.lt_of_lt_of_le hb h.size) (fun hc => by
   rcases h.own b hc with h | h
   ·exact ho h
   ·omega)
  exact ⟨h2.1.trans h1.1, h2.2.trans h1.2⟩
 own := fun b hb => by
  rcases k.own b hb with h1 | h1
  ·rcases h.own b h1 with h2 | h2
   ·exact .inl h2
   ·exact .inr h2
  ·exact .inr (Nat.le_trans h.size h1)
theorem PVR.mono {w w' : World} {ps ps' : Nat → Nat} (hps : ∀ b, ps b ≤ ps' b) (hcell : ∀ b o, o < ps b → w'.cell? ⟨b, o, none⟩ = w.cell? ⟨b, o, none⟩)
 {v : AVal} {c : Value} (h : PVR w ps v c) : PVR w' ps' v c := by
 induction h with
 | bool b => exact .bool b
 | int k n => exact .int k n
 | str s => exact .str s
 | lsnil q c hq hf hc => exact .lsnil q c hq hf hc
 | lse q a hq hf => exact .lse q a hq hf
 | ls q b off cap cv hcap hf hk hp hc h1 hv ih =>
   refine .ls q b off cap cv hcap hf hk (fun h => Nat.le_trans (hp h) (hps b)) (fun i j hi hj => ?_) h1 ih
   rw [hcell]
   ·exact hc i j hi hj
   ·have := hp (by omega)
    have h2 : (i + 1) * q.k ≤ q.n * q.k := Nat.mul_le_mul_right _ hi
    rw [Nat.add_mul] at h2
    omega
 | pp xs b off cv hp hc hv ih =>
   refine .pp xs b off cv (fun h => Nat.le_trans (hp h) (hps b)) (fun j hj => ?_) ih
   rw [hcell]
   ·exact hc j hj
   ·have := hp (by intro h; rw [h] at hj; simp at hj)
    omega
 | nilp => exact .nilp
 | agg vs cs hl _ ih => exact .agg vs cs hl ih
 | tup vs cs hl _ ih => exact .tup vs cs hl ih
 | clo f fs cs gs ds h1 h2 _ _ ih1 ih2 => exact .clo f fs cs gs ds h1 h2 ih1 ih2
 | nilf => exact .nilf
 | iface t v c _ ih => exact .iface t v c ih
 | nili => exact .nili
 | und => exact .und
 | junk c => exact .junk c
theorem endOK.mono {e e' : Env} {i k : Nat} {c : Value} (hs : e'.sg i = e.sg i) (hp : ∀ b, e.sg i = some b → e'.ps b = e.ps b) (hz : ∀ b, cellsSize e.w b ≤ cellsSize e'.w b)
 (h : endOK e i k c) : endOK e' i k c := by
 unfold endOK at *
 split
 ·trivial
 ·rename_i a len cap
  rcases h with h | ⟨h1, h2, h3, h4⟩
  ·exact .inl h
  ·exact .inr ⟨hs.trans h1, (hp _ h1).trans h2, Nat.le_trans h3 (hz _), h4⟩
 ·rename_i h1 h2
  split at h
  ·exact (h1 _ _ rfl).elim
  ·exact (h2 _ _ _ rfl).elim
  ·exact h
theorem VR.mono {n : Nat} {e e' : Env} (hn : e.h.length ≤ n) (hx : Ext n e e') {v : AVal} {c : Value} (h : VR e v c) : VR e' v c := by
 have look : ∀ i o, e.h[i]? = some o → ∃ o', e'.h[i]? = some o' ∧ OMono e e' i o o' := fun i o ho => by
  have : i < e.h.length := (List.getElem?_eq_some_iff.1 ho).1
  exact hx.obj i o (by omega) ho
 induction h with
 | pure v c h => exact .pure v c (h.mono hx.ps hx.cell)
 | tok q i n c h ht =>
   refine .tok q i n c (h.mono hx.ps hx.cell) ?_
   unfold tokAt at ht
   split at ht
   ·rename_i n' ho
    obtain ⟨o', ho', hm⟩ := look i _ ho
    rw [ho']
    cases o' <;> simp only [OMono] at hm
    ·refine ⟨by omega, fun heq => ?_⟩
     have hm2 := hm.2 (by omega)
     exact (ht.2 (by omega)).mono hm2.1 hm2.2 hx.size
    ·simp only [tokAt]; omega
   ·rename_i n' ho
    obtain ⟨o', ho', hm⟩ := look i _ ho
    rw [ho']
    cases o' <;> simp only [OMono] at hm
    simp only [tokAt]; omega
   ·exact ht.elim
 | sl i g lo hi c h1 h =>
   refine .sl i g lo hi c h1 ?_
   unfold rwAt at h
   split at h
   ·rename_i g' q ho
    obtain ⟨o', ho', hm⟩ := look i _ ho
    rw [ho']
    cases o' <;> simp only [OMono] at hm
    ·rename_i g2 q2
     refine ⟨by omega, fun heq => ?_⟩
     obtain ⟨hs, hq, hk⟩ := hm.2 (by omega)
     have h2 := h.2 (by omega)
     obtain ⟨a1, a2, a3, a4⟩ := h2
     refine ⟨a1, a2, by omega, ?_⟩
     rcases a4 with a4 | ⟨b, cap, off, r1, r2, r3, r4⟩
     ·exact .inl ⟨a4.1, a4.2.1, a4.2.2.1, by omega⟩
     ·refine .inr ⟨b, cap, off, r1, by rw [hs]; exact r2, by rw [hq]; exact r3, ?_⟩
      rcases r4 with r4 | r4
      ·exact .inl r4
      ·rw [hk]; exact .inr ⟨r4.1, Nat.le_trans r4.2 (hx.size b)⟩
    ·simp only [rwAt]; omega
   ·rename_i g' ho
    obtain ⟨o', ho', hm⟩ := look i _ ho
    rw [ho']
    cases o' <;> simp only [OMono] at hm
    simp only [rwAt]; omega
   ·exact h.elim
 | ptr i off c h1 h =>
   refine .ptr i off c h1 ?_
   unfold boxAt at h
   split at h
   ·rename_i vs ho
    obtain ⟨o', ho', hm⟩ := look i _ ho
    rw [ho']
    cases o' <;> simp only [OMono] at hm
    ·obtain ⟨b, r1, r2, r3⟩ := h
     exact ⟨b, r1, by rw [hm.1]; exact r2, by rw [hm.2]; exact r3⟩
    ·trivial
   ·rename_i ho
    obtain ⟨o', ho', hm⟩ := look i _ ho
    rw [ho']
    cases o' <;> simp only [OMono] at hm
    trivial
   ·exact h.elim
 | pe i g ix off c h1 h =>
   refine .pe i g ix off c h1 ?_
   unfold rwAt at h
   split at h
   ·rename_i g' q ho
    obtain ⟨o', ho', hm⟩ := look i _ ho
    rw [ho']
    cases o' <;> simp only [OMono] at hm
    ·refine ⟨by omega, fun heq => ?_⟩
     obtain ⟨hs, hq, hk⟩ := hm.2 (by omega)
     obtain ⟨a1, a2, b, r1, r2⟩ := h.2 (by omega)
     exact ⟨a1, by omega, b, by rw [hk]; exact r1, by rw [hs]; exact r2⟩
    ·simp only [rwAt]; omega
   ·rename_i g' ho
    obtain ⟨o', ho', hm⟩ := look i _ ho
    rw [ho']
    cases o' <;> simp only [OMono] at hm
    simp only [rwAt]; omega
   ·exact h.elim
 | agg vs cs hl _ ih => exact .agg vs cs hl ih
 | tup vs cs hl _ ih => exact .tup vs cs hl ih
 | clo f fs cs gs ds h1 h2 _ _ ih1 ih2 => exact .clo f fs cs gs ds h1 h2 ih1 ih2
 | yld i c h1 h =>
   refine .yld i c h1 ?_
   unfold loopAt at h
   split at h
   ·rename_i r ho
    obtain ⟨o', ho', hm⟩ := look i _ ho
    rw [ho']
    cases o' <;> simp only [OMono] at hm
    ·obtain ⟨l, r1, r2⟩ := h
     exact ⟨l, by rw [hm]; exact r1, r2⟩
    ·trivial
   ·rename_i ho
    obtain ⟨o', ho', hm⟩ := look i _ ho
    rw [ho']
    cases o' <;> simp only [OMono] at hm
    trivial
   ·exact h.elim
 | hnd k i c h1 h =>
   refine .hnd k i c h1 ?_
   unfold objAt at h
   split at h
   ·rename_i r ho
    obtain ⟨o', ho', hm⟩ := look i _ ho
    rw [ho']
    cases o' <;> simp only [OMono] at hm
    ·obtain ⟨l, r1, r2⟩ := h
     exact ⟨l, by rw [hm]; exact r1, r2⟩
    ·trivial
   ·rename_i ho
    obtain ⟨o', ho', hm⟩ := look i _ ho
    rw [ho']
    cases o' <;> simp only [OMono] at hm
    trivial
   ·exact h.elim
 | iface t v c _ ih => exact .iface t v c ih
end Go.AL
/-
  AL: lists behind their shapes: what the hooks' functions come to.
-/
namespace Go.AL
open Go
theorem IntKind.same_eq {a b : IntKind} (h : IntKind.same a b = true) : a = b := by
 cases a <;> cases b <;> first | rfl | (simp [IntKind.same] at h)
mutual
theorem Sh.same_eq : ∀ {a b : Sh}, Sh.same a b = true → a = b
 | .int a, .int b, h => by simp only [Sh.same] at h; rw [IntKind.same_eq h]
 | .bool, .bool, _ => rfl
 | .str, .str, _ => rfl
 | .li a, .li b, h => by simp only [Sh.same] at h; rw [IntKind.same_eq h]
 | .lg a, .lg b, h => by simp only [Sh.same] at h; rw [Sh.same_eq h]
 | .rc a, .rc b, h => by simp only [Sh.same] at h; rw [Sh.sames_eq h]
 | .any, .any, _ => rfl
 | .int _, .bool, h | .int _, .str, h | .int _, .li _, h | .int _, .lg _, h | .int _, .rc _, h | .int _, .any, h => by simp [Sh.same] at h
 | .bool, .int _, h | .bool, .str, h | .bool, .li _, h | .bool, .lg _, h | .bool, .rc _, h | .bool, .any, h => by simp [Sh.same] at h
 | .str, .int _, h | .str, .bool, h | .str, .li _, h | .str, .lg _, h | .str, .rc _, h | .str, .any, h => by simp [Sh.same] at h
 | .li _, .int _, h | .li _, .bool, h | .li _, .str, h | .li _, .lg _, h | .li _, .rc _, h | .li _, .any, h => by simp [Sh.same] at h
 | .lg _, .int _, h | .lg _, .bool, h | .lg _, .str, h | .lg _, .li _, h | .lg _, .rc _, h | .lg _, .any, h => by simp [Sh.same] at h
 | .rc _, .int _, h | .rc _, .bool, h | .rc _, .str, h | .rc _, .li _, h | .rc _, .lg _, h | .rc _, .any, h => by simp [Sh.same] at h
 | .any, .int _, h | .any, .bool, h | .any, .str, h | .any, .li _, h | .any, .lg _, h | .any, .rc _, h => by simp [Sh.same] at h
theorem Sh.sames_eq : ∀ {a b : List Sh}, Sh.sames a b = true → a = b
 | [], [], _ => rfl
 | a :: x, b :: y, h => by
   simp only [Sh.sames] at h
   cases hs : Sh.same a b <;> rw [hs] at h
   ·cases h
   ·rw [Sh.same_eq hs, Sh.sames_eq h]
 | [], _ :: _, h => by simp [Sh.sames] at h
 | _ :: _, [], h => by simp [Sh.sames] at h
end
theorem etasR_shsOf (vs : List AVal) (ih : ∀ v ∈ vs, etaR (shOf v) v = v) : ∀ (l : List AVal) (j : Nat), (∀ i, l[i]? = vs[j + i]?) → etasR (shsOf l) j (.agg vs) = l
 | [], _, _ => rfl
 | v :: r, j, h => by
   have h0 := h 0
   simp at h0
   have hv : v ∈ vs := List.mem_of_getElem? h0.symm
   simp only [shsOf, etasR, rFc, AVal.cells]
   rw [show vs.getD j .junk = v by simp [List.getD, ← h0], ih v hv, etasR_shsOf vs ih r (j + 1) (fun i => by have := h (i + 1); simpa [Nat.add_assoc, Nat.add_comm 1 i] using this)]
theorem etaR_shOf : ∀ (v : AVal), etaR (shOf v) v = v
 | .bool _ => rfl
 | .int _ _ => rfl
 | .str _ => rfl
 | .ls .nl c => by cases c <;> rfl
 | .ls (.il k l) c => by cases c <;> rfl
 | .ls (.gl s l) c => by cases c <;> rfl
 | .sl .. => rfl
 | .ptr .. => rfl
 | .pe .. => rfl
 | .pp _ => rfl
 | .nilp => rfl
 | .agg vs => by
   simp only [shOf, etaR]
   rw [etasR_shsOf vs (fun v hv => etaR_shOf v) vs 0 (fun i => by simp)]
 | .tup _ => rfl
 | .clo .. => rfl
 | .nilf => rfl
 | .yld _ => rfl
 | .hnd .. => rfl
 | .iface .. => rfl
 | .nili => rfl
 | .und => rfl
 | .junk => rfl
termination_by v => SizeOf.sizeOf v
decreasing_by
 have := List.sizeOf_lt_of_mem hv
 simp
 omega
theorem shsOf_length : ∀ (l : List AVal), (shsOf l).length = l.length
 | [] => rfl
 | _ :: r => by simp [shsOf, shsOf_length r]
theorem shOf_k (v : AVal) : (shOf v).k = v.cells.length := by
 cases v with
 | agg vs => simp [shOf, Sh.k, AVal.cells, shsOf_length]
 | ls q c => cases q <;> cases c <;> rfl
 | _ => rfl
section
variable {p : Pr} (hp : DataOK p)
include hp
theorem set_real {q q' : LX} {i : Int} {v : AVal} (h : q.set p i v = some q') : q'.toL = q.toL.set i.toNat v ∧ q'.k = q.k ∧ (q.fit → q'.fit) := by
 cases q with
 | nl => simp [LX.set] at h
 | il k l =>
   cases v <;> simp only [LX.set] at h <;> try cases h
   split at h
   ·rename_i hk
    obtain rfl := IntKind.same_eq hk
    cases h
    refine ⟨?_, rfl, fun _ => trivial⟩
    simp [LX.toL, hp.stI, List.map_set]
   ·cases h
 | gl s xs =>
   simp only [LX.set] at h
   split at h
   ·rename_i hk
    have hk := Sh.same_eq hk
    cases h
    refine ⟨by simp [LX.toL, hp.stG], rfl, fun hf x hx => ?_⟩
    simp only [hp.stG] at hx
    rcases List.mem_or_eq_of_mem_set hx with hx | hx
    ·exact hf x hx
    ·rw [hx, hk]; exact etaR_shOf v
   ·cases h
theorem app_real {q r s : LX} (h : q.app p r = some s) : s.toL = q.toL ++ r.toL ∧ (q.fit → r.fit → s.fit) ∧ (∀ z, q.kOK z = true → r.kOK z = true → s.kOK z = true) ∧ (q ≠ .nl → s.k = q.k) := by
 unfold LX.app at h
 split at h
 ·cases h; exact ⟨rfl, fun _ h => h, fun _ _ h => h, fun h => absurd rfl h⟩
 ·cases h; exact ⟨by simp [LX.toL], fun h _ => h, fun _ h _ => h, fun _ => rfl⟩
 ·rename_i k l k' m
  split at h
  ·rename_i hk
   obtain rfl := IntKind.same_eq hk
   cases h
   exact ⟨by simp [LX.toL, hp.apI], fun _ _ => trivial, fun _ h _ => h, fun _ => rfl⟩
  ·cases h
 ·rename_i s1 xs s2 ys
  split at h
  ·rename_i hk
   obtain rfl := Sh.same_eq hk
   cases h
   refine ⟨by simp [LX.toL, hp.apG], fun h1 h2 x hx => ?_, fun _ h _ => h, fun _ => rfl⟩
   simp only [hp.apG, List.mem_append] at hx
   exact hx.elim (h1 x) (h2 x)
  ·cases h
 ·cases h
theorem sub_real (q : LX) (a b : Int) : (q.sub p a b).toL = rSub q.toL a b ∧ (q.fit → (q.sub p a b).fit) ∧ (q.sub p a b).k = q.k ∧ (∀ z, (q.sub p a b).kOK z = q.kOK z) := by
 cases q with
 | nl => exact ⟨by simp [LX.sub, LX.toL, rSub], fun _ => trivial, rfl, fun _ => rfl⟩
 | il k l => exact ⟨by simp [LX.sub, LX.toL, rSub, hp.sbI, List.map_take, List.map_drop], fun _ => trivial, rfl, fun _ => rfl⟩
 | gl s xs =>
   refine ⟨by simp [LX.sub, LX.toL, hp.sbG], fun h x hx => ?_, rfl, fun _ => rfl⟩
   simp only [hp.sbG, rSub] at hx
   exact h x (List.mem_of_mem_drop (List.mem_of_mem_take hx))
theorem rep_real (n : Int) (v : AVal) : (repLX p n v).toL = List.replicate n.toNat v ∧ (repLX p n v).fit ∧ (repLX p n v).k = v.cells.length := by
 unfold repLX
 split
 ·exact ⟨by simp [LX.toL, hp.rpI], trivial, rfl⟩
 ·refine ⟨by simp [LX.toL, hp.rpG], fun x hx => ?_, shOf_k v⟩
  simp only [hp.rpG] at hx
  rw [List.eq_of_mem_replicate hx]
  exact etaR_shOf v
end
theorem intsOf_spec {k : IntKind} : ∀ {l : List AVal} {m : List Int}, intsOf k l = some m → l = m.map (.int k)
 | [], m, h => by cases h; rfl
 | v :: r, m, h => by
   unfold intsOf at h
   split at h
   ·cases ‹_ :: _ = []›
   ·rename_i k' n r' heq
    cases heq
    split at h
    ·rename_i hk
     obtain rfl := IntKind.same_eq hk
     split at h
     ·rename_i l' hl
      cases h
      rw [intsOf_spec hl]
      rfl
     ·cases h
    ·cases h
   ·cases h
theorem allSh_spec {s : Sh} : ∀ {l : List AVal}, allSh s l = true → ∀ x ∈ l, shOf x = s
 | [], _, x, hx => by cases hx
 | v :: r, h, x, hx => by
   unfold allSh at h
   cases hs : Sh.same s (shOf v) <;> rw [hs] at h
   ·cases h
   ·rcases List.mem_cons.1 hx with rfl | hx
    ·exact (Sh.same_eq hs).symm
    ·exact allSh_spec h x hx
theorem mkLX_spec {l : List AVal} {q : LX} (h : mkLX l = some q) : q.toL = l ∧ q.fit ∧ ∀ x ∈ l, x.cells.length = q.k := by
 unfold mkLX at h
 split at h
 ·cases h; exact ⟨rfl, trivial, fun x hx => by cases hx⟩
 ·rename_i k n r
  split at h
  ·rename_i m hm
   cases h
   have := intsOf_spec hm
   refine ⟨this.symm, trivial, fun x hx => ?_⟩
   rw [this] at hx
   obtain ⟨a, _, rfl⟩ := List.mem_map.1 hx
   rfl
  ·cases h
 ·rename_i v r _
  split at h
  ·rename_i hs
   cases h
   have := allSh_spec hs
   refine ⟨rfl, fun x hx => ?_, fun x hx => ?_⟩
   ·rw [← this x hx]; exact etaR_shOf x
   ·rw [← shOf_k x, this x hx]; rfl
  ·cases h
theorem kOK_k {q : LX} {z : Nat} (h : q.kOK z = true) : q.toL = [] ∨ q.k = z := by
 cases q with
 | nl => exact .inl rfl
 | il k l => exact .inr (Nat.eq_of_beq_eq_true h)
 | gl s l => exact .inr (Nat.eq_of_beq_eq_true h)
theorem kOK_k' {q : LX} {z : Nat} (h : q.kOK z = true) : q = .nl ∨ q.k = z := by
 cases q with
 | nl => exact .inl rfl
 | il k l => exact .inr (Nat.eq_of_beq_eq_true h)
 | gl s l => exact .inr (Nat.eq_of_beq_eq_true h)
theorem putCells_length : ∀ (xs : List AVal) (n : Nat) (vs : List AVal), n + vs.length ≤ xs.length → (putCells xs n vs).length = xs.length
 | xs, 0, vs, h => by simp [putCells]; omega
 | [], n + 1, vs, h => by simp at h
 | x :: xs, n + 1, vs, h => by simp [putCells, putCells_length xs n vs (by simp at h; omega)]
theorem putCells_get : ∀ (xs : List AVal) (n : Nat) (vs : List AVal) (j : Nat), n + vs.length ≤ xs.length →
 (putCells xs n vs).getD j .junk = if n ≤ j ∧ j < n + vs.length then vs.getD (j - n) .junk else xs.getD j .junk
 | xs, 0, vs, j, h => by
   simp only [putCells, List.getD, List.getElem?_append, List.getElem?_drop, Nat.zero_le, true_and, Nat.zero_add, Nat.sub_zero]
   split
   ·rfl
   ·congr 2; omega
 | [], n + 1, vs, j, h => by simp at h
 | x :: xs, n + 1, vs, 0, h => by simp [putCells]
 | x :: xs, n + 1, vs, j + 1, h => by
   have := putCells_get xs n vs j (by simp at h; omega)
   simp only [putCells, List.getD_cons_succ, this]
   simp only [Nat.add_le_add_iff_right, Nat.add_sub_add_right]
   congr 1
   simp; omega
end Go.AL
/-
  AL: the operations, first part: types off the table; loads, stores and new variables.
-/
set_option linter.unusedSectionVars false
set_option linter.unusedVariables false
namespace Go.AL
open Go
def DOK : TD → TypeDesc → Prop
 | .int k, d => d = .int k
 | .bool, d => d = .bool
 | .str, d => d = .string
 | .slice e, d => d = .slice e
 | .array n e, d => d = .array n e
 | .struct fs, d => ∃ fields, d = .struct fields ∧ fields.toList.map (fun f => (f.offset, f.type)) = fs
 | .ptr e, d => d = .pointer e
 | .iface, d => ∃ ms, d = .interface ms
 | .func, d => ∃ a b c, d = .func a b c
 | .map k e, d => d = .map k e
 | .other, d => (match d with | .struct _ | .array _ _ | .interface _ => false | _ => true) = true
structure TIOK (P : Program) (t : Nat) (ti : TI) : Prop where
 ex : ∃ info z d, P.info? t = some info ∧ info.size = ti.sz ∧ info.bytes = ti.by_ ∧ info.zero = some z ∧ z.cells.size = ti.sz ∧ (∀ c ∈ z.cells, c.oneCell' = true) ∧
  (∀ w ps, PVR w ps ti.zero z) ∧ P.underlying t = some d ∧ DOK ti.d d
 zl : ti.zero.cells.length = ti.sz
 one : ti.d.isAgg = false → ti.sz = 1
 eqs : ti.eqf = true → ti.d.isAgg = true → P.eqGuardType P.depth t = false
 eqn : ti.eqf = true → ∀ fields, P.underlying t = some (.struct fields) → P.stoodInHeld t = false ∧ ∀ f ∈ fields.toList, f.name ≠ "_"
def TabOK (P : Program) (T : Tab) : Prop := ∀ t ti, T.get? t = some ti → TIOK P t ti
section
variable {P : Program} {t : Nat} {ti : TI}
theorem TIOK.under (h : TIOK P t ti) : ∃ d, P.underlying t = some d ∧ DOK ti.d d := let ⟨⟨_, _, d, h⟩, _, _, _, _⟩ := h; ⟨d, h.2.2.2.2.2.2.2⟩
theorem TIOK.run_isAgg (h : TIOK P t ti) (w : World) : (isAgg t).run P w = .ok ti.d.isAgg w := by
 obtain ⟨d, hu, hd⟩ := h.under
 unfold isAgg
 rw [Sem.run_bind, run_underlying hu]
 cases hk : ti.d <;> rw [hk] at hd <;> simp only [DOK] at hd
 case struct fs => obtain ⟨f, rfl, _⟩ := hd; rfl
 case iface => obtain ⟨f, rfl⟩ := hd; rfl
 case func => obtain ⟨a, b, c, rfl⟩ := hd; rfl
 case other => cases d <;> first | rfl | (simp at hd)
 all_goals (subst hd; rfl)
theorem TIOK.run_sizeOf (h : TIOK P t ti) (w : World) : (sizeOf t).run P w = .ok ti.sz w := by
 obtain ⟨⟨info, z, d, hi, hs, _⟩, _, _, _, _⟩ := h
 unfold sizeOf typeInfo
 simp [hi, hs]
theorem TIOK.run_zero (h : TIOK P t ti) : ∃ z, (∀ w, (zeroValue t).run P w = .ok z w) ∧ z.cells.size = ti.sz ∧ (∀ c ∈ z.cells, c.oneCell' = true) ∧ (∀ w ps, PVR w ps ti.zero z) := by
 obtain ⟨⟨info, z, d, hi, hs, hb, hz, h1, h2, h3, _⟩, _, _, _, _⟩ := h
 refine ⟨z, fun w => ?_, h1, h2, h3⟩
 unfold zeroValue typeInfo
 simp [hi, hz]
end
theorem PVR.agg_inv {w : World} {ps : Nat → Nat} {vs : List AVal} {c : Value} (h : PVR w ps (.agg vs) c) : ∃ cs, c = .agg cs ∧ vs.length = cs.size ∧ ∀ i, i < vs.length → PVR w ps (vs.getD i .junk) (cs.getD i undef) := by
 cases h with | agg _ cs hl hv => exact ⟨cs, rfl, hl, hv⟩
theorem VR.agg_inv {e : Env} {vs : List AVal} {c : Value} (h : VR e (.agg vs) c) : ∃ cs, c = .agg cs ∧ vs.length = cs.size ∧ ∀ i, i < vs.length → VR e (vs.getD i .junk) (cs.getD i undef) := by
 cases h with
 | pure _ _ h => obtain ⟨cs, r, hl, hv⟩ := h.agg_inv; exact ⟨cs, r, hl, fun i hi => .pure _ _ (hv i hi)⟩
 | agg _ cs hl hv => exact ⟨cs, rfl, hl, hv⟩
theorem VR.one {e : Env} {v : AVal} {c : Value} (h : VR e v c) (ho : oneA v = true) : c.oneCell' = true := by
 cases h with
 | pure _ _ h => cases h <;> first | rfl | (simp [oneA] at ho)
 | tok q i n c h ht => cases h <;> rfl
 | agg | tup => simp [oneA] at ho
 | clo | iface => rfl
 | yld i c h1 h => exact h1
 | hnd k i c h1 h => exact h1
 | ptr _ _ _ h1 => exact h1
 | pe _ _ _ _ _ h1 => exact h1
 | sl _ _ _ _ _ h1 => exact h1
theorem one_not_agg {c : Value} (h : c.oneCell' = true) : c.cells = #[c] := by cases c <;> first | rfl | (simp [Value.oneCell'] at h)
theorem oneA_cells {v : AVal} (h : oneA v = true) : v.cells = [v] := by cases v <;> first | rfl | (simp [oneA] at h)
theorem allOne_iff : ∀ {l : List AVal}, allOne l = true ↔ ∀ i, i < l.length → oneA (l.getD i .junk) = true
 | [] => by simp [allOne]
 | v :: r => by
   unfold allOne
   constructor
   ·intro h
    cases hv : oneA v <;> rw [hv] at h
    ·simp at h
    ·intro i hi
     cases i with
     | zero => simpa using hv
     | succ i => have := allOne_iff.1 h i (by simpa using hi); simpa using this
   ·intro h
    have h0 := h 0 (by simp)
    simp at h0
    rw [h0]
    exact allOne_iff.2 fun i hi => by have := h (i + 1) (by simpa using hi); simpa using this
theorem VR.cells {e : Env} {v : AVal} {c : Value} (h : VR e v c) (ho : allOne v.cells = true) :
 v.cells.length = c.cells.size ∧ (∀ i, i < v.cells.length → VR e (v.cells.getD i .junk) (c.cells.getD i undef)) ∧ ∀ i, i < v.cells.length → (c.cells.getD i undef).oneCell' = true := by
 have key : v.cells.length = c.cells.size ∧ ∀ i, i < v.cells.length → VR e (v.cells.getD i .junk) (c.cells.getD i undef) := by
  by_cases hv : ∃ vs, v = .agg vs
  ·obtain ⟨vs, rfl⟩ := hv
   obtain ⟨cs, rfl, h1, h2⟩ := h.agg_inv
   exact ⟨h1, h2⟩
  ·have hv' : ∀ vs, v ≠ .agg vs := fun vs e => hv ⟨vs, e⟩
   have e1 : v.cells = [v] := by cases v <;> first | rfl | exact absurd rfl (hv' _)
   rw [e1] at ho ⊢
   have o1 := allOne_iff.1 ho 0 (by simp)
   simp at o1
   rw [one_not_agg (h.one o1)]
   refine ⟨rfl, fun i hi => ?_⟩
   have : i = 0 := by simp at hi; omega
   subst this
   exact h
 exact ⟨key.1, key.2, fun i hi => (key.2 i hi).one (allOne_iff.1 ho i hi)⟩
theorem part_rel {R : AVal → Value → Prop} (hagg : ∀ vs cs, vs.length = cs.size → (∀ i, i < vs.length → R (vs.getD i .junk) (cs.getD i undef)) → R (.agg vs) (.agg cs))
 {P : Program} {t : Nat} {ti : TI} (hT : TIOK P t ti) {w : World} {b off : Nat} {vs : List AVal} {o : Nat} (hle : o + ti.sz ≤ vs.length) (f : Nat → Value)
 (hc : ∀ j, j < ti.sz → w.cell? ⟨b, off + j, none⟩ = some (f j)) (hv : ∀ j, j < ti.sz → R (vs.getD (o + j) .junk) (f j)) :
 ∃ c, (loadVar t ⟨b, off, none⟩).run P w = .ok c w ∧ R (part ti vs o) c := by
 unfold loadVar
 rw [Sem.run_bind, hT.run_isAgg]
 simp only [Result.andThen_ok]
 cases ha : ti.d.isAgg
 ·have h1 := hT.one ha
  refine ⟨f 0, ?_, ?_⟩
  ·have := hc 0 (by omega)
   simp only [Nat.add_zero] at this
   simp [run_load, this]
  ·unfold part
   rw [ha]
   have := hv 0 (by omega)
   simpa using this
 ·have hadd : ∀ j, (⟨b, off, none⟩ : Addr).add j = ⟨b, off + j, none⟩ := fun j => by
   unfold Addr.add; split
   ·rename_i h; subst h; rfl
   ·rfl
  have hl := run_loadCells (P := P) w ⟨b, off, none⟩ ti.sz f (fun j hj => by rw [hadd]; exact hc j hj)
  refine ⟨.agg ((List.range ti.sz).map f).toArray, ?_, ?_⟩
  ·simp only [if_true, Sem.run_bind, hT.run_sizeOf, Result.andThen_ok, hl, Sem.run_pure]
  ·unfold part
   rw [ha]
   refine hagg _ _ ?_ ?_
   ·simp; omega
   ·intro i hi
    simp at hi
    have h1 : i < ti.sz := by omega
    have := hv i h1
    simpa [List.getD, h1, List.getElem?_take, List.getElem?_drop] using this
theorem VR.part {e : Env} {P : Program} {t : Nat} {ti : TI} (hT : TIOK P t ti) {b off : Nat} {vs : List AVal} {o : Nat} (hle : o + ti.sz ≤ vs.length) (f : Nat → Value)
 (hc : ∀ j, j < ti.sz → e.w.cell? ⟨b, off + j, none⟩ = some (f j)) (hv : ∀ j, j < ti.sz → VR e (vs.getD (o + j) .junk) (f j)) :
 ∃ c, (loadVar t ⟨b, off, none⟩).run P e.w = .ok c e.w ∧ VR e (Go.AL.part ti vs o) c :=
 part_rel (R := VR e) (fun vs cs h1 h2 => .agg vs cs h1 h2) hT hle f hc hv
def Step (e : Env) (v : AVal) (h : Heap) (c : Value) (w : World) : Prop := ∃ e', Good e' ∧ e'.h = h ∧ e'.w = w ∧ VR e' v c ∧ Upd e e' ∧ Ext e.h.length e e'
def ARok (e : Env) (r : AR) (run : Result Value) : Prop := match r with
 | .ok v h => ∃ c w', run = .ok c w' ∧ Step e v h c w'
 | .need q v h => rNd q → ∃ c w', run = .ok c w' ∧ Step e v h c w'
 | .stuck => True
def ARokS (e : Env) (r : AR) (run : Result Value) : Prop := match r with
 | .ok v h => h = e.h ∧ ∃ c, run = .ok c e.w ∧ VR e v c
 | .need _ _ _ => False
 | .stuck => True
theorem Step.same {e : Env} (hg : Good e) {v : AVal} {c : Value} (h : VR e v c) : Step e v e.h c e.w := ⟨e, hg, rfl, rfl, h, .refl _, .refl _ _⟩
theorem ARok.same {e : Env} (hg : Good e) {v : AVal} {c : Value} {run : Result Value} (h : VR e v c) (hr : run = .ok c e.w) : ARok e (.ok v e.h) run := ⟨c, e.w, hr, .same hg h⟩
theorem ARok.need {e : Env} (hg : Good e) {q : Need} {v : AVal} {run : Result Value} (h : rNd q → ∃ c, VR e v c ∧ run = .ok c e.w) : ARok e (.need q v e.h) run :=
 fun hq => let ⟨c, h1, h2⟩ := h hq; ⟨c, e.w, h2, .same hg h1⟩
theorem lt_of_ps {e : Env} (hg : Good e) {b o : Nat} (h : o < e.ps b) : b < e.w.heap.size := by
 have := hg.ps b
 rcases Nat.lt_or_ge b e.w.heap.size with h' | h'
 ·exact h'
 ·simp [cellsSize, Array.getElem?_eq_none h'] at this; omega
def Env.wr (e : Env) (b : Nat) (cs : Array Value) (h : Heap) (m : Nat) : Env := { w := e.w.setRow b cs, sg := e.sg, h := h, ps := fun x => if x = b then m else e.ps x }
section
variable {e : Env} (hg : Good e) {i b : Nat} {o o' : AObj} {cs cs' : Array Value} {el : TypeId} {h' : Heap} {m : Nat}
 (ho : e.h[i]? = some o) (hlive : o.live = true) (hs : e.sg i = some b) (hb : e.w.heap[b]? = some (.cells cs el (0, 0))) (hsz : cs'.size = cs.size)
 (hh : ∀ j, j ≠ i → h'[j]? = e.h[j]?) (hi : h'[i]? = some o') (hm : OMono e (e.wr b cs' h' m) i o o')
 (hkeep : ∀ x, x < e.ps b → cs'[x]? = cs[x]?) (hps : e.ps b ≤ m)
include hg ho hs hb hsz hh hi hm hkeep hps
include hlive in
theorem wr_ext : Ext e.h.length e (e.wr b cs' h' m) where
 obj := fun j oj hj hoj => by
  by_cases hji : j = i
  ·subst hji
   rw [ho] at hoj
   obtain rfl := Option.some.inj hoj
   exact ⟨o', hi, hm⟩
  ·refine ⟨oj, (hh j hji).trans hoj, ?_⟩
   cases oj <;> simp only [OMono, Env.wr] <;> try simp
   intro b' hb' hbb
   subst hbb
   exact absurd (hg.inj j i _ _ _ hoj rfl ho hlive hb' hs) hji
 ps := fun x => by
  simp only [Env.wr]
  split
  ·rename_i h; subst h; exact hps
  ·exact Nat.le_refl _
 cell := fun x y hy => by
  simp only [Env.wr]
  by_cases hx : x = b
  ·subst hx
   rw [cell_setRow_same _ _ _ _ _ _ _ hb, cell_of_row _ _ _ _ _ _ hb]
   exact hkeep y hy
  ·rw [cell_setRow_other _ _ _ _ hx]
 size := fun x => by
  simp only [Env.wr, cellsSize]
  by_cases hx : x = b
  ·subst hx
   rw [setRow_heap _ _ _ _ _ _ hb, hb]
   simp [hsz]
  ·rw [setRow_other _ _ _ _ hx]
   exact Nat.le_refl _
omit hm hkeep hps hsz hi in
include hlive in
theorem wr_upd (hi : h'[i]? = some o') : Upd e (e.wr b cs' h' m) where
 os := rfl
 tape := rfl
 output := rfl
 size := by simp [Env.wr, World.setRow]
 frame := fun x hx hno => by
  have hxb : x ≠ b := fun h => hno (by subst h; exact ⟨i, o, ho, hlive, hs⟩)
  simp only [Env.wr]
  exact ⟨setRow_other _ _ _ _ hxb, by rw [if_neg hxb]⟩
 own := fun x ⟨j, oj, hj, hl, hsj⟩ => by
  by_cases hji : j = i
  ·subst hji
   exact .inl ⟨j, o, ho, hlive, hsj⟩
  ·exact .inl ⟨j, oj, (hh j hji).symm.trans hj, hl, hsj⟩
include hlive in
theorem wr_good (hok : ObjOK (e.wr b cs' h' m) i o') (hm2 : m ≤ cs.size) : Good (e.wr b cs' h' m) where
 obj := fun j oj hj => by
  by_cases hji : j = i
  ·subst hji
   rw [show (e.wr b cs' h' m).h = h' from rfl, hi] at hj
   obtain rfl := Option.some.inj hj
   exact hok
  ·have hj' : e.h[j]? = some oj := (hh j hji).symm.trans hj
   have hx := wr_ext hg ho hlive hs hb hsz hh hi hm hkeep hps
   have hob := hg.obj j oj hj'
   have hne : ∀ b', oj.live = true → e.sg j = some b' → b' ≠ b := fun b' hl hsj hbb => by
    subst hbb
    exact hji (hg.inj j i _ _ _ hj' hl ho hlive hsj hs)
   cases oj with
   | box vs =>
     obtain ⟨b2, c2, el2, h1, h2, h3, h4, h5⟩ := hob
     have hn := hne b2 rfl h1
     exact ⟨b2, c2, el2, h1, (setRow_other _ _ _ _ hn).trans h2, h3, by simp only [Env.wr]; rw [if_neg hn]; exact h4, fun k hk => (h5 k hk).mono (Nat.le_refl _) hx⟩
   | rw g q =>
     rcases hob with h0 | ⟨b2, c2, el2, h1, h2, h3, h4, h5, h6, h7⟩
     ·exact .inl h0
     ·have hn := hne b2 rfl h1
      exact .inr ⟨b2, c2, el2, h1, (setRow_other _ _ _ _ hn).trans h2, h3, by simp only [Env.wr]; rw [if_neg hn]; exact h4, h5, h6, fun x y hx' hy' => ⟨((h7 x y hx' hy').1).mono (Nat.le_refl _) hx, (h7 x y hx' hy').2⟩⟩
   | tok n =>
     intro b2 h1
     obtain ⟨c2, el2, h2⟩ := hob b2 h1
     have hn := hne b2 rfl h1
     exact ⟨c2, el2, (setRow_other _ _ _ _ hn).trans h2⟩
   | loop r =>
     obtain ⟨b2, r2, h1, h2, h3, h4⟩ := hob
     have hn := hne b2 rfl h1
     exact ⟨b2, r2, h1, (setRow_other _ _ _ _ hn).trans h2, h3, fun t => (h4 t).mono (Nat.le_refl _) hx⟩
   | obj r =>
     obtain ⟨b2, r2, h1, h2, h3⟩ := hob
     have hn := hne b2 rfl h1
     exact ⟨b2, r2, h1, (setRow_other _ _ _ _ hn).trans h2, h3⟩
   | dead g => trivial
 inj := fun x y ox oy b2 hx hlx hy hly hsx hsy => by
  have key : ∀ (z : Nat) (oz : AObj), (e.wr b cs' h' m).h[z]? = some oz → oz.live = true → ∃ oz' : AObj, e.h[z]? = some oz' ∧ oz'.live = true := fun z oz hz hlz => by
   by_cases hzi : z = i
   ·subst hzi; exact ⟨o, ho, hlive⟩
   ·exact ⟨oz, (hh z hzi).symm.trans hz, hlz⟩
  obtain ⟨ox', hx', hlx'⟩ := key x ox hx hlx
  obtain ⟨oy', hy', hly'⟩ := key y oy hy hly
  exact hg.inj x y ox' oy' b2 hx' hlx' hy' hly' hsx hsy
 ps := fun x => by
  simp only [Env.wr, cellsSize]
  by_cases hx : x = b
  ·subst hx
   rw [setRow_heap _ _ _ _ _ _ hb, if_pos rfl]
   simp only [hsz]
   exact hm2
  ·rw [setRow_other _ _ _ _ hx, if_neg hx]
   exact hg.ps x
end
def Env.fresh (e : Env) (w' : World) (i : Nat) (h : Heap) (m : Nat) : Env := { w := w', sg := fun j => if j = i then some e.w.heap.size else e.sg j, h := h, ps := fun x => if x = e.w.heap.size then m else e.ps x }
section
variable {e : Env} (hg : Good e) {w' : World} {ob : Obj} {i : Nat} {o' : AObj} {h' : Heap} {m : Nat}
 (hw : w'.heap = e.w.heap.push ob) (hm2 : m ≤ (match ob with | .cells cs _ _ => cs.size | _ => 0))
 (hh : ∀ j, j ≠ i → h'[j]? = e.h[j]?) (hi : h'[i]? = some o') (hm : ∀ o, e.h[i]? = some o → OMono e (e.fresh w' i h' m) i o o')
include hg hw hh hi hm
theorem fresh_old {x : Nat} (hx : x < e.w.heap.size) : w'.heap[x]? = e.w.heap[x]? := by
 rw [hw, Array.getElem?_push, if_neg (by omega)]
theorem fresh_new : w'.heap[e.w.heap.size]? = some ob := by
 rw [hw, Array.getElem?_push, if_pos rfl]
theorem fresh_ps0 : e.ps e.w.heap.size = 0 := by
 have := hg.ps e.w.heap.size
 simpa [cellsSize] using this
theorem fresh_sg {j b : Nat} {oj : AObj} (hj : e.h[j]? = some oj) (hl : oj.live = true) (hs : e.sg j = some b) : (∃ ob, e.w.heap[b]? = some ob) := by
 have := hg.obj j oj hj
 cases oj with
 | box vs => obtain ⟨b2, c2, el2, h1, h2, _⟩ := this; rw [h1] at hs; exact ⟨_, (Option.some.inj hs) ▸ h2⟩
 | rw g q =>
   rcases this with h0 | ⟨b2, c2, el2, h1, h2, _⟩
   ·rw [h0.2] at hs; cases hs
   ·rw [h1] at hs; exact ⟨_, (Option.some.inj hs) ▸ h2⟩
 | tok n => obtain ⟨c2, el2, h2⟩ := this b hs; exact ⟨_, h2⟩
 | loop r => obtain ⟨b2, r2, h1, h2, _⟩ := this; rw [h1] at hs; exact ⟨_, (Option.some.inj hs) ▸ h2⟩
 | obj r => obtain ⟨b2, r2, h1, h2, _⟩ := this; rw [h1] at hs; exact ⟨_, (Option.some.inj hs) ▸ h2⟩
 | dead g => simp [AObj.live] at hl
theorem fresh_ext : Ext e.h.length e (e.fresh w' i h' m) where
 obj := fun j oj hj hoj => by
  by_cases hji : j = i
  ·subst hji
   exact ⟨o', hi, hm oj hoj⟩
  ·refine ⟨oj, (hh j hji).trans hoj, ?_⟩
   cases oj <;> simp only [OMono, Env.fresh, if_neg hji] <;> try simp
   intro b' hb' hbb
   obtain ⟨ob', hob'⟩ := fresh_sg hg hw hh hi hm hoj rfl hb'
   subst hbb
   simp at hob'
 ps := fun x => by
  simp only [Env.fresh]
  split
  ·rename_i h; subst h; rw [fresh_ps0 hg hw hh hi hm]; exact Nat.zero_le _
  ·exact Nat.le_refl _
 cell := fun x y hy => by
  have hx := lt_of_ps hg hy
  simp only [Env.fresh, World.cell?]
  rw [fresh_old hg hw hh hi hm hx]
 size := fun x => by
  simp only [Env.fresh, cellsSize]
  rcases Nat.lt_or_ge x e.w.heap.size with hx | hx
  ·rw [fresh_old hg hw hh hi hm hx]; exact Nat.le_refl _
  ·rw [Array.getElem?_eq_none hx]; exact Nat.zero_le _
omit hm in
theorem fresh_upd (hos : w'.os = e.w.os) (htp : w'.tape = e.w.tape) (hout : w'.output = e.w.output) : Upd e (e.fresh w' i h' m) where
 os := hos
 tape := htp
 output := hout
 size := by simp [Env.fresh, hw]
 frame := fun x hx _ => by
  simp only [Env.fresh]
  refine ⟨?_, by rw [if_neg (by omega)]⟩
  rw [hw, Array.getElem?_push, if_neg (by omega)]
 own := fun x ⟨j, oj, hj, hl, hsj⟩ => by
  by_cases hji : j = i
  ·subst hji
   simp only [Env.fresh, if_true] at hsj
   right
   exact Nat.le_of_eq (Option.some.inj hsj)
  ·simp only [Env.fresh, if_neg hji] at hsj
   exact .inl ⟨j, oj, (hh j hji).symm.trans hj, hl, hsj⟩
include hm2 in
theorem fresh_good (hok : ObjOK (e.fresh w' i h' m) i o') : Good (e.fresh w' i h' m) where
 obj := fun j oj hj => by
  by_cases hji : j = i
  ·subst hji
   rw [show (e.fresh w' j h' m).h = h' from rfl, hi] at hj
   obtain rfl := Option.some.inj hj
   exact hok
  ·have hj' : e.h[j]? = some oj := (hh j hji).symm.trans hj
   have hx := fresh_ext hg hw hh hi hm
   have hob := hg.obj j oj hj'
   have hlt : ∀ b' ob', e.w.heap[b']? = some ob' → b' < e.w.heap.size := fun b' ob' h => (Array.getElem?_eq_some_iff.1 h).1
   have hsg : (e.fresh w' i h' m).sg j = e.sg j := by simp only [Env.fresh, if_neg hji]
   have hpp : ∀ b', b' < e.w.heap.size → (e.fresh w' i h' m).ps b' = e.ps b' := fun b' hb' => by simp only [Env.fresh]; rw [if_neg (by omega)]
   cases oj with
   | box vs =>
     obtain ⟨b2, c2, el2, h1, h2, h3, h4, h5⟩ := hob
     have hn := hlt _ _ h2
     exact ⟨b2, c2, el2, hsg.trans h1, (fresh_old hg hw hh hi hm hn).trans h2, h3, (hpp _ hn).trans h4, fun k hk => (h5 k hk).mono (Nat.le_refl _) hx⟩
   | rw g q =>
     rcases hob with h0 | ⟨b2, c2, el2, h1, h2, h3, h4, h5, h6, h7⟩
     ·exact .inl ⟨h0.1, hsg.trans h0.2⟩
     ·have hn := hlt _ _ h2
      exact .inr ⟨b2, c2, el2, hsg.trans h1, (fresh_old hg hw hh hi hm hn).trans h2, h3, (hpp _ hn).trans h4, h5, h6, fun x y hx' hy' => ⟨((h7 x y hx' hy').1).mono (Nat.le_refl _) hx, (h7 x y hx' hy').2⟩⟩
   | tok n =>
     intro b2 h1
     rw [hsg] at h1
     obtain ⟨c2, el2, h2⟩ := hob b2 h1
     exact ⟨c2, el2, (fresh_old hg hw hh hi hm (hlt _ _ h2)).trans h2⟩
   | loop r =>
     obtain ⟨b2, r2, h1, h2, h3, h4⟩ := hob
     exact ⟨b2, r2, hsg.trans h1, (fresh_old hg hw hh hi hm (hlt _ _ h2)).trans h2, h3, fun t => (h4 t).mono (Nat.le_refl _) hx⟩
   | obj r =>
     obtain ⟨b2, r2, h1, h2, h3⟩ := hob
     exact ⟨b2, r2, hsg.trans h1, (fresh_old hg hw hh hi hm (hlt _ _ h2)).trans h2, h3⟩
   | dead g => trivial
 inj := fun x y ox oy b2 hx hlx hy hly hsx hsy => by
  have key : ∀ (z : Nat) (oz : AObj), z ≠ i → (e.fresh w' i h' m).h[z]? = some oz → oz.live = true → (e.fresh w' i h' m).sg z = some b2 → b2 < e.w.heap.size ∧ e.h[z]? = some oz ∧ e.sg z = some b2 := fun z oz hzi hz hlz hsz => by
   have hz' := (hh z hzi).symm.trans hz
   simp only [Env.fresh, if_neg hzi] at hsz
   obtain ⟨ob', h⟩ := fresh_sg hg hw hh hi hm hz' hlz hsz
   exact ⟨(Array.getElem?_eq_some_iff.1 h).1, hz', hsz⟩
  have self : ∀ z, z = i → (e.fresh w' i h' m).sg z = some b2 → b2 = e.w.heap.size := fun z hz h => by
   simp only [Env.fresh, if_pos hz] at h; exact (Option.some.inj h).symm
  by_cases hxi : x = i <;> by_cases hyi : y = i
  ·rw [hxi, hyi]
  ·have h1 := self x hxi hsx
   have h2 := key y oy hyi hy hly hsy
   omega
  ·have h1 := self y hyi hsy
   have h2 := key x ox hxi hx hlx hsx
   omega
  ·have h1 := key x ox hxi hx hlx hsx
   have h2 := key y oy hyi hy hly hsy
   exact hg.inj x y ox oy b2 h1.2.1 hlx h2.2.1 hly h1.2.2 h2.2.2
 ps := fun x => by
  simp only [Env.fresh, cellsSize]
  rcases Nat.lt_trichotomy x e.w.heap.size with hx | hx | hx
  ·rw [if_neg (by omega), fresh_old hg hw hh hi hm hx]; exact hg.ps x
  ·subst hx
   rw [if_pos rfl, fresh_new hg hw hh hi hm]
   cases ob <;> exact hm2
  ·rw [if_neg (by omega)]
   have := hg.ps x
   simp only [cellsSize, Array.getElem?_eq_none (Nat.le_of_lt hx)] at this
   omega
end
section
variable {P : Program} {T : Tab} (hT : TabOK P T) {e : Env} (hg : Good e)
include hT hg
theorem aLoad_keep {p : Pr} (hp : DataOK p) {t : Nat} {a : AVal} {c : Value} (ha : VR e a c) :
 ARokS e (aLoad p T t a e.h) ((Instr.loadAt t c).run P e.w) := by
 unfold aLoad
 cases hti : T.get? t with
 | none => trivial
 | some ti =>
 have hti := hT _ _ hti
 simp only
 split
 ·-- a box
  rename_i i off
  split
  ·rename_i vs ho
   cases hle : Nat.ble (off + ti.sz) vs.length
   ·trivial
   have hle := Nat.le_of_ble_eq_true hle
   simp only
   have hb : boxAt e.h[i]? fun vs => ∃ b, c = .pointer (some ⟨b, off, none⟩) ∧ e.sg i = some b ∧ off ≤ vs.length := by
    cases ha with
    | ptr _ _ _ h1 h => exact h
    | pure _ _ h => cases h
   rw [ho] at hb
   obtain ⟨b, rfl, hs, _⟩ := hb
   obtain ⟨b', cs, el, hs', hh, hl, _, hv⟩ := hg.obj i _ ho
   obtain rfl : b = b' := by rw [hs] at hs'; exact Option.some.inj hs'
   obtain ⟨c, hr, hc⟩ := VR.part (e := e) hti (b := b) (off := off) (o := off) hle (fun j => cs.getD (off + j) undef) (fun j hj => by
    rw [cell_of_row _ _ _ _ _ _ hh]
    have : off + j < cs.size := by omega
    simp [this]) (fun j hj => hv _ (by omega))
   refine ⟨rfl, c, ?_, hc⟩
   simp only [Instr.loadAt, Instr.sureAddr, Sem.run_bind, Sem.run_pure, Result.andThen_ok]
   exact hr
  ·trivial
 ·-- an element of a row
  rename_i i g ix off
  split
  ·rename_i g' q ho
   cases hgg : Nat.beq g g'
   ·trivial
   obtain rfl := Nat.eq_of_beq_eq_true hgg
   simp only
   cases hle : Nat.ble (off + ti.sz) (q.get p ix).cells.length
   ·trivial
   have hle := Nat.le_of_ble_eq_true hle
   simp only
   have hb : rwAt e.h[i]? g fun q => 0 ≤ ix ∧ ix < q.n ∧ ∃ b, c = .pointer (some ⟨b, ix.toNat * q.k + off, none⟩) ∧ e.sg i = some b := by
    cases ha with
    | pe _ _ _ _ _ h1 h => exact h
    | pure _ _ h => cases h
   rw [ho] at hb
   obtain ⟨a1, a2, b, rfl, hs⟩ := hb.2 rfl
   have hobj := hg.obj i _ ho
   rcases hobj with ⟨h0, _⟩ | ⟨b', cs, el, hs', hh, hl, _, hfit, hk, hv⟩
   ·omega
   obtain rfl : b = b' := by rw [hs] at hs'; exact Option.some.inj hs'
   have hget := get_real hp hfit a1 a2
   rw [hget] at hle ⊢
   have hki := hk ix.toNat (by omega)
   rw [hki] at hle
   have hlt : (ix.toNat + 1) * q.k ≤ q.n * q.k := Nat.mul_le_mul_right _ (by omega)
   rw [Nat.add_mul] at hlt
   obtain ⟨c, hr, hc⟩ := VR.part (e := e) hti (b := b) (off := ix.toNat * q.k + off) (vs := (q.at_ ix.toNat).cells) (o := off) (by rw [hki]; exact hle) (fun j => cs.getD (ix.toNat * q.k + off + j) undef) (fun j hj => by
    rw [cell_of_row _ _ _ _ _ _ hh]
    have : ix.toNat * q.k + off + j < cs.size := by omega
    simp [this]) (fun j hj => by
     have := (hv ix.toNat (off + j) (by omega) (by omega)).1
     rwa [← Nat.add_assoc] at this)
   refine ⟨rfl, c, ?_, hc⟩
   simp only [Instr.loadAt, Instr.sureAddr, Sem.run_bind, Sem.run_pure, Result.andThen_ok]
   exact hr
  ·trivial
 ·-- what is written no more
  rename_i xs
  cases hle : Nat.ble ti.sz xs.length
  ·trivial
  have hle := Nat.le_of_ble_eq_true hle
  simp only
  have hpv : PVR e.w e.ps (.pp xs) c := by cases ha with | pure _ _ h => exact h
  cases hpv with
  | pp _ b off cv hp hc hv =>
    obtain ⟨c, hr, hc⟩ := VR.part (e := e) hti (b := b) (off := off) (vs := xs) (o := 0) (by omega) cv (fun j hj => hc j (by omega)) (fun j hj => by
     rw [Nat.zero_add]; exact .pure _ _ (hv j (by omega)))
    refine ⟨rfl, c, ?_, hc⟩
    simp only [Instr.loadAt, Instr.sureAddr, Sem.run_bind, Sem.run_pure, Result.andThen_ok]
    exact hr
 ·trivial
theorem aLoad_ok {p : Pr} (hp : DataOK p) {t : Nat} {a : AVal} {c : Value} (ha : VR e a c) :
 ARok e (aLoad p T t a e.h) ((Instr.loadAt t c).run P e.w) := by
 have h := aLoad_keep hT hg hp (t := t) ha
 revert h
 cases aLoad p T t a e.h with
 | ok v h' =>
   rintro ⟨rfl, c', hr, hv⟩
   exact ⟨c', e.w, hr, .same hg hv⟩
 | need => exact fun h => h.elim
 | stuck => exact fun _ => trivial
omit hT in
theorem fresh_end {w' : World} {cs : Array Value} {el : TypeId} {o' : AObj} {m : Nat} (hw : w'.heap = e.w.heap.push (.cells cs el)) (hos : w'.os = e.w.os) (htp : w'.tape = e.w.tape) (hout : w'.output = e.w.output)
 (hm2 : m ≤ cs.size) {v : AVal} {c : Value}
 (hok : Ext e.h.length e (e.fresh w' e.h.length (e.h ++ [o']) m) → ObjOK (e.fresh w' e.h.length (e.h ++ [o']) m) e.h.length o')
 (hv : Ext e.h.length e (e.fresh w' e.h.length (e.h ++ [o']) m) → VR (e.fresh w' e.h.length (e.h ++ [o']) m) v c) : Step e v (e.h ++ [o']) c w' := by
 have hh : ∀ j, j ≠ e.h.length → (e.h ++ [o'])[j]? = e.h[j]? := fun j hj => by
  rcases Nat.lt_or_ge j e.h.length with h | h
  ·rw [List.getElem?_append_left h]
  ·rw [List.getElem?_eq_none (by simp; omega), List.getElem?_eq_none h]
 have hi : (e.h ++ [o'])[e.h.length]? = some o' := by simp
 have hm : ∀ o, e.h[e.h.length]? = some o → OMono e (e.fresh w' e.h.length (e.h ++ [o']) m) e.h.length o o' := fun o h => by simp at h
 have hx := fresh_ext hg hw hh hi hm
 exact ⟨_, fresh_good hg hw hm2 hh hi hm (hok hx), rfl, rfl, hv hx, fresh_upd hg hw hh hi hos htp hout, hx⟩
theorem aAlloc_ok {t : Nat} : ARok e (aAlloc T t e.h) ((Instr.alloc t true (.tuple #[])).run P e.w) := by
 unfold aAlloc
 cases hti : T.get? t with
 | none => trivial
 | some ti =>
 have hti := hT _ _ hti
 obtain ⟨z, hz, hz1, hz2, hz3⟩ := hti.run_zero
 refine ⟨.pointer (some ⟨e.w.heap.size, 0, none⟩), e.w.alloc (.cells z.cells t), ?_, ?_⟩
 ·unfold Instr.alloc
  simp [hz, newVar, newRow]
 ·have hzz : PVR e.w e.ps ti.zero z := hz3 _ _
  have hkey : ti.zero.cells.length = z.cells.size ∧ ∀ w ps i, i < ti.zero.cells.length → PVR w ps (ti.zero.cells.getD i .junk) (z.cells.getD i undef) := by
   refine ⟨by rw [hti.zl, hz1], fun w ps i hi => ?_⟩
   have h := hz3 w ps
   by_cases hv : ∃ vs, ti.zero = .agg vs
   ·obtain ⟨vs, hvs⟩ := hv
    rw [hvs] at h hi ⊢
    obtain ⟨cs, rfl, _, h2⟩ := h.agg_inv
    exact h2 i hi
   ·have hv' : ∀ vs, ti.zero ≠ .agg vs := fun vs e => hv ⟨vs, e⟩
    have e1 : ti.zero.cells = [ti.zero] := by revert hv'; cases ti.zero <;> intro hv' <;> first | rfl | exact absurd rfl (hv' _)
    have hl : z.cells.size = 1 := by rw [hz1, ← hti.zl, e1]; rfl
    rw [e1] at hi ⊢
    have hi0 : i = 0 := by simp at hi; omega
    subst hi0
    have : z.cells = #[z] ∨ ∃ cs, z = .agg cs := by cases z <;> first | exact .inl rfl | exact .inr ⟨_, rfl⟩
    rcases this with h0 | ⟨cs, h0⟩
    ·rw [h0]; exact h
    ·subst h0
     generalize hzv : ti.zero = zv at h
     cases h with
     | agg vs => exact absurd hzv (hv' vs)
     | junk => exact .junk _
  refine fresh_end hg (w' := e.w.alloc (.cells z.cells t)) (cs := z.cells) (el := t) (m := 0) rfl rfl rfl rfl (Nat.zero_le _) (fun hx => ?_) (fun hx => ?_)
  ·refine ⟨e.w.heap.size, z.cells, t, by simp [Env.fresh], ?_, hkey.1, by simp [Env.fresh], fun j hj => .pure _ _ (hkey.2 _ _ j hj)⟩
   exact heap_alloc_new e.w _
  ·refine .ptr _ _ _ rfl ?_
   simp only [Env.fresh, List.getElem?_append_right (Nat.le_refl _), Nat.sub_self]
   exact ⟨e.w.heap.size, rfl, by simp, Nat.zero_le _⟩
theorem aBox_ok {v : AVal} {c : Value} (hv : VR e v c) (t : TypeId) : ARok e (aBox v e.h) ((Instr.box t c).run P e.w) := by
 unfold aBox
 cases ho : allOne v.cells
 ·trivial
 obtain ⟨h1, h2, h3⟩ := hv.cells ho
 refine ⟨.pointer (some ⟨e.w.heap.size, 0, none⟩), e.w.alloc (.cells c.cells t), ?_, ?_⟩
 ·simp [Instr.box, newVar, newRow]
 ·refine fresh_end hg (w' := e.w.alloc (.cells c.cells t)) (cs := c.cells) (el := t) (m := 0) rfl rfl rfl rfl (Nat.zero_le _) (fun hx => ?_) (fun hx => ?_)
  ·refine ⟨e.w.heap.size, c.cells, t, by simp [Env.fresh], ?_, h1, by simp [Env.fresh], fun j hj => (h2 j hj).mono (Nat.le_refl _) hx⟩
   exact heap_alloc_new e.w _
  ·refine .ptr _ _ _ rfl ?_
   simp only [Env.fresh, List.getElem?_append_right (Nat.le_refl _), Nat.sub_self]
   exact ⟨e.w.heap.size, rfl, by simp, Nat.zero_le _⟩
end
end Go.AL
/-
  AL: the operations, second part: stores.
-/
set_option linter.unusedSectionVars false
set_option linter.unusedVariables false
namespace Go.AL
open Go
theorem addr_add (b off j : Nat) : (⟨b, off, none⟩ : Addr).add j = ⟨b, off + j, none⟩ := by
 unfold Addr.add; split
 ·rename_i h; subst h; rfl
 ·rfl
def spliced (cur : Array Value) (o : Nat) (vs : List Value) : Array Value := (cur.toList.take o ++ vs ++ cur.toList.drop (o + vs.length)).toArray
theorem spliced_size {cur : Array Value} {o : Nat} {vs : List Value} (h : o + vs.length ≤ cur.size) : (spliced cur o vs).size = cur.size := by
 simp [spliced]; omega
theorem spliced_get {cur : Array Value} {o : Nat} {vs : List Value} (h : o + vs.length ≤ cur.size) (j : Nat) :
 (spliced cur o vs).getD j undef = if o ≤ j ∧ j < o + vs.length then vs.getD (j - o) undef else cur.getD j undef := by
 have h1 : min o cur.size = o := by omega
 simp only [spliced, List.getElem?_toArray, Array.getD_eq_getD_getElem?, List.getD, List.getElem?_append, List.length_append, List.length_take, Array.length_toList, h1, List.getElem?_take, List.getElem?_drop, Array.getElem?_toList]
 by_cases a1 : j < o
 ·rw [if_pos (by omega), if_pos a1, if_pos a1, if_neg (by omega)]
 ·by_cases a2 : j < o + vs.length
  ·rw [if_pos (by omega), if_neg a1, if_pos ⟨by omega, a2⟩]
  ·rw [if_neg (by omega), if_neg (by omega)]
   congr 2; omega
theorem spliced_get? {cur : Array Value} {o : Nat} {vs : List Value} (h : o + vs.length ≤ cur.size) (j : Nat) (hj : j < o) : (spliced cur o vs)[j]? = cur[j]? := by
 have h1 : min o cur.size = o := by omega
 simp only [spliced, List.getElem?_toArray, List.getElem?_append, List.length_append, List.length_take, Array.length_toList, h1, List.getElem?_take, Array.getElem?_toList]
 rw [if_pos (by omega), if_pos hj, if_pos hj]
theorem run_storeVar {P : Program} {t : Nat} {ti : TI} (hti : TIOK P t ti) {w : World} {b o : Nat} {cs : Array Value} {el : TypeId} (hb : w.heap[b]? = some (.cells cs el (0, 0))) {c : Value}
 (hsz : c.cells.size = ti.sz) (hle : o + ti.sz ≤ cs.size) (h1 : ∀ i, i < c.cells.size → (c.cells.getD i undef).oneCell' = true) :
 (storeVar t ⟨b, o, none⟩ c).run P w = .ok () (w.setRow b (spliced cs o c.cells.toList)) := by
 unfold storeVar
 rw [Sem.run_bind, hti.run_sizeOf]
 simp only [Result.andThen_ok, hsz, ne_eq, not_true_eq_false, if_false]
 have := run_storeCells_at P b o el c.cells.toList 0 cs w hb (by simp; omega) (fun v hv => by
  obtain ⟨i, hi, rfl⟩ := List.mem_iff_getElem.1 hv
  have := h1 i (by simpa using hi)
  simp at hi
  simpa [hi] using this)
 simp only [Nat.add_zero] at this
 simpa [spliced] using this
theorem getD_set {xs : List AVal} {i : Nat} {v : AVal} (hi : i < xs.length) (j : Nat) : (xs.set i v).getD j .junk = if j = i then v else xs.getD j .junk := by
 simp only [List.getD, List.getElem?_set]
 by_cases h : i = j
 ·subst h; simp [hi]
 ·rw [if_neg h, if_neg (fun e => h e.symm)]
section
variable {P : Program} {T : Tab} (hT : TabOK P T) {e : Env} (hg : Good e)
include hT hg
theorem aStore_ok {p : Pr} (hp : DataOK p) {t : Nat} {a v : AVal} {c d : Value} (ha : VR e a c) (hv : VR e v d) :
 ARok e (aStore p T t a v e.h) (((Instr.storeAt t c d).run P e.w).andThen fun _ w => .ok undef w) := by
 unfold aStore
 cases hti : T.get? t with
 | none => trivial
 | some ti =>
 have hti := hT _ _ hti
 simp only
 cases hl : Nat.beq v.cells.length ti.sz
 ·trivial
 have hl := Nat.eq_of_beq_eq_true hl
 simp only
 cases ho : allOne v.cells
 ·trivial
 obtain ⟨k1, k2, k3⟩ := hv.cells ho
 simp only
 split
 ·rename_i i off
  split
  ·rename_i vs hob
   cases hle : Nat.ble (off + ti.sz) vs.length
   ·trivial
   have hle := Nat.le_of_ble_eq_true hle
   simp only
   have hbx : boxAt e.h[i]? fun vs => ∃ b, c = .pointer (some ⟨b, off, none⟩) ∧ e.sg i = some b ∧ off ≤ vs.length := by
    cases ha with
    | ptr _ _ _ h1 h => exact h
    | pure _ _ h => cases h
   rw [hob] at hbx
   obtain ⟨b, rfl, hs, _⟩ := hbx
   obtain ⟨b', cs, el, hs', hh, hlen, hps, hval⟩ := hg.obj i _ hob
   obtain rfl : b = b' := by rw [hs] at hs'; exact Option.some.inj hs'
   have hil : i < e.h.length := (List.getElem?_eq_some_iff.1 hob).1
   have hst := run_storeVar hti hh (c := d) (o := off) (by rw [← k1, hl]) (by omega) (fun i hi => k3 i (by omega))
   have hdl : d.cells.toList.length = ti.sz := by simp [← k1, hl]
   refine ⟨undef, e.w.setRow b (spliced cs off d.cells.toList), ?_, ?_⟩
   ·simp only [Instr.storeAt, Instr.sureAddr, Sem.run_bind, Sem.run_pure, Result.andThen_ok, hst]
   ·have hh' : ∀ j, j ≠ i → (e.h.set i (.box (putCells vs off v.cells)))[j]? = e.h[j]? := fun j hj => by rw [List.getElem?_set_ne (Ne.symm hj)]
    have hi' : (e.h.set i (.box (putCells vs off v.cells)))[i]? = some (.box (putCells vs off v.cells)) := by simp [hil]
    have hplen : (putCells vs off v.cells).length = vs.length := putCells_length _ _ _ (by omega)
    have hm : OMono e (e.wr b (spliced cs off d.cells.toList) (e.h.set i (.box (putCells vs off v.cells))) 0) i (.box vs) (.box (putCells vs off v.cells)) := ⟨rfl, hplen⟩
    have hkeep : ∀ x, x < e.ps b → (spliced cs off d.cells.toList)[x]? = cs[x]? := fun x hx => by omega
    have hsz : (spliced cs off d.cells.toList).size = cs.size := spliced_size (by omega)
    have hx := wr_ext (m := 0) hg hob rfl hs hh hsz hh' hi' hm hkeep (by omega)
    refine ⟨_, wr_good hg hob rfl hs hh hsz hh' hi' hm hkeep (by omega) ?_ (Nat.zero_le _), rfl, rfl, .pure _ _ .und, wr_upd hg hob rfl hs hh hh' hi', hx⟩
    refine ⟨b, spliced cs off d.cells.toList, el, hs, setRow_heap _ _ _ _ _ _ hh, by rw [hplen, hsz, hlen], by simp [Env.wr], fun j hj => ?_⟩
    rw [spliced_get (by omega), putCells_get _ _ _ _ (by omega)]
    have e1 : v.cells.length = d.cells.toList.length := by rw [hdl, hl]
    rw [e1]
    split
    ·have := k2 (j - off) (by omega)
     simp only [List.getD, Array.getElem?_toList, Array.getD_eq_getD_getElem?] at this ⊢
     exact this.mono (Nat.le_refl _) hx
    ·exact (hval j (by omega)).mono (Nat.le_refl _) hx
  ·trivial
 ·rename_i i g ix off
  split
  ·rename_i g' q hob
   cases hgg : Nat.beq g g'
   ·trivial
   obtain rfl := Nat.eq_of_beq_eq_true hgg
   simp only
   have hbx : rwAt e.h[i]? g fun q => 0 ≤ ix ∧ ix < q.n ∧ ∃ b, c = .pointer (some ⟨b, ix.toNat * q.k + off, none⟩) ∧ e.sg i = some b := by
    cases ha with
    | pe _ _ _ _ _ h1 h => exact h
    | pure _ _ h => cases h
   rw [hob] at hbx
   obtain ⟨a1, a2, b, rfl, hs⟩ := hbx.2 rfl
   rcases hg.obj i _ hob with ⟨h0, _⟩ | ⟨b', cs, el, hs', hh, hlen, hps, hfit, hk, hval⟩
   ·omega
   obtain rfl : b = b' := by rw [hs] at hs'; exact Option.some.inj hs'
   have hil : i < e.h.length := (List.getElem?_eq_some_iff.1 hob).1
   have hget := get_real hp hfit a1 a2
   have hki := hk ix.toNat (by omega)
   have hixn : ix.toNat < q.toL.length := by have := a2; simp only [LX.n] at this; omega
   have hlt : (ix.toNat + 1) * q.k ≤ q.n * q.k := Nat.mul_le_mul_right _ (by omega)
   rw [Nat.add_mul] at hlt
   -- both ways come to this
   have key : ∀ (v' : AVal) (q' : LX), q.set p ix v' = some q' → v'.cells.length = q.k → off + ti.sz ≤ q.k →
    (∀ j, j < q.k → v'.cells.getD j .junk = if off ≤ j ∧ j < off + ti.sz then v.cells.getD (j - off) .junk else (q.at_ ix.toNat).cells.getD j .junk) →
    ∃ c w', ((Instr.storeAt t (.pointer (some ⟨b, ix.toNat * q.k + off, none⟩)) d).run P e.w).andThen (fun _ w => .ok undef w) = .ok c w' ∧ Step e .und (e.h.set i (.rw g q')) c w' := by
    intro v' q' hset hvl hoff hcells
    obtain ⟨s1, s2, s3⟩ := set_real hp hset
    have hst := run_storeVar hti hh (c := d) (o := ix.toNat * q.k + off) (by rw [← k1, hl]) (by omega) (fun i hi => k3 i (by omega))
    have hdl : d.cells.toList.length = ti.sz := by simp [← k1, hl]
    have hn : q'.n = q.n := by rw [LX.n, s1, List.length_set]
    refine ⟨undef, e.w.setRow b (spliced cs (ix.toNat * q.k + off) d.cells.toList), ?_, ?_⟩
    ·simp only [Instr.storeAt, Instr.sureAddr, Sem.run_bind, Sem.run_pure, Result.andThen_ok, hst]
    ·have hh' : ∀ j, j ≠ i → (e.h.set i (.rw g q'))[j]? = e.h[j]? := fun j hj => by rw [List.getElem?_set_ne (Ne.symm hj)]
     have hi' : (e.h.set i (.rw g q'))[i]? = some (.rw g q') := by simp [hil]
     have hm : OMono e (e.wr b (spliced cs (ix.toNat * q.k + off) d.cells.toList) (e.h.set i (.rw g q')) 0) i (.rw g q) (.rw g q') := ⟨Nat.le_refl _, fun _ => ⟨rfl, hn, s2⟩⟩
     have hkeep : ∀ x, x < e.ps b → (spliced cs (ix.toNat * q.k + off) d.cells.toList)[x]? = cs[x]? := fun x hx => by omega
     have hsz : (spliced cs (ix.toNat * q.k + off) d.cells.toList).size = cs.size := spliced_size (by omega)
     have hx := wr_ext (m := 0) hg hob rfl hs hh hsz hh' hi' hm hkeep (by omega)
     refine ⟨_, wr_good hg hob rfl hs hh hsz hh' hi' hm hkeep (by omega) ?_ (Nat.zero_le _), rfl, rfl, .pure _ _ .und, wr_upd hg hob rfl hs hh hh' hi', hx⟩
     refine .inr ⟨b, spliced cs (ix.toNat * q.k + off) d.cells.toList, el, hs, setRow_heap _ _ _ _ _ _ hh, by rw [hn, s2, hsz]; exact hlen, by simp [Env.wr], s3 hfit, ?_, ?_⟩
     ·intro x hx'
      rw [LX.at_, s1, s2, getD_set hixn]
      split
      ·exact hvl
      ·exact hk x (by omega)
     ·intro x j hx' hj
      rw [s2] at hj
      rw [LX.at_, s1, s2, getD_set hixn, spliced_get (by omega), hdl]
      by_cases hxi : x = ix.toNat
      ·subst hxi
       rw [if_pos rfl, hcells j hj]
       by_cases hin : off ≤ j ∧ j < off + ti.sz
       ·rw [if_pos hin, if_pos (by omega)]
        have h2 := k2 (j - off) (by omega)
        have h3 := k3 (j - off) (by omega)
        rw [show ix.toNat * q.k + j - (ix.toNat * q.k + off) = j - off by omega]
        simp only [List.getD, Array.getElem?_toList, Array.getD_eq_getD_getElem?] at h2 h3 ⊢
        exact ⟨h2.mono (Nat.le_refl _) hx, h3⟩
       ·rw [if_neg hin, if_neg (by omega)]
        have h2 := hval ix.toNat j (by omega) hj
        exact ⟨h2.1.mono (Nat.le_refl _) hx, h2.2⟩
      ·rw [if_neg hxi]
       have h2 := hval x j (by omega) hj
       have hne : ¬ (ix.toNat * q.k + off ≤ x * q.k + j ∧ x * q.k + j < ix.toNat * q.k + off + ti.sz) := by
        rcases Nat.lt_or_gt_of_ne hxi with hlt2 | hgt2
        ·have : (x + 1) * q.k ≤ ix.toNat * q.k := Nat.mul_le_mul_right _ hlt2
         rw [Nat.add_mul] at this
         omega
        ·have : (ix.toNat + 1) * q.k ≤ x * q.k := Nat.mul_le_mul_right _ hgt2
         rw [Nat.add_mul] at this
         omega
       rw [if_neg hne]
       exact ⟨h2.1.mono (Nat.le_refl _) hx, h2.2⟩
   cases hzk : Nat.beq ti.sz q.k
   ·simp only
    cases hle : Nat.ble (off + ti.sz) q.k
    ·trivial
    have hle := Nat.le_of_ble_eq_true hle
    simp only
    split
    ·rename_i q' hset
     rw [hget] at hset
     have hpl : (putCells (q.at_ ix.toNat).cells off v.cells).length = q.k := by rw [putCells_length _ _ _ (by omega), hki]
     refine key _ q' hset hpl hle (fun j hj => ?_)
     show (putCells (q.at_ ix.toNat).cells off v.cells).getD j .junk = _
     rw [putCells_get _ _ _ _ (by omega), hl]
    ·trivial
   ·have hzk := Nat.eq_of_beq_eq_true hzk
    simp only
    cases ho0 : Nat.beq off 0
    ·trivial
    have ho0 := Nat.eq_of_beq_eq_true ho0
    simp only
    split
    ·rename_i q' hset
     subst ho0
     refine key v q' hset (by omega) (by omega) (fun j hj => ?_)
     rw [if_pos (by omega)]
     simp
    ·trivial
  ·trivial
 ·trivial
end
end Go.AL
/-
  AL: '==' of structs and arrays of whole numbers, bools and strings.
-/
set_option linter.unusedSectionVars false
set_option linter.unusedVariables false
namespace Go.AL
open Go
def eqB : List AVal → List AVal → Bool
 | [], [] => true
 | .int _ a :: x, .int _ b :: y => (a == b) && eqB x y
 | .bool a :: x, .bool b :: y => (a == b) && eqB x y
 | .str a :: x, .str b :: y => (a == b) && eqB x y
 | _, _ => false
inductive CR : Sh → AVal → Value → Prop
 | int (k : IntKind) (n : Int) : CR (.int k) (.int k n) (.int k n)
 | bool (b : Bool) : CR .bool (.bool b) (.bool b)
 | str (s : ByteArray) : CR .str (.str s.data.toList) (.string s)
def CRs (X : Array Value) : Nat → List Sh → List AVal → Prop
 | _, [], [] => True
 | o, s :: r, v :: vs => (∃ c, X[o]? = some c ∧ CR s v c) ∧ CRs X (o + 1) r vs
 | _, _, _ => False
theorem CRs.split {X : Array Value} : ∀ {o : Nat} {a b : List Sh} {vs : List AVal}, CRs X o (a ++ b) vs → ∃ x y, vs = x ++ y ∧ CRs X o a x ∧ CRs X (o + a.length) b y
 | o, [], b, vs, h => ⟨[], vs, rfl, trivial, by simpa using h⟩
 | o, s :: r, b, [], h => by simp [CRs] at h
 | o, s :: r, b, v :: vs, h => by
   obtain ⟨h1, h2⟩ := h
   obtain ⟨x, y, rfl, hx, hy⟩ := CRs.split h2
   exact ⟨v :: x, y, rfl, ⟨h1, hx⟩, by rw [List.length_cons, show o + (r.length + 1) = o + 1 + r.length by omega]; exact hy⟩
theorem CRs.length {X : Array Value} : ∀ {o : Nat} {a : List Sh} {vs : List AVal}, CRs X o a vs → vs.length = a.length
 | o, [], [], _ => rfl
 | o, s :: r, v :: vs, h => by simp [CRs.length h.2]
 | o, [], _ :: _, h => by simp [CRs] at h
 | o, _ :: _, [], h => by simp [CRs] at h
theorem CRs.extract {X : Array Value} {lo hi : Nat} : ∀ {o : Nat} {a : List Sh} {vs : List AVal}, CRs X (lo + o) a vs → lo + o + a.length ≤ hi → CRs (X.extract lo hi) o a vs
 | o, [], [], _, _ => trivial
 | o, s :: r, v :: vs, h, hl => by
   obtain ⟨⟨c, h1, h2⟩, h3⟩ := h
   simp at hl
   refine ⟨⟨c, ?_, h2⟩, CRs.extract (by rw [← Nat.add_assoc]; exact h3) (by omega)⟩
   rw [Array.getElem?_extract, if_pos]
   ·exact h1
   ·have := (Array.getElem?_eq_some_iff.1 h1).1
    omega
 | o, [], _ :: _, h, _ => by simp [CRs] at h
 | o, _ :: _, [], h, _ => by simp [CRs] at h
theorem eqB_append : ∀ {a b : List Sh} {X Y : Array Value} {o o' : Nat} {x y x2 y2 : List AVal}, CRs X o a x → CRs Y o' a y → eqB (x ++ x2) (y ++ y2) = (eqB x y && eqB x2 y2)
 | [], _, X, Y, o, o', [], [], x2, y2, _, _ => by simp [eqB]
 | s :: r, b, X, Y, o, o', v :: vs, u :: us, x2, y2, h1, h2 => by
   obtain ⟨⟨c, _, hc⟩, h1'⟩ := h1
   obtain ⟨⟨d, _, hd⟩, h2'⟩ := h2
   have ih := eqB_append (b := b) (x2 := x2) (y2 := y2) h1' h2'
   cases hc <;> cases hd <;> simp [eqB, ih, Bool.and_assoc]
 | [], _, _, _, _, _, _ :: _, _, _, _, h, _ => by simp [CRs] at h
 | [], _, _, _, _, _, [], _ :: _, _, _, _, h => by simp [CRs] at h
 | _ :: _, _, _, _, _, _, [], _, _, _, h, _ => by simp [CRs] at h
 | _ :: _, _, _, _, _, _, _ :: _, [], _, _, _, h => by simp [CRs] at h
theorem eqs_real {p : Pr} (hp : DataOK p) : ∀ {sh : List Sh} {x y : List AVal}, fitsSh sh x = true → fitsSh sh y = true → eqs p x y = some (eqB x y) := by
 intro sh
 induction sh with
 | nil =>
   intro x y hx hy
   cases x <;> cases y <;> simp [fitsSh, eqs, eqB] at *
 | cons s r ih =>
   intro x y hx hy
   cases x with
   | nil => cases s <;> simp [fitsSh] at hx
   | cons v vs =>
     cases y with
     | nil => cases s <;> simp [fitsSh] at hy
     | cons u us =>
       cases s <;> cases v <;> simp only [fitsSh] at hx <;> (try cases hx) <;> cases u <;> simp only [fitsSh] at hy <;> (try cases hy)
       ·split at hx
        ·split at hy
         ·simp only [eqs, eqB]; rw [ih hx hy]; simp [hp.ba, hp.c2, rC2]
         ·cases hy
        ·cases hx
       ·simp only [eqs, eqB]; rw [ih hx hy]; simp [hp.ba, hp.bq]
       ·simp only [eqs, eqB]; rw [ih hx hy]; simp [hp.ba, hp.sc, rSc]
theorem CRs_of {R : AVal → Value → Prop} (hi : ∀ k n c, R (.int k n) c → c = .int k n) (hb : ∀ b c, R (.bool b) c → c = .bool b) (hs : ∀ s c, R (.str s) c → ∃ t : ByteArray, c = .string t ∧ t.data.toList = s)
 {X : Array Value} : ∀ {sh : List Sh} {o : Nat} {vs : List AVal}, fitsSh sh vs = true → o + vs.length ≤ X.size → (∀ i, i < vs.length → R (vs.getD i .junk) (X.getD (o + i) undef)) → CRs X o sh vs := by
 intro sh
 induction sh with
 | nil => intro o vs h _ _; cases vs <;> simp [fitsSh] at h; trivial
 | cons s r ih =>
   intro o vs h hl hr
   cases vs with
   | nil => cases s <;> simp [fitsSh] at h
   | cons v vs =>
     simp at hl
     have h0 := hr 0 (by simp)
     have hx : X[o]? = some (X.getD o undef) := by simp [show o < X.size by omega]
     have hrest : ∀ i, i < vs.length → R (vs.getD i .junk) (X.getD (o + 1 + i) undef) := fun i hi => by
      have := hr (i + 1) (by simp; omega)
      rwa [show o + (i + 1) = o + 1 + i by omega, List.getD_cons_succ] at this
     simp only [List.getD_cons_zero, Nat.add_zero] at h0
     cases s <;> cases v <;> simp only [fitsSh] at h <;> (try cases h)
     ·split at h
      ·rename_i hk
       have hk := IntKind.same_eq hk
       subst hk
       refine ⟨⟨_, hx, ?_⟩, ih h (by omega) hrest⟩
       rw [hi _ _ _ h0]; exact .int _ _
      ·cases h
     ·refine ⟨⟨_, hx, ?_⟩, ih h (by omega) hrest⟩
      rw [hb _ _ h0]; exact .bool _
     ·obtain ⟨t, ht, hts⟩ := hs _ _ h0
      refine ⟨⟨_, hx, ?_⟩, ih h (by omega) hrest⟩
      rw [ht, ← hts]; exact .str t
theorem run_part_agg {P : Program} {t : Nat} {ti : TI} (h : TIOK P t ti) (ha : ti.d.isAgg = true) (X : Array Value) (o : Nat) (w : World) : (Go.part t X o).run P w = .ok (.agg (X.extract o (o + ti.sz))) w := by
 unfold Go.part
 simp [h.run_isAgg, ha, h.run_sizeOf]
theorem run_part_one {P : Program} {t : Nat} {ti : TI} (h : TIOK P t ti) (ha : ti.d.isAgg = false) {X : Array Value} {o : Nat} {c : Value} (hc : X[o]? = some c) (w : World) : (Go.part t X o).run P w = .ok c w := by
 unfold Go.part
 simp [h.run_isAgg, ha, hc]
def EqAt (P : Program) (d : Nat) (t : Nat) (sh : List Sh) : Prop := ∀ (X Y : Array Value) (o o' : Nat) (x y : List AVal), CRs X o sh x → CRs Y o' sh y → ∀ w,
 ∃ a b, (Go.part t X o).run P w = .ok a w ∧ (Go.part t Y o').run P w = .ok b w ∧ (Op.equalIn d t a b).run P w = .ok (eqB x y) w
theorem eqFields_ok {P : Program} {T : Tab} {d : Nat} (hd : ∀ t sh, flatEq T d t = some sh → ∀ D, d ≤ D → EqAt P D t sh) :
 ∀ (fields : List Field) (sh : List Sh) (at_ : Nat), flatEq.flats T d (fields.map fun f => (f.offset, f.type)) at_ = some sh → (∀ f ∈ fields, f.name ≠ "_") →
 ∀ D, d ≤ D → ∀ (X Y : Array Value) (x y : List AVal), CRs X at_ sh x → CRs Y at_ sh y → ∀ w, (Op.eqFields D X Y fields).run P w = .ok (eqB x y) w
 | [], sh, at_, h, _, D, _, X, Y, x, y, hx, hy, w => by
   simp [flatEq.flats] at h
   subst h
   cases x <;> cases y <;> simp [CRs] at hx hy
   simp [Op.eqFields, eqB]
 | f :: fs, sh, at_, h, hn, D, hD, X, Y, x, y, hx, hy, w => by
   simp only [List.map_cons, flatEq.flats] at h
   split at h
   ·rename_i ho
    have ho := Nat.eq_of_beq_eq_true ho
    split at h
    ·rename_i l hl
     split at h
     ·rename_i m hm
      cases h
      obtain ⟨x1, x2, rfl, hx1, hx2⟩ := hx.split
      obtain ⟨y1, y2, rfl, hy1, hy2⟩ := hy.split
      obtain ⟨a, b, h1, h2, h3⟩ := hd _ _ hl D hD X Y at_ at_ x1 y1 hx1 hy1 w
      have ih := eqFields_ok hd fs m (at_ + l.length) hm (fun f hf => hn f (by simp [hf])) D hD X Y x2 y2 hx2 hy2 w
      rw [Op.eqFields, if_pos (hn f (by simp)), ho]
      simp only [Sem.run_bind, h1, h2, h3, Result.andThen_ok]
      rw [eqB_append (b := m) hx1 hy1]
      cases eqB x1 y1
      ·simp
      ·simpa using ih
     ·cases h
    ·cases h
   ·cases h
def eqArr (d : Nat) (e n : Nat) (X Y : Array Value) : List Nat → Sem Bool
 | [] => pure true
 | i :: is => do
   let a ← Go.part e X (i * n)
   let b ← Go.part e Y (i * n)
   let r ← Op.equalIn d e a b
   if (!r) = true then pure false else eqArr d e n X Y is
theorem run_equalIn_array {P : Program} (w : World) (d : Nat) {t m e : Nat} {te : TI} (xs ys : Array Value) (ht : P.underlying t = some (.array m e)) (hte : TIOK P e te) :
 (Op.equalIn (d + 1) t (.agg xs) (.agg ys)).run P w = (eqArr d e te.sz xs ys (List.range m)).run P w := by
 simp only [Op.equalIn, Sem.run_bind, run_underlying ht, Result.andThen_ok, hte.run_sizeOf]
 rw [Std.Legacy.Range.forIn_eq_forIn_range']
 simp only [Std.Legacy.Range.size, Nat.sub_zero, Nat.add_sub_cancel, Nat.div_one, ← List.range_eq_range']
 generalize List.range m = l
 clear ht
 induction l generalizing w with
 | nil => simp [eqArr]
 | cons i is ih =>
   simp only [List.forIn_cons, eqArr, Sem.run_bind, Sem.run_ite]
   generalize (Go.part e xs (i * te.sz)).run P w = r1
   cases r1 with
   | ok a w1 =>
     simp only [Result.andThen_ok]
     generalize (Go.part e ys (i * te.sz)).run P w1 = r2
     cases r2 with
     | ok b w2 =>
       simp only [Result.andThen_ok]
       generalize (Op.equalIn d e a b).run P w2 = r3
       cases r3 with
       | ok r w3 =>
         cases r
         ·simp only [Result.andThen_ok, Bool.not_false, if_true, Sem.run_pure]
         ·simp only [Result.andThen_ok, Bool.not_true, Bool.false_eq_true, if_false, Sem.run_pure]
          exact ih w3
       | halt x w3 => simp [Result.andThen]
     | halt x w2 => simp [Result.andThen]
   | halt x w1 => simp [Result.andThen]
theorem eqArr_ok {P : Program} {d e n : Nat} {l : List Sh} (he : EqAt P d e l) (hn : l.length = n) : ∀ (m i : Nat) (X Y : Array Value) (x y : List AVal), CRs X (i * n) (List.replicate m l).flatten x → CRs Y (i * n) (List.replicate m l).flatten y → ∀ w,
 (eqArr d e n X Y (List.range' i m)).run P w = .ok (eqB x y) w
 | 0, i, X, Y, x, y, hx, hy, w => by
   cases x <;> cases y <;> simp [CRs] at hx hy
   simp [eqArr, eqB]
 | m + 1, i, X, Y, x, y, hx, hy, w => by
   simp only [List.replicate_succ, List.flatten_cons] at hx hy
   obtain ⟨x1, x2, rfl, hx1, hx2⟩ := hx.split
   obtain ⟨y1, y2, rfl, hy1, hy2⟩ := hy.split
   obtain ⟨a, b, h1, h2, h3⟩ := he X Y _ _ x1 y1 hx1 hy1 w
   have hi : i * n + l.length = (i + 1) * n := by rw [hn, Nat.add_mul, Nat.one_mul]
   rw [hi] at hx2 hy2
   have ih := eqArr_ok he hn m (i + 1) X Y x2 y2 hx2 hy2 w
   simp only [List.range'_succ, eqArr, Sem.run_bind, h1, h2, h3, Result.andThen_ok]
   rw [eqB_append (b := (List.replicate m l).flatten) hx1 hy1]
   cases eqB x1 y1
   ·simp
   ·simpa using ih
theorem flat_ok {P : Program} {T : Tab} (hT : TabOK P T) : ∀ (d t : Nat) (sh : List Sh), flatEq T d t = some sh → (∀ ti, T.get? t = some ti → sh.length = ti.sz) ∧ ∀ D, d ≤ D → EqAt P D t sh := by
 intro d
 induction d with
 | zero => intro t sh h; simp [flatEq] at h
 | succ d ih =>
   intro t sh h
   simp only [flatEq] at h
   cases hti : T.get? t with
   | none => rw [hti] at h; cases h
   | some ti =>
   rw [hti] at h
   have ht := hT _ _ hti
   simp only at h
   have hD : ∀ D, d + 1 ≤ D → ∃ D', D = D' + 1 ∧ d ≤ D' := fun D h => ⟨D - 1, by omega, by omega⟩
   have one : ∀ s, ti.d.isAgg = false → sh = [s] → (∀ ti', some ti = some ti' → sh.length = ti'.sz) := fun s hs he ti' e => by cases e; rw [he, ht.one hs]; rfl
   obtain ⟨dd, hu, hdd⟩ := ht.under
   cases hk : ti.d with
   | int k =>
     rw [hk] at h hdd
     simp only [DOK] at hdd
     simp only [Option.some.injEq] at h
     subst h; subst hdd
     have ha : ti.d.isAgg = false := by rw [hk]; rfl
     refine ⟨one _ ha rfl, fun D hd X Y o o' x y hx hy w => ?_⟩
     obtain ⟨D', rfl, _⟩ := hD D hd
     match x, y, hx, hy with
     | [v], [u], ⟨⟨c, hc, hr⟩, _⟩, ⟨⟨c', hc', hr'⟩, _⟩ =>
       cases hr; cases hr'
       refine ⟨_, _, run_part_one ht ha hc w, run_part_one ht ha hc' w, ?_⟩
       rw [run_equalIn_int w D' t _ k _ _ hu]; simp [eqB]
   | bool =>
     rw [hk] at h hdd
     simp only [DOK] at hdd
     simp only [Option.some.injEq] at h
     subst h; subst hdd
     have ha : ti.d.isAgg = false := by rw [hk]; rfl
     refine ⟨one _ ha rfl, fun D hd X Y o o' x y hx hy w => ?_⟩
     obtain ⟨D', rfl, _⟩ := hD D hd
     match x, y, hx, hy with
     | [v], [u], ⟨⟨c, hc, hr⟩, _⟩, ⟨⟨c', hc', hr'⟩, _⟩ =>
       cases hr; cases hr'
       refine ⟨_, _, run_part_one ht ha hc w, run_part_one ht ha hc' w, ?_⟩
       rw [run_equalIn_bool' w D' t _ _ hu]; simp [eqB]
   | str =>
     rw [hk] at h hdd
     simp only [DOK] at hdd
     simp only [Option.some.injEq] at h
     subst h; subst hdd
     have ha : ti.d.isAgg = false := by rw [hk]; rfl
     refine ⟨one _ ha rfl, fun D hd X Y o o' x y hx hy w => ?_⟩
     obtain ⟨D', rfl, _⟩ := hD D hd
     match x, y, hx, hy with
     | [v], [u], ⟨⟨c, hc, hr⟩, _⟩, ⟨⟨c', hc', hr'⟩, _⟩ =>
       cases hr; cases hr'
       refine ⟨_, _, run_part_one ht ha hc w, run_part_one ht ha hc' w, ?_⟩
       rw [run_equalIn_string w D' t _ _ hu, ByteArray.toList_eq, ByteArray.toList_eq]; simp [eqB]
   | struct fs =>
     rw [hk] at h hdd
     simp only [DOK] at hdd
     obtain ⟨fields, rfl, hfs⟩ := hdd
     have ha : ti.d.isAgg = true := by rw [hk]; rfl
     simp only at h
     cases heq : ti.eqf <;> rw [heq] at h
     ·cases h
     simp only at h
     obtain ⟨hst, hnm⟩ := ht.eqn heq fields hu
     subst hfs
     split at h
     ·rename_i l hl
      split at h
      ·rename_i hz
       have hz := Nat.eq_of_beq_eq_true hz
       cases h
       refine ⟨fun ti' e => by cases e; exact hz, fun D hd X Y o o' x y hx hy w => ?_⟩
       obtain ⟨D', rfl, hD'⟩ := hD D hd
       refine ⟨_, _, run_part_agg ht ha X o w, run_part_agg ht ha Y o' w, ?_⟩
       have hf : P.fieldsOf t = fields := by simp [Program.fieldsOf, hu]
       rw [run_equalIn_struct w D' t _ _ (by rw [hf]; exact hu) hst, hf]
       exact eqFields_ok (fun t s hs => (ih t s hs).2) fields.toList sh 0 hl hnm D' hD' _ _ x y (CRs.extract (o := 0) hx (by omega)) (CRs.extract (o := 0) hy (by omega)) w
      ·cases h
     ·cases h
   | array m e =>
     rw [hk] at h hdd
     simp only [DOK] at hdd
     subst hdd
     have ha : ti.d.isAgg = true := by rw [hk]; rfl
     simp only at h
     cases heq : ti.eqf <;> rw [heq] at h
     ·cases h
     simp only at h
     split at h
     ·rename_i l hl
      split at h
      ·rename_i hz
       have hz := Nat.eq_of_beq_eq_true hz
       cases h
       refine ⟨fun ti' e => by cases e; exact hz, fun D hd X Y o o' x y hx hy w => ?_⟩
       obtain ⟨D', rfl, hD'⟩ := hD D hd
       refine ⟨_, _, run_part_agg ht ha X o w, run_part_agg ht ha Y o' w, ?_⟩
       cases hte : T.get? e with
       | none => cases d <;> simp [flatEq, hte] at hl
       | some te =>
         rw [run_equalIn_array w D' _ _ hu (hT _ _ hte), List.range_eq_range']
         have hel := (ih e l hl).1 te hte
         refine eqArr_ok ((ih e l hl).2 D' hD') hel m 0 _ _ x y ?_ ?_ w
         ·rw [Nat.zero_mul]; exact CRs.extract (o := 0) hx (by omega)
         ·rw [Nat.zero_mul]; exact CRs.extract (o := 0) hy (by omega)
      ·cases h
     ·cases h
   | slice _ => rw [hk] at h; cases h
   | ptr _ => rw [hk] at h; cases h
   | iface => rw [hk] at h; cases h
   | func => rw [hk] at h; cases h
   | map => rw [hk] at h; cases h
   | other => rw [hk] at h; cases h
end Go.AL
/-
  AL: the operations, third part: those that make no memory.
-/
set_option linter.unusedSectionVars false
set_option linter.unusedVariables false
namespace Go.AL
open Go
theorem PVR.int_inv {w : World} {ps : Nat → Nat} {k : IntKind} {n : Int} {c : Value} (h : PVR w ps (.int k n) c) : c = .int k n := by cases h; rfl
theorem PVR.bool_inv {w : World} {ps : Nat → Nat} {b : Bool} {c : Value} (h : PVR w ps (.bool b) c) : c = .bool b := by cases h; rfl
theorem PVR.str_inv {w : World} {ps : Nat → Nat} {s : List UInt8} {c : Value} (h : PVR w ps (.str s) c) : ∃ t : ByteArray, c = .string t ∧ t.data.toList = s := by cases h; exact ⟨_, rfl, rfl⟩
section
variable {e : Env}
theorem VR.int {k : IntKind} {n : Int} : VR e (.int k n) (.int k n) := .pure _ _ (.int k n)
theorem VR.bool {b : Bool} : VR e (.bool b) (.bool b) := .pure _ _ (.bool b)
theorem VR.str' {t : ByteArray} {s : List UInt8} (h : t.data.toList = s) : VR e (.str s) (.string t) := by rw [← h]; exact .pure _ _ (.str t)
theorem VR.int_inv {k : IntKind} {n : Int} {c : Value} (h : VR e (.int k n) c) : c = .int k n := by cases h with | pure _ _ h => exact h.int_inv
theorem VR.bool_inv {b : Bool} {c : Value} (h : VR e (.bool b) c) : c = .bool b := by cases h with | pure _ _ h => exact h.bool_inv
theorem VR.str_inv {s : List UInt8} {c : Value} (h : VR e (.str s) c) : ∃ t : ByteArray, c = .string t ∧ t.data.toList = s := by cases h with | pure _ _ h => exact h.str_inv
theorem VR.iface_inv {t : Nat} {v : AVal} {c : Value} (h : VR e (.iface t v) c) : ∃ d, c = .iface t d ∧ VR e v d := by
 cases h with
 | pure _ _ h => cases h with | iface _ _ d h => exact ⟨d, rfl, .pure _ _ h⟩
 | iface _ _ d h => exact ⟨d, rfl, h⟩
theorem VR.nilp_inv {c : Value} (h : VR e .nilp c) : c = .pointer none := by cases h with | pure _ _ h => cases h; rfl
theorem VR.nili_inv {c : Value} (h : VR e .nili c) : c = .nilIface := by cases h with | pure _ _ h => cases h; rfl
theorem VR.tup_inv {vs : List AVal} {c : Value} (h : VR e (.tup vs) c) : ∃ cs, c = .tuple cs ∧ vs.length = cs.size ∧ ∀ i, i < vs.length → VR e (vs.getD i .junk) (cs.getD i undef) := by
 cases h with
 | pure _ _ h => cases h with | tup _ cs hl hv => exact ⟨cs, rfl, hl, fun i hi => .pure _ _ (hv i hi)⟩
 | tup _ cs hl hv => exact ⟨cs, rfl, hl, hv⟩
theorem VR.ls_inv {q : LX} {c : Cap} {d : Value} (h : VR e (.ls q c) d) : PVR e.w e.ps (.ls q .any) d ∨ (c = .nil ∧ d = .slice none 0 0 ∧ q.n = 0 ∧ q.fit) := by
 cases h with
 | pure _ _ h => cases h with
   | lsnil _ _ hq hf hc =>
     rcases hc with rfl | rfl
     ·exact .inl (.lsnil q _ hq hf (.inl rfl))
     ·exact .inr ⟨rfl, rfl, hq, hf⟩
   | lse _ a hq hf => exact .inl (.lse q a hq hf)
   | ls _ b off cap cv a1 a2 a3 a4 a5 a6 a7 => exact .inl (.ls q b off cap cv a1 a2 a3 a4 a5 a6 a7)
 | tok _ i n _ h ht => exact .inl h
theorem VR.ls_any {q : LX} {c : Cap} {d : Value} (h : VR e (.ls q c) d) : PVR e.w e.ps (.ls q .any) d := by
 rcases h.ls_inv with h | ⟨rfl, rfl, h1, h2⟩
 ·exact h
 ·exact .lsnil q _ h1 h2 (.inl rfl)
theorem VR.ls_len {q : LX} {c : Cap} {d : Value} (h : VR e (.ls q c) d) : ∃ a cap, d = .slice a q.n cap ∧ (a = none → q.n = 0) ∧ (0 < q.n → ∃ b, a = some b) := by
 have h := h.ls_any
 cases h with
 | lsnil _ _ hq hf hc => exact ⟨none, 0, by rw [hq], fun _ => hq, fun h => by omega⟩
 | lse _ a hq hf => exact ⟨some a, 0, by rw [hq], fun h => (by cases h), fun h => by omega⟩
 | ls _ b off cap cv => exact ⟨_, cap, rfl, fun h => by (cases h), fun _ => ⟨_, rfl⟩⟩
theorem aNil_ok (hg : Good e) {x : AVal} {c : Value} (hx : VR e x c) {o : Oper} {ρ : Operand → Value} {y : Operand} (ho : o.op = .nilCheck y) (hy : ρ y = c) {P : Program} :
 match aNil x e.h with
 | .ok v h => v = x ∧ h = e.h ∧ (execOp ρ o).run P e.w = .ok (.value c) e.w
 | .need _ _ _ => False
 | .stuck => True := by
 unfold aNil
 split
 case _ h =>
  split at h
  ·rename_i i off
   split at h
   ·rename_i vs hob
    cases h
    refine ⟨rfl, rfl, ?_⟩
    have : boxAt e.h[i]? fun vs => ∃ b, c = .pointer (some ⟨b, off, none⟩) ∧ e.sg i = some b ∧ off ≤ vs.length := by
     cases hx with
     | ptr _ _ _ h1 h => exact h
     | pure _ _ h => cases h
    rw [hob] at this
    obtain ⟨b, rfl, _⟩ := this
    simp only [execOp, ho, hy, Sem.run_pure]
   ·cases h
  ·cases h
   cases hx with
   | pure _ _ h => cases h; exact ⟨rfl, rfl, by simp only [execOp, ho, hy, Sem.run_pure]⟩
  ·cases h
   cases hx with
   | pure _ _ h => cases h; exact ⟨rfl, rfl, by simp only [execOp, ho, hy, Sem.run_pure]⟩
   | clo => exact ⟨rfl, rfl, by simp only [execOp, ho, hy, Sem.run_pure]⟩
  ·cases h
   obtain ⟨d, rfl, _⟩ := hx.iface_inv
   exact ⟨rfl, rfl, by simp only [execOp, ho, hy, Sem.run_pure]⟩
  ·cases h
 case _ h =>
  split at h <;> first | cases h | (split at h <;> cases h)
 case _ => trivial
section
variable {P : Program} {T : Tab} (hT : TabOK P T) (hg : Good e) {p : Pr} (hp : DataOK p)
include hT hg hp
theorem run_eqGuard_int (op : BinOp) (t : Nat) (x y : Operand) (k k' : IntKind) (a b : Int) (w : World) : (eqGuard op t x y (.int k a) (.int k' b)).run P w = .ok () w := by
 cases op <;> rfl
theorem run_bin_int (op : BinOp) (t : Nat) (k : IntKind) (a b : Int) (w : World) (hs : op ≠ .shl ∧ op ≠ .shr) (hz : (op = .quo ∨ op = .rem) → b ≠ 0) :
 (binOp op t (.int k a) (.int k b)).run P w = .ok (match op with
   | .add | .sub | .mul | .and | .or | .xor | .andNot | .quo | .rem => .int k (rI2 op k a b)
   | _ => .bool (rC2 op a b)) w := by
 cases op <;> first
  | (simp [binOp, Op.intArith, rI2]; done)
  | (simp [binOp, Op.intBits, rI2]; done)
  | (simp [binOp, Op.intCmp, rC2]; done)
  | (have := hz (by simp); simp [binOp, Op.intDiv, this, rI2]; done)
  | (simp at hs)
theorem run_bin_shift (op : BinOp) (t : Nat) (k k' : IntKind) (a b : Int) (w : World) (hs : op = .shl ∨ op = .shr) (hz : 0 ≤ b) :
 (binOp op t (.int k a) (.int k' b)).run P w = .ok (.int k (rI2 op k a b)) w := by
 have : ¬ b < 0 := by omega
 rcases hs with rfl | rfl <;> simp [binOp, Op.shift, this, rI2]
theorem run_bin_str (op : BinOp) (t : Nat) (a b : ByteArray) (w : World) (hs : op = .eql ∨ op = .neq ∨ op = .lss ∨ op = .leq ∨ op = .gtr ∨ op = .geq) :
 (binOp op t (.string a) (.string b)).run P w = .ok (.bool (rSc op a.data.toList b.data.toList)) w := by
 rcases hs with rfl | rfl | rfl | rfl | rfl | rfl <;> simp [binOp, Op.stringOp, rSc, ByteArray.toList_eq]
theorem run_bin_add_str (t : Nat) (a b : ByteArray) (w : World) (h : (a.size : Int) + b.size ≤ 9223372036854775807) :
 (binOp .add t (.string a) (.string b)).run P w = .ok (.string (a ++ b)) w := by
 have : ¬ (9223372036854775807 < (a.size : Int) + b.size) := by omega
 have h2 : ¬ (IntKind.i64.max < (a.size : Int) + b.size) := this
 simp [binOp, Op.stringOp]
 exact h
theorem ptrNil_ok (op : BinOp) (t : Nat) (ox oy : Operand) (a : Option Addr) (b : Bool) (hb : a.isNone = b) :
 ARok e (aPtrNil T op t b e.h) ((do eqGuard op t ox oy (.pointer a) (.pointer none); binOp op t (.pointer a) (.pointer none) : Sem Value).run P e.w) := by
 unfold aPtrNil
 cases hti : T.get? t with
 | none => trivial
 | some ti =>
 have hti := hT _ _ hti
 obtain ⟨dd, hu, hdd⟩ := hti.under
 simp only
 cases hk : ti.d <;> (try trivial)
 rename_i el
 rw [hk] at hdd
 simp only [DOK] at hdd
 subst hdd
 have h0 : (Op.equal t (.pointer a) (.pointer none)).run P e.w = .ok b e.w := by
  unfold Op.equal Op.maxDepth
  rw [show (10000 : Nat) = 9999 + 1 from rfl, Op.equalIn, Sem.run_bind, run_underlying hu]
  cases a <;> (subst hb; rfl)
 have hgd : ∀ (op : BinOp) (r : Sem Value), (do eqGuard op t ox oy (.pointer a) (.pointer none); r : Sem Value).run P e.w = r.run P e.w := fun op r => by
  cases op <;> simp [eqGuard]
 simp only
 split
 ·refine ARok.same hg (c := .bool b) .bool ?_
  rw [hgd]; simp [binOp, h0]
 ·refine ARok.same hg (c := .bool (!b)) .bool ?_
  rw [hgd]; cases b <;> simp [binOp, h0]
 ·trivial
theorem aBin_ok {op : BinOp} {t : Nat} {x y : AVal} {c d : Value} (hx : VR e x c) (hy : VR e y d) (ox oy : Operand) :
 ARok e (aBin p T op t x y e.h) ((do eqGuard op t ox oy c d; binOp op t c d : Sem Value).run P e.w) := by
 unfold aBin
 split
 ·-- numbers
  rename_i k a k' b
  have hx := hx.int_inv
  have hy := hy.int_inv
  subst hx; subst hy
  have hgd : ∀ r : Sem Value, (do eqGuard op t ox oy (.int k a) (.int k' b); r : Sem Value).run P e.w = r.run P e.w := fun r => by
   rw [Sem.run_bind, run_eqGuard_int hT hg hp]; rfl
  split
  ·exact ARok.need hg fun hq => ⟨_, .int, by rw [hgd, run_bin_shift hT hg hp _ _ _ _ _ _ _ (.inl rfl) hq, hp.i2]⟩
  ·exact ARok.need hg fun hq => ⟨_, .int, by rw [hgd, run_bin_shift hT hg hp _ _ _ _ _ _ _ (.inr rfl) hq, hp.i2]⟩
  ·rename_i h1 h2
   cases hk : IntKind.same k k'
   ·trivial
   obtain rfl := IntKind.same_eq hk
   simp only
   split
   ·exact ARok.need hg fun hq => ⟨_, .int, by rw [hgd, run_bin_int hT hg hp _ _ _ _ _ _ (by simp) (fun _ => hq), hp.i2]⟩
   ·exact ARok.need hg fun hq => ⟨_, .int, by rw [hgd, run_bin_int hT hg hp _ _ _ _ _ _ (by simp) (fun _ => hq), hp.i2]⟩
   all_goals first
    | (exact ARok.same hg (c := .int k (rI2 _ k a b)) (by rw [hp.i2]; exact .int) (by rw [hgd, run_bin_int hT hg hp _ _ _ _ _ _ (by simp) (by simp)]))
    | (rename_i n1 n2 n3 n4 n5 n6 n7 n8 n9
       refine ARok.same hg (c := .bool (rC2 op a b)) (by rw [hp.c2]; exact .bool) ?_
       rw [hgd, run_bin_int hT hg hp _ _ _ _ _ _ ⟨h1, h2⟩ (fun h => by rcases h with rfl | rfl <;> contradiction)]
       cases op <;> first | rfl | contradiction)
 ·-- bools
  rename_i a b
  have hx := hx.bool_inv
  have hy := hy.bool_inv
  subst hx; subst hy
  cases hti : T.get? t with
  | none => trivial
  | some ti =>
  have hti := hT _ _ hti
  obtain ⟨dd, hu, hdd⟩ := hti.under
  simp only
  cases hk : ti.d <;> (try trivial)
  rw [hk] at hdd
  simp only [DOK] at hdd
  subst hdd
  have hr : (Op.equal t (.bool a) (.bool b)).run P e.w = .ok (a == b) e.w := by
   unfold Op.equal Op.maxDepth
   exact run_equalIn_bool' e.w 9999 t a b hu
  simp only
  split
  ·refine ARok.same hg (c := .bool (a == b)) (by rw [hp.bq]; exact .bool) ?_
   simp [eqGuard, binOp, hr]
  ·refine ARok.same hg (c := .bool (!(a == b))) (by rw [hp.bq, hp.bn]; exact .bool) ?_
   simp [eqGuard, binOp, hr]
  ·trivial
 ·-- strings
  rename_i a b
  obtain ⟨s, rfl, rfl⟩ := hx.str_inv
  obtain ⟨u, rfl, rfl⟩ := hy.str_inv
  have hgd : ∀ r : Sem Value, (do eqGuard op t ox oy (.string s) (.string u); r : Sem Value).run P e.w = r.run P e.w := fun r => by
   cases op <;> simp [eqGuard]
  split
  ·refine ARok.need hg fun hq => ⟨.string (s ++ u), ?_, ?_⟩
   ·rw [hp.sap]; exact .str' (by simp [ByteArray.data_append])
   ·rw [hgd, run_bin_add_str hT hg hp]
    rw [hp.ad, hp.sln] at hq
    simp only [rNd, Array.length_toList] at hq
    exact hq
  all_goals first
   | trivial
   | (rename_i n1 n2 n3 n4 n5 n6 n7 n8 n9 n10 n11
      refine ARok.same hg (c := .bool (rSc op s.data.toList u.data.toList)) (by rw [hp.sc]; exact .bool) ?_
      rw [hgd, run_bin_str hT hg hp]
      cases op <;> first | contradiction | simp)
 ·-- structs
  rename_i a b
  obtain ⟨X, rfl, hX1, hX2⟩ := hx.agg_inv
  obtain ⟨Y, rfl, hY1, hY2⟩ := hy.agg_inv
  unfold aEqAgg
  split
  ·rename_i sh hsh
   split
   ·rename_i hflag
    cases hti : T.get? t with
    | none => rw [hti] at hflag; cases hflag
    | some ti =>
    have ht := hT _ _ hti
    rw [hti] at hflag
    simp only at hflag
    have ha : ti.d.isAgg = true := by cases h : ti.d.isAgg <;> simp [h] at hflag ⊢
    rw [ha] at hflag
    simp only at hflag
    cases hfa : fitsSh sh a
    ·trivial
    cases hfb : fitsSh sh b
    ·trivial
    simp only
    rw [eqs_real hp hfa hfb]
    simp only
    have hcr : ∀ {v : List AVal} {Z : Array Value}, fitsSh sh v = true → v.length = Z.size → (∀ i, i < v.length → VR e (v.getD i .junk) (Z.getD i undef)) → CRs Z 0 sh v := fun hf hl hv =>
     CRs_of (R := VR e) (fun k n c h => h.int_inv) (fun b c h => h.bool_inv) (fun s c h => h.str_inv) hf (by omega) (fun i hi => by rw [Nat.zero_add]; exact hv i hi)
    have hXc := hcr hfa hX1 hX2
    have hYc := hcr hfb hY1 hY2
    obtain ⟨hlen, heq⟩ := flat_ok hT 8 t sh hsh
    have hlen := hlen ti hti
    have hXs : X.size = ti.sz := by rw [← hX1, hXc.length, hlen]
    have hYs : Y.size = ti.sz := by rw [← hY1, hYc.length, hlen]
    obtain ⟨a', b', h1, h2, h3⟩ := heq 10000 (by omega) X Y 0 0 a b hXc hYc e.w
    rw [run_part_agg ht ha] at h1 h2
    simp only [Nat.zero_add, Result.ok.injEq, and_true] at h1 h2
    rw [← hXs, Array.extract_size] at h1
    rw [← hYs, Array.extract_size] at h2
    subst h1; subst h2
    have hgd : ∀ r : Sem Value, (do eqGuard op t ox oy (.agg X) (.agg Y); r : Sem Value).run P e.w = r.run P e.w := fun r => by
     rw [Sem.run_bind, run_eqGuard_agg e.w op t ox oy X Y (ht.eqs hflag ha)]; rfl
    split
    ·refine ARok.same hg (c := .bool (eqB a b)) .bool ?_
     rw [hgd, run_eql_struct, h3]; rfl
    ·refine ARok.same hg (c := .bool (!(eqB a b))) (by rw [hp.bn]; exact .bool) ?_
     rw [hgd, run_neq_struct, h3]; rfl
    ·trivial
   ·trivial
  ·trivial
 ·-- slices and nil
  rename_i q cp
  obtain rfl : d = .slice none 0 0 := by
   cases hy with
   | pure _ _ h => cases h with
     | lsnil => rfl
  cases hti : T.get? t with
  | none => trivial
  | some ti =>
  have hti := hT _ _ hti
  obtain ⟨dd, hu, hdd⟩ := hti.under
  simp only
  cases hk : ti.d <;> (try trivial)
  rename_i el
  rw [hk] at hdd
  simp only [DOK] at hdd
  subst hdd
  have h0 : ∀ a n m, (Op.equal t (.slice a n m) (.slice none 0 0)).run P e.w = .ok a.isNone e.w := fun a n m => by
   unfold Op.equal Op.maxDepth
   rw [show (10000 : Nat) = 9999 + 1 from rfl, Op.equalIn, Sem.run_bind, run_underlying hu]
   cases a <;> rfl
  have hgd : ∀ (op : BinOp) a n m (r : Sem Value), (do eqGuard op t ox oy (.slice a n m) (.slice none 0 0); r : Sem Value).run P e.w = r.run P e.w := fun op a n m r => by
   cases op <;> simp [eqGuard]
  have hnil : cp = .nil → c = .slice none 0 0 := fun h => by
   subst h
   rcases hx.ls_inv with h | h
   ·cases hx with
    | pure _ _ h => cases h with
      | lsnil => rfl
   ·exact h.2.1
  obtain ⟨a, cap, hc, _, hpos⟩ := hx.ls_len
  simp only
  split
  ·split
   ·obtain rfl := hnil rfl
    refine ARok.same hg (c := .bool true) .bool ?_
    rw [hgd]; simp [binOp, h0]
   ·refine ARok.need hg fun hq => ⟨.bool false, .bool, ?_⟩
    rw [len_real hp] at hq
    obtain ⟨b, rfl⟩ := hpos (by simp only [rNd] at hq; omega)
    subst hc
    rw [hgd]; simp [binOp, h0]
  ·split
   ·obtain rfl := hnil rfl
    refine ARok.same hg (c := .bool false) .bool ?_
    rw [hgd]; simp [binOp, h0]
   ·refine ARok.need hg fun hq => ⟨.bool true, .bool, ?_⟩
    rw [len_real hp] at hq
    obtain ⟨b, rfl⟩ := hpos (by simp only [rNd] at hq; omega)
    subst hc
    rw [hgd]; simp [binOp, h0]
  ·trivial
 ·-- a row and nil
  rename_i i g lo hi
  obtain rfl : d = .slice none 0 0 := by
   cases hy with
   | pure _ _ h => cases h; rfl
  cases hti : T.get? t with
  | none => trivial
  | some ti =>
  have hti := hT _ _ hti
  obtain ⟨dd, hu, hdd⟩ := hti.under
  simp only
  cases hk : ti.d <;> (try trivial)
  rename_i el
  rw [hk] at hdd
  simp only [DOK] at hdd
  subst hdd
  have h0 : ∀ a n m, (Op.equal t (.slice a n m) (.slice none 0 0)).run P e.w = .ok a.isNone e.w := fun a n m => by
   unfold Op.equal Op.maxDepth
   rw [show (10000 : Nat) = 9999 + 1 from rfl, Op.equalIn, Sem.run_bind, run_underlying hu]
   cases a <;> rfl
  have hgd : ∀ (op : BinOp) a n m (r : Sem Value), (do eqGuard op t ox oy (.slice a n m) (.slice none 0 0); r : Sem Value).run P e.w = r.run P e.w := fun op a n m r => by
   cases op <;> simp [eqGuard]
  simp only
  split
  ·rename_i g' q hob
   cases hgg : Nat.beq g g'
   ·trivial
   obtain rfl := Nat.eq_of_beq_eq_true hgg
   have hc : rNd (.ne (q.len p)) → ∃ a n m, c = .slice (some a) n m := fun hq => by
    rw [len_real hp] at hq
    cases hx with
    | pure _ _ h => cases h
    | sl _ _ _ _ _ _ h =>
      rw [hob] at h
      rcases (h.2 rfl).2.2.2 with ⟨_, _, _, hn⟩ | ⟨b, cap, off, rfl, _⟩
      ·simp only [rNd] at hq; omega
      ·exact ⟨_, _, _, rfl⟩
   simp only
   split
   ·refine ARok.need hg fun hq => ⟨.bool false, .bool, ?_⟩
    obtain ⟨a, n, m, rfl⟩ := hc hq
    rw [hgd]; simp [binOp, h0]
   ·refine ARok.need hg fun hq => ⟨.bool true, .bool, ?_⟩
    obtain ⟨a, n, m, rfl⟩ := hc hq
    rw [hgd]; simp [binOp, h0]
   ·trivial
  ·trivial
 ·-- interface values and nil
  rename_i u v
  obtain ⟨c', rfl, _⟩ := hx.iface_inv
  obtain rfl := hy.nili_inv
  cases hti : T.get? t with
  | none => trivial
  | some ti =>
  have hti := hT _ _ hti
  obtain ⟨dd, hu, hdd⟩ := hti.under
  simp only
  cases hk : ti.d <;> (try trivial)
  rw [hk] at hdd
  simp only [DOK] at hdd
  obtain ⟨ms, rfl⟩ := hdd
  have h0 : (Op.equal t (.iface u c') .nilIface).run P e.w = .ok false e.w := by
   unfold Op.equal Op.maxDepth
   rw [show (10000 : Nat) = 9999 + 1 from rfl, Op.equalIn, Sem.run_bind, run_underlying hu]
   rfl
  have hgd : ∀ (op : BinOp) (r : Sem Value), (do eqGuard op t ox oy (.iface u c') .nilIface; r : Sem Value).run P e.w = r.run P e.w := fun op r => by
   cases op <;> simp [eqGuard]
  simp only
  split
  ·refine ARok.same hg (c := .bool false) .bool ?_
   rw [hgd]; simp [binOp, h0]
  ·refine ARok.same hg (c := .bool true) .bool ?_
   rw [hgd]; simp [binOp, h0]
  ·trivial
 ·-- a pointer and nil
  rename_i i off
  obtain rfl := hy.nilp_inv
  split
  ·rename_i vs hob
   cases hx with
   | pure _ _ h => cases h
   | ptr _ _ _ _ h =>
     rw [hob] at h
     obtain ⟨b, rfl, _⟩ := h
     exact ptrNil_ok hT hg hp op t ox oy (some _) false rfl
  ·trivial
 ·rename_i xs
  obtain rfl := hy.nilp_inv
  cases hx with
  | pure _ _ h => cases h; exact ptrNil_ok hT hg hp op t ox oy (some _) false rfl
 ·obtain rfl := hy.nilp_inv
  obtain rfl := hx.nilp_inv
  exact ptrNil_ok hT hg hp op t ox oy none true rfl
 ·trivial
end
end
end Go.AL
