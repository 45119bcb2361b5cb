/-
  AL: steps of a walk: a branch on a comparison, told as a fact.
-/
import Derived.Test.YtnnpookoencpnaaAlGhost
set_option linter.unusedSectionVars false
set_option linter.unusedVariables false
namespace Go.AL
open Go
/-- A branch. -/
theorem brB {c : Bool} {X Y : Prop} (h1 : c = true → X) (h2 : c = false → Y) : (match (generalizing := false) c with | true => X | false => Y) := by
  cases c
  · exact h2 rfl
  · exact h1 rfl
section
variable {P : Program} {n0 nt : Nat} {i2 : BinOp → IntKind → Int → Int → Int} {c2 : BinOp → Int → Int → Bool} {u1 : UnOp → IntKind → Int → Int} {cv : IntKind → Int → Int} {mx mn ad sbt : Int → Int → Int}
    {bn : Bool → Bool} {bq ba : Bool → Bool → Bool} {lnI : List Int → Int} {gtI : List Int → Int → Int} {apI : List Int → List Int → List Int} {sbI : List Int → Int → Int → List Int} {stI : List Int → Int → Int → List Int}
    {rpI : Int → Int → List Int} {lnG : List AVal → Int} {gtG : List AVal → Int → AVal} {apG : List AVal → List AVal → List AVal} {sbG : List AVal → Int → Int → List AVal} {stG : List AVal → Int → AVal → List AVal}
    {rpG : Int → AVal → List AVal} {fi : AVal → Int} {fb : AVal → Bool} {fs : AVal → List UInt8} {fl : AVal → List Int} {fg : AVal → List AVal} {fc : AVal → Nat → AVal} {sln : List UInt8 → Int} {sgt : List UInt8 → Int → Int}
    {sap : List UInt8 → List UInt8 → List UInt8} {ssb : List UInt8 → Int → Int → List UInt8} {sc : BinOp → List UInt8 → List UInt8 → Bool} {b2s : List Int → List UInt8} {nd : Need → Prop} {call : FuncId → List AVal → Heap → (AVal → Heap → Prop) → Prop}
    {calld : FuncId → List AVal → Heap → (AVal → Prop) → Prop} {callv : AVal → List AVal → Heap → (AVal → Heap → Prop) → Prop} {callvd : AVal → List AVal → Heap → (AVal → Prop) → Prop}
    {loop : (St → (Exit → St → Prop) → Prop) → St → (Exit → St → Prop) → Prop} {rfun : AVal → Array Tmp → Code → Code → St → (Exit → St → Prop) → Prop} {fin : (AVal → Heap → Prop) → AVal → Heap → Prop}
    (hk : HK P n0 nt i2 c2 u1 cv mx mn ad sbt bn bq ba lnI gtI apI sbI stI rpI lnG gtG apG sbG stG rpG fi fb fs fl fg fc sln sgt sap ssb sc b2s nd call calld callv callvd loop rfun fin)
include hk
variable {X Y : Prop} {a b : Int}
theorem HK.brLss (h1 : a < b → X) (h2 : ¬ a < b → Y) : (match (generalizing := false) c2 .lss a b with | true => X | false => Y) :=
  brB (c := c2 .lss a b) (fun h => h1 (by rwa [hk.c2_lss, decide_eq_true_eq] at h)) (fun h => h2 (by rwa [hk.c2_lss, decide_eq_false_iff_not] at h))
theorem HK.brLeq (h1 : a ≤ b → X) (h2 : ¬ a ≤ b → Y) : (match (generalizing := false) c2 .leq a b with | true => X | false => Y) :=
  brB (c := c2 .leq a b) (fun h => h1 (by rwa [hk.c2_leq, decide_eq_true_eq] at h)) (fun h => h2 (by rwa [hk.c2_leq, decide_eq_false_iff_not] at h))
theorem HK.brGtr (h1 : a > b → X) (h2 : ¬ a > b → Y) : (match (generalizing := false) c2 .gtr a b with | true => X | false => Y) :=
  brB (c := c2 .gtr a b) (fun h => h1 (by rwa [hk.c2_gtr, decide_eq_true_eq] at h)) (fun h => h2 (by rwa [hk.c2_gtr, decide_eq_false_iff_not] at h))
theorem HK.brGeq (h1 : a ≥ b → X) (h2 : ¬ a ≥ b → Y) : (match (generalizing := false) c2 .geq a b with | true => X | false => Y) :=
  brB (c := c2 .geq a b) (fun h => h1 (by rwa [hk.c2_geq, decide_eq_true_eq] at h)) (fun h => h2 (by rwa [hk.c2_geq, decide_eq_false_iff_not] at h))
theorem HK.brEql (h1 : a = b → X) (h2 : ¬ a = b → Y) : (match (generalizing := false) c2 .eql a b with | true => X | false => Y) :=
  brB (c := c2 .eql a b) (fun h => h1 (by rwa [hk.c2_eql, decide_eq_true_eq] at h)) (fun h => h2 (by rwa [hk.c2_eql, decide_eq_false_iff_not] at h))
theorem HK.brNeq (h1 : ¬ a = b → X) (h2 : a = b → Y) : (match (generalizing := false) c2 .neq a b with | true => X | false => Y) :=
  brB (c := c2 .neq a b) (fun h => h1 (by rwa [hk.c2_neq, decide_eq_true_eq] at h)) (fun h => h2 (by rw [hk.c2_neq, decide_eq_false_iff_not, ne_eq, Classical.not_not] at h; exact h))
theorem HK.brNot {t : Bool} (h1 : t = false → X) (h2 : t = true → Y) : (match (generalizing := false) bn t with | true => X | false => Y) :=
  brB (c := bn t) (fun h => h1 (by rw [hk.bn_eq] at h; simpa using h)) (fun h => h2 (by rw [hk.bn_eq] at h; simpa using h))
theorem HK.idxI {i n : Int} {X : Prop} (h0 : 0 ≤ i) (h1 : i < n) (hx : X) : nd (.idx i n) ∧ X := ⟨hk.idx h0 h1, hx⟩
theorem HK.nzI {n : Int} {X : Prop} (h0 : n ≠ 0) (hx : X) : nd (.nz n) ∧ X := ⟨hk.ndI h0, hx⟩
theorem HK.ge0I {n : Int} {X : Prop} (h0 : 0 ≤ n) (hx : X) : nd (.ge0 n) ∧ X := ⟨hk.ndI h0, hx⟩
theorem HK.brNotT (h : Y) : (match (generalizing := false) bn true with | true => X | false => Y) := hk.brNot (fun h => by cases h) (fun _ => h)
theorem HK.brNotF (h : X) : (match (generalizing := false) bn false with | true => X | false => Y) := hk.brNot (fun _ => h) (fun h => by cases h)
theorem HK.callA {f : FuncId} {args : List AVal} {h : Heap} {K : AVal → Heap → Prop} {r : AVal} (hs : Does P f args h (Is r h)) (hK : K r h) : call f args h K := hk.call1 hs hK
theorem HK.calldA {f : FuncId} {args : List AVal} {h : Heap} {K : AVal → Prop} {r : AVal} (hs : Does P f args h (Is r h)) (hK : K r) : calld f args h K := hk.calld1 hs hK
theorem HK.finB {h : Heap} {b b' : Bool} (e : b' = b) : fin (Is (.bool b) h) (.bool b') h := hk.fin1 (congrArg _ e)
theorem HK.finN {h : Heap} {k : IntKind} {b b' : Int} (e : b' = b) : fin (Is (.int k b) h) (.int k b') h := hk.fin1 (congrArg _ e)
end
end Go.AL
