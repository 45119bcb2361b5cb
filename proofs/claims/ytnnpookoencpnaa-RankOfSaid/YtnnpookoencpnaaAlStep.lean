/-
  AL: steps of a walk: a branch on a comparison, told as a fact.
-/
import Derived.Test.YtnnpookoencpnaaAlGhost
set_option linter.unusedSectionVars false
set_option linter.unusedVariables false
namespace Go.AL
open Go
/-- A branch. -/
theorem brB {c : Bool} {X Y : Prop} (h1 : c = true → X) (h2 : c = false → Y) : (match (generalizing := false) c with | true => X | false => Y) := by
  cases c
  · exact h2 rfl
  · exact h1 rfl
theorem brS {c : Bool} (c' : Bool) {X Y : Prop} (e : c = c') (h : match (generalizing := false) c' with | true => X | false => Y) : (match (generalizing := false) c with | true => X | false => Y) := by subst e; exact h
section
variable {P : Program} {n0 nt : Nat} {i2 : BinOp → IntKind → Int → Int → Int} {c2 : BinOp → Int → Int → Bool} {u1 : UnOp → IntKind → Int → Int} {cv : IntKind → Int → Int} {mx mn ad sbt : Int → Int → Int}
    {bn : Bool → Bool} {bq ba : Bool → Bool → Bool} {lnI : List Int → Int} {gtI : List Int → Int → Int} {apI : List Int → List Int → List Int} {sbI : List Int → Int → Int → List Int} {stI : List Int → Int → Int → List Int}
    {rpI : Int → Int → List Int} {lnG : List AVal → Int} {gtG : List AVal → Int → AVal} {apG : List AVal → List AVal → List AVal} {sbG : List AVal → Int → Int → List AVal} {stG : List AVal → Int → AVal → List AVal}
    {rpG : Int → AVal → List AVal} {fi : AVal → Int} {fb : AVal → Bool} {fs : AVal → List UInt8} {fl : AVal → List Int} {fg : AVal → List AVal} {fc : AVal → Nat → AVal} {sln : List UInt8 → Int} {sgt : List UInt8 → Int → Int}
    {sap : List UInt8 → List UInt8 → List UInt8} {ssb : List UInt8 → Int → Int → List UInt8} {sc : BinOp → List UInt8 → List UInt8 → Bool} {b2s : List Int → List UInt8} {nd : Need → Prop} {call : FuncId → List AVal → Heap → (AVal → Heap → Prop) → Prop}
    {calld : FuncId → List AVal → Heap → (AVal → Prop) → Prop} {callv : AVal → List AVal → Heap → (AVal → Heap → Prop) → Prop} {callvd : AVal → List AVal → Heap → (AVal → Prop) → Prop}
    {loop : (St → (Exit → St → Prop) → Prop) → St → (Exit → St → Prop) → Prop} {rfun : AVal → Array Tmp → Code → Code → St → (Exit → St → Prop) → Prop} {fin : (AVal → Heap → Prop) → AVal → Heap → Prop}
    (hk : HK P n0 nt i2 c2 u1 cv mx mn ad sbt bn bq ba lnI gtI apI sbI stI rpI lnG gtG apG sbG stG rpG fi fb fs fl fg fc sln sgt sap ssb sc b2s nd call calld callv callvd loop rfun fin)
include hk
variable {X Y : Prop} {a b : Int}
theorem HK.brLss (h1 : a < b → X) (h2 : ¬ a < b → Y) : (match (generalizing := false) c2 .lss a b with | true => X | false => Y) :=
  brB (c := c2 .lss a b) (fun h => h1 (by rwa [hk.c2_lss, decide_eq_true_eq] at h)) (fun h => h2 (by rwa [hk.c2_lss, decide_eq_false_iff_not] at h))
theorem HK.brLeq (h1 : a ≤ b → X) (h2 : ¬ a ≤ b → Y) : (match (generalizing := false) c2 .leq a b with | true => X | false => Y) :=
  brB (c := c2 .leq a b) (fun h => h1 (by rwa [hk.c2_leq, decide_eq_true_eq] at h)) (fun h => h2 (by rwa [hk.c2_leq, decide_eq_false_iff_not] at h))
theorem HK.brGtr (h1 : a > b → X) (h2 : ¬ a > b → Y) : (match (generalizing := false) c2 .gtr a b with | true => X | false => Y) :=
  brB (c := c2 .gtr a b) (fun h => h1 (by rwa [hk.c2_gtr, decide_eq_true_eq] at h)) (fun h => h2 (by rwa [hk.c2_gtr, decide_eq_false_iff_not] at h))
theorem HK.brGeq (h1 : a ≥ b → X) (h2 : ¬ a ≥ b → Y) : (match (generalizing := false) c2 .geq a b with | true => X | false => Y) :=
  brB (c := c2 .geq a b) (fun h => h1 (by rwa [hk.c2_geq, decide_eq_true_eq] at h)) (fun h => h2 (by rwa [hk.c2_geq, decide_eq_false_iff_not] at h))
theorem HK.brEql (h1 : a = b → X) (h2 : ¬ a = b → Y) : (match (generalizing := false) c2 .eql a b with | true => X | false => Y) :=
  brB (c := c2 .eql a b) (fun h => h1 (by rwa [hk.c2_eql, decide_eq_true_eq] at h)) (fun h => h2 (by rwa [hk.c2_eql, decide_eq_false_iff_not] at h))
theorem HK.brNeq (h1 : ¬ a = b → X) (h2 : a = b → Y) : (match (generalizing := false) c2 .neq a b with | true => X | false => Y) :=
  brB (c := c2 .neq a b) (fun h => h1 (by rwa [hk.c2_neq, decide_eq_true_eq] at h)) (fun h => h2 (by rw [hk.c2_neq, decide_eq_false_iff_not, ne_eq, Classical.not_not] at h; exact h))
theorem HK.brNot {t : Bool} (h1 : t = false → X) (h2 : t = true → Y) : (match (generalizing := false) bn t with | true => X | false => Y) :=
  brB (c := bn t) (fun h => h1 (by rw [hk.bn_eq] at h; simpa using h)) (fun h => h2 (by rw [hk.bn_eq] at h; simpa using h))
theorem HK.brLssT (h : a < b) (hx : X) : (match (generalizing := false) c2 .lss a b with | true => X | false => Y) := hk.brLss (fun _ => hx) (fun h' => absurd h h')
theorem HK.brLssF (h : ¬ a < b) (hy : Y) : (match (generalizing := false) c2 .lss a b with | true => X | false => Y) := hk.brLss (fun h' => absurd h' h) (fun _ => hy)
theorem HK.brLeqT (h : a ≤ b) (hx : X) : (match (generalizing := false) c2 .leq a b with | true => X | false => Y) := hk.brLeq (fun _ => hx) (fun h' => absurd h h')
theorem HK.brLeqF (h : ¬ a ≤ b) (hy : Y) : (match (generalizing := false) c2 .leq a b with | true => X | false => Y) := hk.brLeq (fun h' => absurd h' h) (fun _ => hy)
theorem HK.brGtrT (h : a > b) (hx : X) : (match (generalizing := false) c2 .gtr a b with | true => X | false => Y) := hk.brGtr (fun _ => hx) (fun h' => absurd h h')
theorem HK.brGtrF (h : ¬ a > b) (hy : Y) : (match (generalizing := false) c2 .gtr a b with | true => X | false => Y) := hk.brGtr (fun h' => absurd h' h) (fun _ => hy)
theorem HK.brGeqT (h : a ≥ b) (hx : X) : (match (generalizing := false) c2 .geq a b with | true => X | false => Y) := hk.brGeq (fun _ => hx) (fun h' => absurd h h')
theorem HK.brGeqF (h : ¬ a ≥ b) (hy : Y) : (match (generalizing := false) c2 .geq a b with | true => X | false => Y) := hk.brGeq (fun h' => absurd h' h) (fun _ => hy)
theorem HK.brEqlT (h : a = b) (hx : X) : (match (generalizing := false) c2 .eql a b with | true => X | false => Y) := hk.brEql (fun _ => hx) (fun h' => absurd h h')
theorem HK.brEqlF (h : ¬ a = b) (hy : Y) : (match (generalizing := false) c2 .eql a b with | true => X | false => Y) := hk.brEql (fun h' => absurd h' h) (fun _ => hy)
theorem HK.brNeqT (h : ¬ a = b) (hx : X) : (match (generalizing := false) c2 .neq a b with | true => X | false => Y) := hk.brNeq (fun _ => hx) (fun h' => absurd h' h)
theorem HK.brNeqF (h : a = b) (hy : Y) : (match (generalizing := false) c2 .neq a b with | true => X | false => Y) := hk.brNeq (fun h' => absurd h h') (fun _ => hy)
theorem HK.brNotS {t : Bool} (c' : Bool) (e : bn t = c') (h : match (generalizing := false) c' with | true => X | false => Y) : (match (generalizing := false) bn t with | true => X | false => Y) := brS c' e h
theorem HK.brBqS {t u : Bool} (c' : Bool) (e : bq t u = c') (h : match (generalizing := false) c' with | true => X | false => Y) : (match (generalizing := false) bq t u with | true => X | false => Y) := brS c' e h
theorem HK.idxI {i n : Int} {X : Prop} (h0 : 0 ≤ i) (h1 : i < n) (hx : X) : nd (.idx i n) ∧ X := ⟨hk.idx h0 h1, hx⟩
theorem HK.nzI {n : Int} {X : Prop} (h0 : n ≠ 0) (hx : X) : nd (.nz n) ∧ X := ⟨hk.ndI h0, hx⟩
theorem HK.ge0I {n : Int} {X : Prop} (h0 : 0 ≤ n) (hx : X) : nd (.ge0 n) ∧ X := ⟨hk.ndI h0, hx⟩
theorem HK.brNotT (h : Y) : (match (generalizing := false) bn true with | true => X | false => Y) := hk.brNot (fun h => by cases h) (fun _ => h)
theorem HK.brNotF (h : X) : (match (generalizing := false) bn false with | true => X | false => Y) := hk.brNot (fun _ => h) (fun h => by cases h)
theorem HK.callA {f : FuncId} {args : List AVal} {h h' : Heap} {K : AVal → Heap → Prop} {r : AVal} (hs : Does P f args h (Is r h')) (hK : K r h') : call f args h K := hk.callI hs fun r2 h2 ⟨e1, e2⟩ => by subst e1; subst e2; exact hK
theorem HK.calldA {f : FuncId} {args : List AVal} {h : Heap} {K : AVal → Prop} {r : AVal} (hs : Does P f args h (Is r h)) (hK : K r) : calld f args h K := hk.calld1 hs hK
theorem HK.finB {h : Heap} {b b' : Bool} (e : b' = b) : fin (Is (.bool b) h) (.bool b') h := hk.fin1 (congrArg _ e)
theorem HK.finN {h : Heap} {k : IntKind} {b b' : Int} (e : b' = b) : fin (Is (.int k b) h) (.int k b') h := hk.fin1 (congrArg _ e)
theorem HK.needI {q : Need} {X : Prop} (h : rNd q) (hx : X) : nd q ∧ X := ⟨hk.ndI h, hx⟩
theorem HK.sb0 (n : Int) : sbt n 0 = n := by rw [hk.sb_eq]; omega
theorem HK.ad0 (n : Int) : ad 0 n = n := by rw [hk.ad_eq]; omega
theorem HK.brV {c : Bool} (h1 : c = true → X) (h2 : c = false → Y) : (match (generalizing := false) c with | true => X | false => Y) := brB h1 h2
end
/-- THE END: but the first m objects are forgotten. -/
theorem fin_lowN {n0 : Nat} (m : Nat) (hm : n0 ≤ m) {R : AVal → Heap → Prop} {r r' : AVal} {h : Heap} (hw : Wk h r r') (hp : low m r' = true) (ho : lowOs m (h.take m) = true) (hR : R r' (h.take m)) : rFin n0 R r h := fun e0 e c hn hg he hv hu hx => by
  subst he
  have look : ∀ {i : Nat} {o : AObj}, (e.h.take m)[i]? = some o → i < m ∧ e.h[i]? = some o := fun {i o} ho => by
    rw [List.getElem?_take] at ho
    split at ho
    · exact ⟨by assumption, ho⟩
    · cases ho
  have own : ∀ b, Owned { e with h := e.h.take m } b → Owned e b := fun b ⟨i, o, h1, h2, h3⟩ => ⟨i, o, (look h1).2, h2, h3⟩
  refine ⟨r', { e with h := e.h.take m }, hR, rfl, ⟨fun i o h1 => ?_, fun i j oi oj b h1 h2 h3 h4 h5 h6 => hg.inj i j oi oj b (look h1).2 h2 (look h3).2 h4 h5 h6, hg.ps⟩, (hw e c hg rfl hv).low hp, ?_, ?_⟩
  · exact ObjOK.low (hg.obj i o (look h1).2) (lowOs_get ho i o h1)
  · exact ⟨hu.os, hu.tape, hu.output, hu.size, hu.frame, fun b hb => hu.own b (own b hb)⟩
  · refine ⟨fun i o hi h1 => ?_, hx.ps, hx.cell, hx.size⟩
    obtain ⟨o', h2, h3⟩ := hx.obj i o hi h1
    refine ⟨o', ?_, h3⟩
    show (e.h.take m)[i]? = some o'
    rw [take_get (o := none) (by omega)]; exact h2
/-- Value by value. -/
def Wks (h : Heap) : List AVal → List AVal → Prop
  | [], [] => True
  | a :: x, b :: y => Wk h a b ∧ Wks h x y
  | _, _ => False
theorem Wks.len {h : Heap} : ∀ {x y : List AVal}, Wks h x y → x.length = y.length
  | [], [], _ => rfl
  | _ :: x, _ :: y, hh => by simp [Wks.len hh.2]
theorem Wks.get {h : Heap} : ∀ {x y : List AVal}, Wks h x y → ∀ i, Wk h (x.getD i .junk) (y.getD i .junk)
  | [], [], _, i => by simp; exact .refl _ _
  | a :: x, b :: y, hh, 0 => hh.1
  | a :: x, b :: y, hh, i + 1 => by simpa using Wks.get hh.2 i
theorem Wk.tup {h : Heap} {x y : List AVal} (hh : Wks h x y) : Wk h (.tup x) (.tup y) := fun e c hg he hv => by
  have hl := hh.len
  cases hv with
  | pure _ _ hp => cases hp with
    | tup _ cs h1 h2 => exact .tup y cs (hl ▸ h1) fun i hi => hh.get i e _ hg he (.pure _ _ (h2 i (by omega)))
  | tup _ cs h1 h2 => exact .tup y cs (hl ▸ h1) fun i hi => hh.get i e _ hg he (h2 i (by omega))
theorem Wk.agg {h : Heap} {x y : List AVal} (hh : Wks h x y) : Wk h (.agg x) (.agg y) := fun e c hg he hv => by
  have hl := hh.len
  cases hv with
  | pure _ _ hp => cases hp with
    | agg _ cs h1 h2 => exact .agg y cs (hl ▸ h1) fun i hi => hh.get i e _ hg he (.pure _ _ (h2 i (by omega)))
  | agg _ cs h1 h2 => exact .agg y cs (hl ▸ h1) fun i hi => hh.get i e _ hg he (h2 i (by omega))
theorem Wk.nilL (h : Heap) (k : IntKind) : Wk h (.ls .nl .nil) (.ls (.il k []) .any) := Wk.trans (Wk.any h .nl .nil) (Wk.empty h rfl rfl trivial (.inl rfl))
end Go.AL
