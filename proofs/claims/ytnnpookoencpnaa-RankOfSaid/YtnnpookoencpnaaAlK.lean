/-
  AL: what one proves a contract with: the hooks as variables, and what is known of them.
-/
import Derived.Test.YtnnpookoencpnaaAlTab
set_option linter.unusedSectionVars false
set_option linter.unusedVariables false
set_option linter.unusedSimpArgs false
namespace Go.AL
open Go
theorem wrap64 {n : Int} (h1 : -9223372036854775808 ≤ n) (h2 : n < 9223372036854775808) : IntKind.wrap .i64 n = n := by
  simp only [IntKind.wrap, IntKind.bits, IntKind.signed]
  by_cases h : n % 2 ^ 64 ≥ 2 ^ (64 - 1)
  · simp; omega
  · simp; omega
/-- What a pure call gives. -/
def Is (v : AVal) (h : Heap) : AVal → Heap → Prop := fun r h' => r = v ∧ h' = h
/-- The hooks are the real ones. -/
structure HK (P : Program) (n0 nt : Nat) (i2 : BinOp → IntKind → Int → Int → Int) (c2 : BinOp → Int → Int → Bool) (u1 : UnOp → IntKind → Int → Int) (cv : IntKind → Int → Int) (mx mn ad sbt : Int → Int → Int)
    (bn : Bool → Bool) (bq ba : Bool → Bool → Bool) (lnI : List Int → Int) (gtI : List Int → Int → Int) (apI : List Int → List Int → List Int) (sbI : List Int → Int → Int → List Int) (stI : List Int → Int → Int → List Int)
    (rpI : Int → Int → List Int) (lnG : List AVal → Int) (gtG : List AVal → Int → AVal) (apG : List AVal → List AVal → List AVal) (sbG : List AVal → Int → Int → List AVal) (stG : List AVal → Int → AVal → List AVal)
    (rpG : Int → AVal → List AVal) (fi : AVal → Int) (fb : AVal → Bool) (fs : AVal → List UInt8) (fl : AVal → List Int) (fg : AVal → List AVal) (fc : AVal → Nat → AVal) (sln : List UInt8 → Int) (sgt : List UInt8 → Int → Int)
    (sap : List UInt8 → List UInt8 → List UInt8) (ssb : List UInt8 → Int → Int → List UInt8) (sc : BinOp → List UInt8 → List UInt8 → Bool) (b2s : List Int → List UInt8) (nd : Need → Prop) (call : FuncId → List AVal → Heap → (AVal → Heap → Prop) → Prop)
    (calld : FuncId → List AVal → Heap → (AVal → Prop) → Prop) (callv : AVal → List AVal → Heap → (AVal → Heap → Prop) → Prop) (callvd : AVal → List AVal → Heap → (AVal → Prop) → Prop)
    (loop : (St → (Exit → St → Prop) → Prop) → St → (Exit → St → Prop) → Prop) (rfun : AVal → Array Tmp → Code → Code → St → (Exit → St → Prop) → Prop) (fin : (AVal → Heap → Prop) → AVal → Heap → Prop) : Prop where
  c2_lss : ∀ a b, c2 .lss a b = decide (a < b)
  c2_leq : ∀ a b, c2 .leq a b = decide (a ≤ b)
  c2_gtr : ∀ a b, c2 .gtr a b = decide (a > b)
  c2_geq : ∀ a b, c2 .geq a b = decide (a ≥ b)
  c2_eql : ∀ a b, c2 .eql a b = decide (a = b)
  c2_neq : ∀ a b, c2 .neq a b = decide (a ≠ b)
  i2_eq : i2 = rI2
  i2_add : ∀ k a b, i2 .add k a b = k.wrap (a + b)
  i2_sub : ∀ k a b, i2 .sub k a b = k.wrap (a - b)
  i2_mul : ∀ k a b, i2 .mul k a b = k.wrap (a * b)
  i2_quo : ∀ k a b, i2 .quo k a b = k.wrap (a.tdiv b)
  i2_rem : ∀ k a b, i2 .rem k a b = a.tmod b
  add64 : ∀ a b, -9223372036854775808 ≤ a + b → a + b < 9223372036854775808 → i2 .add .i64 a b = a + b
  sub64 : ∀ a b, -9223372036854775808 ≤ a - b → a - b < 9223372036854775808 → i2 .sub .i64 a b = a - b
  mul64 : ∀ a b, -9223372036854775808 ≤ a * b → a * b < 9223372036854775808 → i2 .mul .i64 a b = a * b
  u1_neg : ∀ k a, u1 .neg k a = k.wrap (0 - a)
  u1_eq : u1 = rU1
  cv_eq : ∀ k n, cv k n = k.wrap n
  mx_eq : ∀ a b, mx a b = if b > a then b else a
  mn_eq : ∀ a b, mn a b = if b < a then b else a
  ad_eq : ∀ a b, ad a b = a + b
  sb_eq : ∀ a b, sbt a b = a - b
  bn_eq : ∀ a, bn a = !a
  bq_eq : ∀ a b, bq a b = (a == b)
  ba_eq : ∀ a b, ba a b = (a && b)
  lnI_eq : ∀ l, lnI l = (l.length : Int)
  lnI_nn : ∀ l, 0 ≤ lnI l
  lt_lnI : ∀ l i, 0 ≤ i → i < lnI l → i.toNat < l.length
  lnI_lt : ∀ (l : List Int) (n : Int), (l.length : Int) < n → lnI l < n
  lnI_le : ∀ (l : List Int) (n : Int), (l.length : Int) ≤ n → lnI l ≤ n
  lnI_toNat : ∀ l : List Int, (lnI l).toNat = l.length
  gtI_eq : ∀ l i, gtI l i = l.getD i.toNat 0
  apI_eq : ∀ l m, apI l m = l ++ m
  sbI_eq : ∀ l a b, sbI l a b = (l.drop a.toNat).take (b - a).toNat
  stI_eq : ∀ l i v, stI l i v = l.set i.toNat v
  rpI_eq : ∀ n v, rpI n v = List.replicate n.toNat v
  lnG_eq : ∀ l, lnG l = (l.length : Int)
  lnG_nn : ∀ l, 0 ≤ lnG l
  lt_lnG : ∀ l i, 0 ≤ i → i < lnG l → i.toNat < l.length
  lnG_lt : ∀ (l : List AVal) (n : Int), (l.length : Int) < n → lnG l < n
  lnG_toNat : ∀ l : List AVal, (lnG l).toNat = l.length
  gtG_eq : ∀ l i, gtG l i = l.getD i.toNat .junk
  apG_eq : ∀ l m, apG l m = l ++ m
  sbG_eq : ∀ l a b, sbG l a b = (l.drop a.toNat).take (b - a).toNat
  stG_eq : ∀ l i v, stG l i v = l.set i.toNat v
  rpG_eq : ∀ n v, rpG n v = List.replicate n.toNat v
  fi_eq : fi = rFi
  fb_eq : fb = rFb
  fs_eq : fs = rFs
  fl_eq : fl = rFl
  fg_eq : fg = rFg
  fc_eq : fc = rFc
  sln_eq : ∀ s, sln s = (s.length : Int)
  sgt_eq : ∀ s i, sgt s i = ((s.getD i.toNat 0).toNat : Int)
  sap_eq : ∀ s t, sap s t = s ++ t
  ssb_eq : ∀ l a b, ssb l a b = (l.drop a.toNat).take (b - a).toNat
  sc_eq : sc = rSc
  b2s_eq : ∀ l, b2s l = l.map fun n => n.toNat.toUInt8
  ndI : ∀ {q}, rNd q → nd q
  idx : ∀ {i n : Int}, 0 ≤ i → i < n → nd (.idx i n)
  callI : ∀ {f args h K R}, Does P f args h R → (∀ r h', R r h' → K r h') → call f args h K
  call1 : ∀ {f args h} {K : AVal → Heap → Prop} {r}, Does P f args h (Is r h) → K r h → call f args h K
  calld1 : ∀ {f args h} {K : AVal → Prop} {r}, Does P f args h (Is r h) → K r → calld f args h K
  callvI : ∀ {f args h K R}, DoesV P f args h R → (∀ r h', R r h' → K r h') → callv f args h K
  callv1 : ∀ {f args h} {K : AVal → Heap → Prop} {r}, DoesV P f args h (Is r h) → K r h → callv f args h K
  callvd1 : ∀ {f args h} {K : AVal → Prop} {r}, DoesV P f args h (Is r h) → K r → callvd f args h K
  loopI : ∀ {body s Q}, rLoop n0 nt body s Q → loop body s Q
  rfunI : ∀ {f ps assign body s Q}, rRfun P nt f ps assign body s Q → rfun f ps assign body s Q
  finI : ∀ {R r h}, rFin n0 R r h → fin R r h
  fin1 : ∀ {r v h}, r = v → fin (Is v h) r h
  fin0 : ∀ {r v h}, n0 = 0 → low 0 v = true → Wk h r v → fin (Is v []) r h
theorem hk_of {P : Program} {T : Tab} {M : MTab} {n0 nt : Nat} {p : Pr} (hk : HooksOK P T M n0 nt p) :
    HK P n0 nt p.i2 p.c2 p.u1 p.cv p.mx p.mn p.ad p.sbt p.bn p.bq p.ba p.lnI p.gtI p.apI p.sbI p.stI p.rpI p.lnG p.gtG p.apG p.sbG p.stG p.rpG p.fi p.fb p.fs p.fl p.fg p.fc p.sln p.sgt p.sap p.ssb p.sc p.b2s p.nd p.call p.calld p.callv p.callvd p.loop p.rfun p.fin where
  c2_lss := fun a b => by rw [hk.data.c2]; rfl
  c2_leq := fun a b => by rw [hk.data.c2]; rfl
  c2_gtr := fun a b => by rw [hk.data.c2]; rfl
  c2_geq := fun a b => by rw [hk.data.c2]; rfl
  c2_eql := fun a b => by rw [hk.data.c2]; rfl
  c2_neq := fun a b => by
    rw [hk.data.c2]
    show (a != b) = _
    by_cases h : a = b <;> simp [h, bne]
  i2_eq := hk.data.i2
  i2_add := fun k a b => by rw [hk.data.i2]; rfl
  i2_sub := fun k a b => by rw [hk.data.i2]; rfl
  i2_mul := fun k a b => by rw [hk.data.i2]; rfl
  i2_quo := fun k a b => by rw [hk.data.i2]; rfl
  i2_rem := fun k a b => by rw [hk.data.i2]; rfl
  add64 := fun a b h1 h2 => by rw [hk.data.i2]; exact wrap64 h1 h2
  sub64 := fun a b h1 h2 => by rw [hk.data.i2]; exact wrap64 h1 h2
  mul64 := fun a b h1 h2 => by rw [hk.data.i2]; exact wrap64 h1 h2
  u1_neg := fun k a => by rw [hk.data.u1]; rfl
  u1_eq := hk.data.u1
  cv_eq := fun k a => by rw [hk.data.cv]
  mx_eq := fun a b => by rw [hk.data.mx]
  mn_eq := fun a b => by rw [hk.data.mn]
  ad_eq := fun a b => by rw [hk.data.ad]
  sb_eq := fun a b => by rw [hk.data.sbt]
  bn_eq := fun a => by rw [hk.data.bn]
  bq_eq := fun a b => by rw [hk.data.bq]
  ba_eq := fun a b => by rw [hk.data.ba]
  lnI_eq := fun l => by rw [hk.data.lnI]
  lnI_nn := fun l => by rw [hk.data.lnI]; exact Int.natCast_nonneg _
  lt_lnI := fun l i h0 h1 => by rw [hk.data.lnI] at h1; simp only [] at h1; omega
  lnI_lt := fun l n h => by rw [hk.data.lnI]; simp only []; omega
  lnI_le := fun l n h => by rw [hk.data.lnI]; simp only []; omega
  lnI_toNat := fun l => by rw [hk.data.lnI]; simp only []; omega
  gtI_eq := fun l i => by rw [hk.data.gtI]
  apI_eq := fun l m => by rw [hk.data.apI]
  sbI_eq := fun l a b => by rw [hk.data.sbI]; rfl
  stI_eq := fun l i v => by rw [hk.data.stI]
  rpI_eq := fun n v => by rw [hk.data.rpI]
  lnG_eq := fun l => by rw [hk.data.lnG]
  lnG_nn := fun l => by rw [hk.data.lnG]; exact Int.natCast_nonneg _
  lt_lnG := fun l i h0 h1 => by rw [hk.data.lnG] at h1; simp only [] at h1; omega
  lnG_lt := fun l n h => by rw [hk.data.lnG]; simp only []; omega
  lnG_toNat := fun l => by rw [hk.data.lnG]; simp only []; omega
  gtG_eq := fun l i => by rw [hk.data.gtG]
  apG_eq := fun l m => by rw [hk.data.apG]
  sbG_eq := fun l a b => by rw [hk.data.sbG]; rfl
  stG_eq := fun l i v => by rw [hk.data.stG]
  rpG_eq := fun n v => by rw [hk.data.rpG]
  fi_eq := hk.data.fi
  fb_eq := hk.data.fb
  fs_eq := hk.data.fs
  fl_eq := hk.data.fl
  fg_eq := hk.data.fg
  fc_eq := hk.data.fc
  sln_eq := fun s => by rw [hk.data.sln]
  sgt_eq := fun s i => by rw [hk.data.sgt]
  sap_eq := fun s t => by rw [hk.data.sap]
  ssb_eq := fun l a b => by rw [hk.data.ssb]; rfl
  sc_eq := hk.data.sc
  b2s_eq := fun l => by rw [hk.data.b2s]
  ndI := fun h => by rw [hk.data.nd]; exact h
  idx := fun h0 h1 => by rw [hk.data.nd]; exact ⟨h0, h1⟩
  callI := fun hs hK => hk.callI hs hK
  call1 := fun hs hK => hk.call1 hs hK
  calld1 := fun hs hK => hk.calldI hs hK
  callvI := fun hs hK => by rw [hk.calls.callv]; exact hs.mono hK
  callv1 := fun hs hK => by rw [hk.calls.callv]; exact hs.mono fun r' h' ⟨e1, e2⟩ => by subst e1; subst e2; exact hK
  callvd1 := fun hs hK => by rw [hk.calls.callvd]; exact ⟨_, hs, hK⟩
  loopI := fun h => hk.loopI h
  rfunI := fun h => by rw [hk.rfun]; exact h
  finI := fun h => hk.finI h
  fin1 := fun e => hk.finI (fin_same ⟨e, rfl⟩)
  fin0 := fun e hp hw => by subst e; exact hk.finI (fin_nil hw hp ⟨rfl, rfl⟩)
/-- A CONTRACT, FROM THE CODE. -/
theorem doesFr {P : Program} {T : Tab} {M : MTab} (ρ : Nat → Bool) (hP : ProgOK P T M) {f : FuncId} (fn : Func) {args : List AVal} {h : Heap} {R : AVal → Heap → Prop}
    (hf : P.funcs[f]? = some fn) (hB : okB fn args.length = true)
    (hw : ∀ i2 c2 u1 cv mx mn ad sbt bn bq ba lnI gtI apI sbI stI rpI lnG gtG apG sbG stG rpG fi fb fs fl fg fc sln sgt sap ssb sc b2s s2b nd call calld callv callvd loop rfun fin,
      HK P h.length fn.ntmps i2 c2 u1 cv mx mn ad sbt bn bq ba lnI gtI apI sbI stI rpI lnG gtG apG sbG stG rpG fi fb fs fl fg fc sln sgt sap ssb sc b2s nd call calld callv callvd loop rfun fin →
      wpc ⟨i2, c2, u1, cv, mx, mn, ad, sbt, bn, bq, ba, lnI, gtI, apI, sbI, stI, rpI, lnG, gtG, apG, sbG, stG, rpG, fi, fb, fs, fl, fg, fc, sln, sgt, sap, ssb, sc, b2s, s2b, nd, call, calld, callv, callvd, loop, rfun, fin, ρ⟩ T M fn.ntmps (fn.body.getD .skip) ⟨args0 args, h⟩
        (endPost ⟨i2, c2, u1, cv, mx, mn, ad, sbt, bn, bq, ba, lnI, gtI, apI, sbI, stI, rpI, lnG, gtG, apG, sbG, stG, rpG, fi, fb, fs, fl, fg, fc, sln, sgt, sap, ssb, sc, b2s, s2b, nd, call, calld, callv, callvd, loop, rfun, fin, ρ⟩ T fn.results.toList R)) : Does P f args h R :=
  does ρ hP fn hf hB fun p hk hr => by
    have := hw p.i2 p.c2 p.u1 p.cv p.mx p.mn p.ad p.sbt p.bn p.bq p.ba p.lnI p.gtI p.apI p.sbI p.stI p.rpI p.lnG p.gtG p.apG p.sbG p.stG p.rpG p.fi p.fb p.fs p.fl p.fg p.fc p.sln p.sgt p.sap p.ssb p.sc p.b2s p.s2b p.nd p.call p.calld p.callv p.callvd p.loop p.rfun p.fin (hk_of hk)
    subst hr
    exact this
/-- .. where an append to nil makes a list. -/
theorem doesF {P : Program} {T : Tab} {M : MTab} (hP : ProgOK P T M) {f : FuncId} (fn : Func) {args : List AVal} {h : Heap} {R : AVal → Heap → Prop}
    (hf : P.funcs[f]? = some fn) (hB : okB fn args.length = true)
    (hw : ∀ i2 c2 u1 cv mx mn ad sbt bn bq ba lnI gtI apI sbI stI rpI lnG gtG apG sbG stG rpG fi fb fs fl fg fc sln sgt sap ssb sc b2s s2b nd call calld callv callvd loop rfun fin,
      HK P h.length fn.ntmps i2 c2 u1 cv mx mn ad sbt bn bq ba lnI gtI apI sbI stI rpI lnG gtG apG sbG stG rpG fi fb fs fl fg fc sln sgt sap ssb sc b2s nd call calld callv callvd loop rfun fin →
      wpc ⟨i2, c2, u1, cv, mx, mn, ad, sbt, bn, bq, ba, lnI, gtI, apI, sbI, stI, rpI, lnG, gtG, apG, sbG, stG, rpG, fi, fb, fs, fl, fg, fc, sln, sgt, sap, ssb, sc, b2s, s2b, nd, call, calld, callv, callvd, loop, rfun, fin, fun _ => false⟩ T M fn.ntmps (fn.body.getD .skip) ⟨args0 args, h⟩
        (endPost ⟨i2, c2, u1, cv, mx, mn, ad, sbt, bn, bq, ba, lnI, gtI, apI, sbI, stI, rpI, lnG, gtG, apG, sbG, stG, rpG, fi, fb, fs, fl, fg, fc, sln, sgt, sap, ssb, sc, b2s, s2b, nd, call, calld, callv, callvd, loop, rfun, fin, fun _ => false⟩ T fn.results.toList R)) : Does P f args h R :=
  doesFr (fun _ => false) hP fn hf hB hw
theorem pure0 {P : Program} {f : FuncId} {args : List AVal} {v : AVal} (hd : Does P f args [] (Is v [])) (ha : lows 0 args = true) (hv : low 0 v = true) (h : Heap) : Does P f args h (Is v h) := frame0 hd ha hv h
theorem upto_step {p : Nat → Prop} {i : Int} (h0 : 0 ≤ i) (h : ∀ j, j < i.toNat → p j) (h1 : p i.toNat) : ∀ j, j < (i + 1).toNat → p j := fun j hj => by
  by_cases e : j = i.toNat
  · subst e; exact h1
  · exact h j (by omega)
theorem upto_zero {p : Nat → Prop} : ∀ j, j < (0 : Int).toNat → p j := fun j hj => by simp at hj
end Go.AL
