/-
  AL: a region that draws its order comes to what the order of the text comes to, if no two of its operations that may change places meet in what they read and write.
-/
import Derived.Test.YtnnpookoencpnaaAlCode
set_option linter.unusedSectionVars false
set_option linter.unusedVariables false
set_option linter.unusedSimpArgs false
namespace Go.AL
open Go

/-- What an operation has to do with the heap: nothing; it reads; more. -/
inductive OC where
  | pure | read | eff
def opClass : Op → OC
  | .move _ | .assign _ | .pick .. | .build .. | .unOp .. | .convert .. | .makeInterface .. | .makeFunc .. | .field .. | .index .. | .extract .. | .typeAssert .. => .pure
  | .load .. | .nilCheck _ | .slice _ _ _ _ none | .fieldAddr .. | .indexAddr .. => .read
  | .binOp op .. => match op with
    | .eql | .neq => .read
    | _ => .pure
  | .call c => match c.callee with
    | .builtin .len => .read
    | .builtin .max | .builtin .min => .pure
    | .builtin _ => .eff
    | _ => .read
  | _ => .eff
def OC.comm : OC → OC → Bool
  | .pure, _ | _, .pure | .read, .read => true
  | _, _ => false
section
variable {p : Pr} {T : Tab} {M : MTab}
theorem aop_congr {tm tm' : Nat → AVal} {hh : Heap} (op : Op) (h : ∀ x ∈ op.operands.toList, ev tm x = ev tm' x) : aop p T tm hh op = aop p T tm' hh op := by
  have parts : ∀ (ps : List (Nat × Operand)), (∀ x ∈ ps.map (·.2), ev tm x = ev tm' x) → ps.map (fun x => (x.1, ev tm x.2)) = ps.map (fun x => (x.1, ev tm' x.2)) := fun ps hps =>
    List.map_congr_left fun x hx => by rw [hps x.2 (List.mem_map_of_mem hx)]
  cases op with
  | call c =>
    obtain ⟨callee, args, ats⟩ := c
    have h' : args.toList.map (ev tm) = args.toList.map (ev tm') := List.map_congr_left fun x hx => h x (by
      have : x ∈ args := by simpa using hx
      cases callee <;> simp [Op.operands, Call.operands, this])
    simp only [aop]
    rw [h']
  | build t ps => simp only [aop]; rw [parts ps.toList (fun x hx => h x (by simpa [Op.operands] using hx))]
  | buildSlice t n ps => simp only [aop]; rw [parts ps.toList (fun x hx => h x (by simpa [Op.operands] using hx))]
  | makeFunc fn first caps =>
    simp only [aop]
    split
    · congr 2 <;> refine List.map_congr_left fun x hx => h x ?_ <;> simp [Op.operands] at hx ⊢
      · exact .inl hx
      · exact .inr hx
    · rfl
  | slice t x lo hi mx =>
    have hx := h x (by simp [Op.operands])
    have hlo : lo.map (ev tm) = lo.map (ev tm') := by
      cases lo with
      | none => rfl
      | some y => simp only [Option.map_some]; rw [h y (by simp [Op.operands])]
    have hhi : hi.map (ev tm) = hi.map (ev tm') := by
      cases hi with
      | none => rfl
      | some y => simp only [Option.map_some]; rw [h y (by simp [Op.operands])]
    simp only [aop]
    rw [hx, hlo, hhi]
    cases mx with
    | none => rfl
    | some m =>
      cases hi with
      | none => rfl
      | some b => simp only []; rw [h m (by simp [Op.operands]), h b (by simp [Op.operands])]
  | pick c x y =>
    simp only [aop]
    rw [h c (by simp [Op.operands]), h x (by simp [Op.operands]), h y (by simp [Op.operands])]
  | _ =>
    simp only [Op.operands] at h
    simp only [aop]
    try (first
      | rw [h _ (by simp), h _ (by simp)]
      | rw [h _ (by simp)])
    done
/-- A result at another heap. -/
def AR.at_ (h : Heap) : AR → AR
  | .ok v _ => .ok v h
  | .need q v _ => .need q v h
  | .stuck => .stuck
def AR.keeps (h : Heap) : AR → Prop
  | .ok _ h' => h' = h
  | .need _ _ h' => h' = h
  | .stuck => True
theorem aBin_at (op : BinOp) (h1 : op ≠ .eql) (h2 : op ≠ .neq) (t : Nat) (x y : AVal) (h h' : Heap) : aBin p T op t x y h = (aBin p T op t x y h').at_ h := by
  have row : ∀ (h : Heap) (i g : Nat), (match h[i]? with
        | some (.rw g' q) => match Nat.beq g g' with
          | true => match op with
            | .eql => AR.need (.ne (q.len p)) (.bool false) h
            | .neq => .need (.ne (q.len p)) (.bool true) h
            | _ => .stuck
          | false => .stuck
        | _ => .stuck) = AR.stuck := fun h i g => by
    split
    · split
      · cases op <;> first | rfl | exact absurd rfl h1 | exact absurd rfl h2
      · rfl
    · rfl
  unfold aBin aEqAgg
  split
  case h_5 => simp only [row]; repeat' split
              all_goals rfl
  all_goals repeat' split
  all_goals first | rfl | exact absurd rfl h1 | exact absurd rfl h2 | simp_all [AR.at_]
theorem aBin_keeps (op : BinOp) (t : Nat) (x y : AVal) (h : Heap) : (aBin p T op t x y h).keeps h := by
  unfold aBin aEqAgg
  repeat' split
  all_goals first | trivial | rfl
theorem aBuild_at (t : Nat) (l : List (Nat × AVal)) (h h' : Heap) : aBuild T t l h = (aBuild T t l h').at_ h := by
  unfold aBuild
  repeat' split
  all_goals first | rfl | simp_all [AR.at_]
theorem aUn_at (op : UnOp) (x : AVal) (h h' : Heap) : aUn p op x h = (aUn p op x h').at_ h := by
  unfold aUn
  repeat' split
  all_goals first | rfl | simp_all [AR.at_]
theorem aConv_at (s d : Nat) (x : AVal) (h h' : Heap) : aConv p T s d x h = (aConv p T s d x h').at_ h := by
  unfold aConv
  repeat' split
  all_goals first | rfl | simp_all [AR.at_]
theorem aMkI_at (s : Nat) (x : AVal) (h h' : Heap) : aMkI T s x h = (aMkI T s x h').at_ h := by
  unfold aMkI
  repeat' split
  all_goals first | rfl | simp_all [AR.at_]
theorem aField_at (s : Nat) (x : AVal) (f : Nat) (h h' : Heap) : aField T s x f h = (aField T s x f h').at_ h := by
  unfold aField
  repeat' split
  all_goals first | rfl | simp_all [AR.at_]
theorem aIndex_at (s : Nat) (x y : AVal) (f : Option Nat) (h h' : Heap) : aIndex p T s x y f h = (aIndex p T s x y f h').at_ h := by
  unfold aIndex
  repeat' split
  all_goals first | rfl | simp_all [AR.at_]
theorem aExtract_at (x : AVal) (f : Nat) (h h' : Heap) : aExtract x f h = (aExtract x f h').at_ h := by
  unfold aExtract
  repeat' split
  all_goals first | rfl | simp_all [AR.at_]
theorem aAssert_at (x : AVal) (f : Nat) (b : Bool) (h h' : Heap) : aAssert T x f b h = (aAssert T x f b h').at_ h := by
  unfold aAssert
  repeat' split
  all_goals first | rfl | simp_all [AR.at_]
theorem aMax_at (x y : AVal) (h h' : Heap) : aMax p x y h = (aMax p x y h').at_ h := by
  unfold aMax
  repeat' split
  all_goals first | rfl | simp_all [AR.at_]
theorem aMin_at (x y : AVal) (h h' : Heap) : aMin p x y h = (aMin p x y h').at_ h := by
  unfold aMin
  repeat' split
  all_goals first | rfl | simp_all [AR.at_]
theorem aLoad_keeps (t : Nat) (x : AVal) (h : Heap) : (aLoad p T t x h).keeps h := by
  unfold aLoad
  repeat' split
  all_goals first | trivial | rfl
theorem aNil_keeps (x : AVal) (h : Heap) : (aNil x h).keeps h := by
  unfold aNil
  repeat' split
  all_goals first | trivial | rfl
theorem aSlice_keeps (t : Nat) (x : AVal) (a b c : Option AVal) (h : Heap) : (aSlice p T t x a b c h).keeps h := by
  unfold aSlice
  repeat' split
  all_goals first | trivial | rfl
theorem aFieldAddr_keeps (t : Nat) (x : AVal) (f : Nat) (h : Heap) : (aFieldAddr T t x f h).keeps h := by
  unfold aFieldAddr
  repeat' split
  all_goals first | trivial | rfl
theorem aIndexAddr_keeps (t : Nat) (x y : AVal) (f : Option Nat) (h : Heap) : (aIndexAddr p T t x y f h).keeps h := by
  unfold aIndexAddr
  repeat' split
  all_goals first | trivial | rfl
theorem aLen_keeps (t : Nat) (x : AVal) (h : Heap) : (aLen p T t x h).keeps h := by
  unfold aLen
  repeat' split
  all_goals first | trivial | rfl
theorem aop_pure {op : Op} (hc : opClass op = .pure) (tm : Nat → AVal) (h h' : Heap) : aop p T tm h op = (aop p T tm h' op).at_ h := by
  cases op with
  | pick c a b =>
    simp only [aop]
    split
    · split <;> rfl
    · rfl
  | call c =>
    obtain ⟨callee, args, ats⟩ := c
    simp only [opClass] at hc
    split at hc
    · cases hc
    · simp only [aop, aBuiltin]
      split
      · exact aMax_at ..
      · rfl
    · simp only [aop, aBuiltin]
      split
      · exact aMin_at ..
      · rfl
    · cases hc
    · cases hc
  | slice t x lo hi mx => cases mx <;> cases hc
  | makeFunc fn a b =>
    simp only [aop]
    split <;> rfl
  | binOp op t x y u => exact aBin_at op (fun e => by subst e; cases hc) (fun e => by subst e; cases hc) ..
  | _ => first
    | (cases hc; done)
    | rfl
    | exact aBuild_at ..
    | exact aUn_at ..
    | exact aConv_at ..
    | exact aMkI_at ..
    | exact aField_at ..
    | exact aIndex_at ..
    | exact aExtract_at ..
    | exact aAssert_at ..
theorem aop_keeps {op : Op} (hc : opClass op = .read) (tm : Nat → AVal) (h : Heap) : (aop p T tm h op).keeps h := by
  cases op with
  | call c =>
    obtain ⟨callee, args, ats⟩ := c
    simp only [opClass] at hc
    split at hc
    · simp only [aop, aBuiltin]
      split
      · exact aLen_keeps ..
      · trivial
    · cases hc
    · cases hc
    · cases hc
    · rename_i h1
      cases callee with
      | builtin b => exact (h1 b rfl).elim
      | _ => trivial
  | slice t x lo hi mx =>
    cases mx with
    | none =>
      simp only [aop, Option.map_none]
      exact aSlice_keeps ..
    | some m => cases hc
  | _ => first
    | (cases hc; done)
    | exact aLoad_keeps ..
    | exact aNil_keeps ..
    | exact aBin_keeps ..
    | exact aSlice_keeps ..
    | exact aFieldAddr_keeps ..
    | exact aIndexAddr_keeps ..
def arK (p : Pr) (K : AVal → Heap → Prop) : AR → Prop
  | .ok v h => K v h
  | .need q v h => p.nd q ∧ K v h
  | .stuck => False
def roV (p : Pr) (v : AVal) (as_ : List AVal) (h : Heap) (K : AVal → Heap → Prop) : Prop := match v with
  | .clo (.func f) first caps => p.calld f (first ++ as_ ++ caps) h fun v => K v h
  | v => p.callvd v as_ h fun v => K v h
def roI (p : Pr) (r : Option (FuncId × AVal)) (as_ : List AVal) (h : Heap) (K : AVal → Heap → Prop) : Prop := match r with
  | some (f, x) => p.calld f (x :: as_) h fun v => K v h
  | none => False
/-- One operation in a drawn region: its value, and the heap after it. -/
def ro (p : Pr) (T : Tab) (M : MTab) (tm : Nat → AVal) (h : Heap) (op : Op) (K : AVal → Heap → Prop) : Prop :=
  match op with
  | .call c => match c.callee with
    | .value f => roV p (ev tm f) (c.args.toList.map (ev tm)) h K
    | .invoke r name => roI p (recvA p T M h (ev tm r) name) (c.args.toList.map (ev tm)) h K
    | .builtin _ => arK p K (aop p T tm h op)
  | op => arK p K (aop p T tm h op)
theorem wpo_ro {nt : Nat} {s : St} {o : Oper} {K : St → Prop} : wpo p T M nt true s o K = ro p T M s.tm s.h o.op fun v h => putK nt s o.dst v h K := by
  unfold wpo ro
  cases hop : o.op with
  | call c =>
    simp only
    cases c.callee with
    | value f =>
      simp only [roV]
      cases ev s.tm f with
      | clo fn a b => cases fn <;> rfl
      | _ => rfl
    | invoke r n =>
      simp only [roI]
      cases recvA p T M s.h (ev s.tm r) n <;> rfl
    | builtin b =>
      simp only []
      generalize aop p T s.tm s.h _ = r
      cases r <;> rfl
  | _ =>
    simp only []
    generalize aop p T s.tm s.h _ = r
    cases r <;> rfl
/-- Where the value goes. -/
def updo (tm : Nat → AVal) : Option Nat → AVal → Nat → AVal
  | none, _ => tm
  | some d, v => upd tm d v
def dOK (nt : Nat) : Option Nat → Prop
  | none => True
  | some d => d < nt
theorem putK_iff {nt : Nat} {s : St} {d : Option Nat} {v : AVal} {h : Heap} {K : St → Prop} : putK nt s d v h K ↔ dOK nt d ∧ K ⟨updo s.tm d v, h⟩ := by
  cases d with
  | none => simp [putK, dOK, updo]
  | some d =>
    simp only [putK, dOK, updo]
    cases hb : Nat.blt d nt
    · have : ¬ d < nt := fun h => by
        have : Nat.blt d nt = true := by simpa using h
        rw [hb] at this; cases this
      simp [this]
    · have : d < nt := by simpa using hb
      simp [this]
/-- A result and nothing else. -/
def only (v : AVal) (h : Heap) : AVal → Heap → Prop := fun v' h' => v' = v ∧ h' = h
section
variable {P : Program} (hc : CallOK P p)
include hc
theorem calld_det {f : FuncId} {args : List AVal} {h : Heap} {K : AVal → Prop} (hh : p.calld f args h K) : ∃ v, p.calld f args h (· = v) ∧ K v := by
  rw [hc.calld] at *
  obtain ⟨r, h1, h2⟩ := hh
  exact ⟨r, ⟨r, h1, rfl⟩, h2⟩
theorem callvd_det {f : AVal} {args : List AVal} {h : Heap} {K : AVal → Prop} (hh : p.callvd f args h K) : ∃ v, p.callvd f args h (· = v) ∧ K v := by
  rw [hc.callvd] at *
  obtain ⟨r, h1, h2⟩ := hh
  exact ⟨r, ⟨r, h1, rfl⟩, h2⟩
theorem calld_mono {f : FuncId} {args : List AVal} {h : Heap} {K K' : AVal → Prop} (hh : p.calld f args h K) (hk : ∀ v, K v → K' v) : p.calld f args h K' := by
  rw [hc.calld] at *
  obtain ⟨r, h1, h2⟩ := hh
  exact ⟨r, h1, hk _ h2⟩
theorem callvd_mono {f : AVal} {args : List AVal} {h : Heap} {K K' : AVal → Prop} (hh : p.callvd f args h K) (hk : ∀ v, K v → K' v) : p.callvd f args h K' := by
  rw [hc.callvd] at *
  obtain ⟨r, h1, h2⟩ := hh
  exact ⟨r, h1, hk _ h2⟩
omit hc in
theorem arK_mono {r : AR} {K K' : AVal → Heap → Prop} (hr : arK p K r) (hk : ∀ v h, K v h → K' v h) : arK p K' r := by
  cases r with
  | ok => exact hk _ _ hr
  | need => exact ⟨hr.1, hk _ _ hr.2⟩
  | stuck => exact hr
omit hc in
theorem arK_det {r : AR} {K : AVal → Heap → Prop} (hr : arK p K r) : ∃ v h', arK p (only v h') r ∧ K v h' := by
  cases r with
  | ok v h => exact ⟨v, h, ⟨rfl, rfl⟩, hr⟩
  | need q v h => exact ⟨v, h, ⟨hr.1, rfl, rfl⟩, hr.2⟩
  | stuck => exact hr.elim
theorem roV_mono {v : AVal} {as_ : List AVal} {h : Heap} {K K' : AVal → Heap → Prop} (hh : roV p v as_ h K) (hk : ∀ v, K v h → K' v h) : roV p v as_ h K' := by
  unfold roV at *
  split at hh
  · exact calld_mono hc hh hk
  · exact callvd_mono hc hh hk
theorem roV_det {v : AVal} {as_ : List AVal} {h : Heap} {K : AVal → Heap → Prop} (hh : roV p v as_ h K) : ∃ u, roV p v as_ h (only u h) ∧ K u h := by
  unfold roV at *
  split at hh
  · obtain ⟨v, h1, h2⟩ := calld_det hc hh
    exact ⟨v, calld_mono hc h1 fun u hu => ⟨hu, rfl⟩, h2⟩
  · obtain ⟨v, h1, h2⟩ := callvd_det hc hh
    exact ⟨v, callvd_mono hc h1 fun u hu => ⟨hu, rfl⟩, h2⟩
theorem roI_mono {v : Option (FuncId × AVal)} {as_ : List AVal} {h : Heap} {K K' : AVal → Heap → Prop} (hh : roI p v as_ h K) (hk : ∀ v, K v h → K' v h) : roI p v as_ h K' := by
  unfold roI at *
  split at hh
  · exact calld_mono hc hh hk
  · exact hh
theorem roI_det {v : Option (FuncId × AVal)} {as_ : List AVal} {h : Heap} {K : AVal → Heap → Prop} (hh : roI p v as_ h K) : ∃ u, roI p v as_ h (only u h) ∧ K u h := by
  unfold roI at *
  split at hh
  · obtain ⟨v, h1, h2⟩ := calld_det hc hh
    exact ⟨v, calld_mono hc h1 fun u hu => ⟨hu, rfl⟩, h2⟩
  · exact hh.elim
theorem ro_mono {tm : Nat → AVal} {h : Heap} {op : Op} {K K' : AVal → Heap → Prop} (hh : ro p T M tm h op K) (hk : ∀ v h, K v h → K' v h) : ro p T M tm h op K' := by
  cases op with
  | call c =>
    obtain ⟨callee, args, ats⟩ := c
    cases callee with
    | builtin b => exact arK_mono hh hk
    | value f => exact roV_mono hc hh (fun v => hk v h)
    | invoke r n => exact roI_mono hc hh (fun v => hk v h)
  | _ => simp only [ro] at hh ⊢; exact arK_mono hh hk
theorem ro_det {tm : Nat → AVal} {h : Heap} {op : Op} {K : AVal → Heap → Prop} (hh : ro p T M tm h op K) : ∃ v h', ro p T M tm h op (only v h') ∧ K v h' := by
  cases op with
  | call c =>
    obtain ⟨callee, args, ats⟩ := c
    cases callee with
    | builtin b => exact arK_det hh
    | value f => obtain ⟨u, h1, h2⟩ := roV_det hc hh; exact ⟨u, h, h1, h2⟩
    | invoke r n => obtain ⟨u, h1, h2⟩ := roI_det hc hh; exact ⟨u, h, h1, h2⟩
  | _ => simp only [ro] at hh ⊢; exact arK_det hh
omit hc in
theorem ro_pure {op : Op} (ho : opClass op = .pure) {tm : Nat → AVal} {h h1 : Heap} {v : AVal} (hh : ro p T M tm h op (only v h1)) : h1 = h ∧ ∀ h', ro p T M tm h' op (only v h') := by
  have key : arK p (only v h1) (aop p T tm h op) → h1 = h ∧ ∀ h', arK p (only v h') (aop p T tm h' op) := fun hk => by
    have e1 := aop_pure (p := p) (T := T) ho tm h h
    refine ⟨?_, fun h' => ?_⟩
    · revert hk e1
      cases aop p T tm h op with
      | ok v2 h2 => intro hk e1; simp only [AR.at_] at e1; exact hk.2.symm.trans (AR.ok.inj e1).2
      | need q v2 h2 => intro hk e1; simp only [AR.at_] at e1; exact hk.2.2.symm.trans (AR.need.inj e1).2.2
      | stuck => exact fun hk _ => hk.elim
    · rw [aop_pure (p := p) (T := T) ho tm h' h]
      revert hk
      cases aop p T tm h op with
      | ok v2 h2 => intro hk; exact ⟨hk.1, rfl⟩
      | need q v2 h2 => intro hk; exact ⟨hk.1, hk.2.1, rfl⟩
      | stuck => exact fun hk => hk.elim
  cases op with
  | call c =>
    obtain ⟨callee, args, ats⟩ := c
    cases callee with
    | builtin b => exact key hh
    | value f => simp [opClass] at ho
    | invoke r n => simp [opClass] at ho
  | _ => exact key hh
theorem ro_read {op : Op} (ho : opClass op = .read) {tm : Nat → AVal} {h h1 : Heap} {v : AVal} (hh : ro p T M tm h op (only v h1)) : h1 = h := by
  have key : arK p (only v h1) (aop p T tm h op) → h1 = h := fun hk => by
    have e1 := aop_keeps (p := p) (T := T) ho tm h
    revert hk e1
    cases aop p T tm h op with
    | ok v2 h2 => intro hk e1; exact hk.2.symm.trans e1
    | need q v2 h2 => intro hk e1; exact hk.2.2.symm.trans e1
    | stuck => exact fun hk _ => hk.elim
  cases op with
  | call c =>
    obtain ⟨callee, args, ats⟩ := c
    cases callee with
    | builtin b => exact key hh
    | value f => obtain ⟨u, h1, h2⟩ := roV_det hc hh; exact h2.2.symm
    | invoke r n => obtain ⟨u, h1, h2⟩ := roI_det hc hh; exact h2.2.symm
  | _ => exact key hh
omit hc in
theorem ro_congr {tm tm' : Nat → AVal} {h : Heap} {op : Op} {K : AVal → Heap → Prop} (he : ∀ x ∈ op.operands.toList, ev tm x = ev tm' x) : ro p T M tm h op K = ro p T M tm' h op K := by
  have ha := aop_congr (p := p) (T := T) (hh := h) op he
  cases op with
  | call c =>
    obtain ⟨callee, args, ats⟩ := c
    have h' : args.toList.map (ev tm) = args.toList.map (ev tm') := List.map_congr_left fun x hx => he x (by
      have : x ∈ args := by simpa using hx
      cases callee <;> simp [Op.operands, Call.operands, this])
    cases callee with
    | builtin b => simp only [ro]; rw [ha]
    | value f =>
      simp only [ro]
      rw [h', he f (by simp [Op.operands, Call.operands])]
    | invoke r n =>
      simp only [ro]
      rw [h', he r (by simp [Op.operands, Call.operands])]
  | _ => simp only [ro]; rw [ha]
end
/-- With its guard. -/
def rg (p : Pr) (T : Tab) (M : MTab) (all : List Oper) (tm : Nat → AVal) (h : Heap) (o : Oper) (K : AVal → Heap → Prop) : Prop :=
  match o.guard with
  | none => ro p T M tm h o.op K
  | some (j, b) => match (all[j]?).bind (·.dst) with
    | none => False
    | some d => match tm d with
      | .bool c => if c = b then ro p T M tm h o.op K else K .und h
      | .und => K .und h
      | _ => False
theorem wpg_rg {nt : Nat} {all : List Oper} {s : St} {o : Oper} {K : St → Prop} : wpg p T M nt true all o s K = rg p T M all s.tm s.h o fun v h => putK nt s o.dst v h K := by
  unfold wpg rg
  cases o.guard with
  | none => exact wpo_ro
  | some jb =>
    obtain ⟨j, b⟩ := jb
    simp only
    cases (all[j]?).bind (·.dst) with
    | none => rfl
    | some d =>
      simp only
      cases hd : s.tm d with
      | bool c =>
        have e1 := upd_self s.tm d _ hd
        cases c <;> cases b <;> simp only [e1]
        · simp; exact Iff.of_eq wpo_ro
        · simp
        · simp
        · simp; exact Iff.of_eq wpo_ro
      | _ => rfl
theorem updo_ev {tm : Nat → AVal} {d : Option Nat} {v : AVal} {x : Operand} (h : ∀ t, d = some t → x ≠ .tmp t) : ev (updo tm d v) x = ev tm x := by
  cases d with
  | none => rfl
  | some t =>
    cases x with
    | tmp u =>
      simp only [ev, updo, upd_get]
      rw [if_neg (fun e => h t rfl (by rw [e]))]
    | _ => rfl
theorem rg_put {ops : Array Oper} {tm : Nat → AVal} {h : Heap} {o : Oper} {K : AVal → Heap → Prop} {d : Option Nat} {v : AVal} (hd : ∀ t, d = some t → t ∉ o.looksAt ops) :
    rg p T M ops.toList (updo tm d v) h o K = rg p T M ops.toList tm h o K := by
  have h1 : ∀ K, ro p T M (updo tm d v) h o.op K = ro p T M tm h o.op K := fun K => ro_congr fun x hx => updo_ev fun t ht hxt => hd t ht (by
    subst hxt
    exact List.mem_append_left _ (List.mem_filterMap.2 ⟨.tmp t, by simpa using hx, rfl⟩))
  unfold rg
  cases hg : o.guard with
  | none => simp only [h1]
  | some jb =>
    obtain ⟨j, b⟩ := jb
    simp only [h1]
    cases hj : (ops.toList[j]?).bind (·.dst) with
    | none => rfl
    | some u =>
      have hu : updo tm d v u = tm u := by
        cases d with
        | none => rfl
        | some t =>
          simp only [updo, upd_get]
          refine if_neg fun e => hd t rfl (List.mem_append_right _ ?_)
          rw [hg]
          have : (ops[j]?).bind (·.dst) = some u := by simpa using hj
          simp [this, e]
      simp only [hu]
section
variable {P : Program} (hc : CallOK P p)
include hc
theorem rg_mono {all : List Oper} {tm : Nat → AVal} {h : Heap} {o : Oper} {K K' : AVal → Heap → Prop} (hh : rg p T M all tm h o K) (hk : ∀ v h, K v h → K' v h) : rg p T M all tm h o K' := by
  unfold rg at *
  split at hh
  · exact ro_mono hc hh hk
  · split at hh
    · exact hh
    · split at hh
      · split at hh
        · rename_i e; rw [if_pos e]; exact ro_mono hc hh hk
        · rename_i e; rw [if_neg e]; exact hk _ _ hh
      · exact hk _ _ hh
      · exact hh
theorem rg_det {all : List Oper} {tm : Nat → AVal} {h : Heap} {o : Oper} {K : AVal → Heap → Prop} (hh : rg p T M all tm h o K) : ∃ v h', rg p T M all tm h o (only v h') ∧ K v h' := by
  unfold rg at *
  split at hh
  · exact ro_det hc hh
  · split at hh
    · exact hh.elim
    · split at hh
      · split at hh
        · rename_i e; simp only [if_pos e]; exact ro_det hc hh
        · rename_i e; simp only [if_neg e]; exact ⟨_, _, ⟨rfl, rfl⟩, hh⟩
      · exact ⟨_, _, ⟨rfl, rfl⟩, hh⟩
      · exact hh.elim
omit hc in
theorem rg_pure {all : List Oper} {o : Oper} (ho : opClass o.op = .pure) {tm : Nat → AVal} {h h1 : Heap} {v : AVal} (hh : rg p T M all tm h o (only v h1)) : h1 = h ∧ ∀ h', rg p T M all tm h' o (only v h') := by
  unfold rg at *
  split at hh
  · exact ro_pure ho hh
  · split at hh
    · exact hh.elim
    · split at hh
      · split at hh
        · rename_i e; simp only [if_pos e]; exact ro_pure ho hh
        · rename_i e; simp only [if_neg e]; exact ⟨hh.2.symm, fun h' => ⟨hh.1, rfl⟩⟩
      · exact ⟨hh.2.symm, fun h' => ⟨hh.1, rfl⟩⟩
      · exact hh.elim
theorem rg_read {all : List Oper} {o : Oper} (ho : opClass o.op = .read) {tm : Nat → AVal} {h h1 : Heap} {v : AVal} (hh : rg p T M all tm h o (only v h1)) : h1 = h := by
  unfold rg at hh
  split at hh
  · exact ro_read hc ho hh
  · split at hh
    · exact hh.elim
    · split at hh
      · split at hh
        · exact ro_read hc ho hh
        · exact hh.2.symm
      · exact hh.2.symm
      · exact hh.elim
/-- Two operations change places. -/
theorem rg_swap {ops : Array Oper} {oi oj : Oper} (hap : oi.apart ops oj = true) (hcm : OC.comm (opClass oi.op) (opClass oj.op) = true) {tm : Nat → AVal} {h h1 h2 : Heap} {v u : AVal}
    (hi : rg p T M ops.toList tm h oi (only v h1)) (hj : rg p T M ops.toList (updo tm oi.dst v) h1 oj (only u h2)) :
    ∃ h3, rg p T M ops.toList tm h oj (only u h3) ∧ rg p T M ops.toList (updo tm oj.dst u) h3 oi (only v h2) := by
  obtain ⟨a1, a2, a3⟩ := Oper.apart_spec hap
  rw [rg_put a1] at hj
  simp only [rg_put a3]
  cases ci : opClass oi.op with
  | pure =>
    obtain ⟨rfl, hp⟩ := rg_pure ci hi
    exact ⟨h2, hj, hp h2⟩
  | read =>
    obtain rfl := rg_read hc ci hi
    cases cj : opClass oj.op with
    | pure =>
      obtain ⟨rfl, hp⟩ := rg_pure cj hj
      exact ⟨_, hj, hi⟩
    | read =>
      obtain rfl := rg_read hc cj hj
      exact ⟨_, hj, hi⟩
    | eff => rw [ci, cj] at hcm; simp [OC.comm] at hcm
  | eff =>
    cases cj : opClass oj.op with
    | pure =>
      obtain ⟨rfl, hp⟩ := rg_pure cj hj
      exact ⟨h, hp h, hi⟩
    | read => rw [ci, cj] at hcm; simp [OC.comm] at hcm
    | eff => rw [ci, cj] at hcm; simp [OC.comm] at hcm
end
theorem updo_comm {tm : Nat → AVal} {d d' : Option Nat} {v u : AVal} (h : ∀ t, d = some t → d' ≠ some t) : updo (updo tm d v) d' u = updo (updo tm d' u) d v := by
  cases d with
  | none => rfl
  | some t =>
    cases d' with
    | none => rfl
    | some t' =>
      have hne : t' ≠ t := fun e => h t rfl (by rw [e])
      funext x
      simp only [updo, upd_get]
      by_cases h1 : x = t
      · rw [if_pos h1, if_pos h1, if_neg (by omega)]
      · rw [if_neg h1]
        by_cases h2 : x = t'
        · rw [if_pos h2, if_neg h1]
        · rw [if_neg h2, if_neg h1]
/-- In any order. -/
def wpAnyA (p : Pr) (T : Tab) (M : MTab) (nt : Nat) (ops : Array Oper) (K : St → Prop) : Nat → Array Bool → St → Prop
  | 0, listed, s => Region.ready .any ops listed = [] ∧ K s
  | fuel + 1, listed, s => (Region.ready .any ops listed = [] → K s) ∧
      ∀ i ∈ Region.ready .any ops listed, ∀ o, ops[i]? = some o → rg p T M ops.toList s.tm s.h o fun v h => dOK nt o.dst ∧ wpAnyA p T M nt ops K fuel (listed.setIfInBounds i true) ⟨updo s.tm o.dst v, h⟩
/-- j needn't wait for i, neither itself nor through what it waits for. -/
def Loose (ops : Array Oper) (listed : Array Bool) (i : Nat) (oj : Oper) : Prop := (∀ e ∈ oj.after, Region.binds .any e = true → e.on ≠ i) ∧
  ∀ e ∈ oj.after, Region.binds .any e = true → ∀ om, ops[e.on]? = some om → listed.getD e.on true = false → ∀ e2 ∈ om.after, Region.binds .any e2 = true → e2.on ≠ i
section
variable {P : Program} (hc : CallOK P p)
include hc
theorem wpAnyA_first {nt : Nat} {ops : Array Oper} {K : St → Prop} {i : Nat} {oi : Oper} {v : AVal} (hi : ops[i]? = some oi) (hdi : dOK nt oi.dst) :
    ∀ (fuel : Nat) (listed : Array Bool) (s : St) (h1 : Heap),
      (∀ j oj, ops[j]? = some oj → j ≠ i → listed.getD j true = false → Loose ops listed i oj → oi.apart ops oj = true ∧ OC.comm (opClass oi.op) (opClass oj.op) = true) →
      i ∈ Region.ready .any ops listed → rg p T M ops.toList s.tm s.h oi (only v h1) →
      wpAnyA p T M nt ops K fuel (listed.setIfInBounds i true) ⟨updo s.tm oi.dst v, h1⟩ → wpAnyA p T M nt ops K (fuel + 1) listed s := by
  intro fuel
  induction fuel with
  | zero =>
    intro listed s h1 _ hr hy H
    refine ⟨fun h => (by rw [h] at hr; cases hr), fun j hj oj hoj => ?_⟩
    by_cases hji : j = i
    · subst hji
      obtain rfl : oi = oj := by rw [hi] at hoj; exact Option.some.inj hoj
      exact rg_mono hc hy fun v' h' ⟨e1, e2⟩ => by subst e1; subst e2; exact ⟨hdi, H⟩
    · have := ready_mono hj hji
      rw [H.1] at this
      cases this
  | succ fuel ih =>
    intro listed s h1 hfree hr hy H
    refine ⟨fun h => (by rw [h] at hr; cases hr), fun j hj oj hoj => ?_⟩
    by_cases hji : j = i
    · subst hji
      obtain rfl : oi = oj := by rw [hi] at hoj; exact Option.some.inj hoj
      exact rg_mono hc hy fun v' h' ⟨e1, e2⟩ => by subst e1; subst e2; exact ⟨hdi, H⟩
    · have h2 := H.2 j (ready_mono hj hji) oj hoj
      obtain ⟨u, hu, h3, hdj, h4⟩ := rg_det hc h2
      obtain ⟨hjun, oj', hoj', hall⟩ := mem_ready.1 hj
      obtain rfl : oj = oj' := by rw [hoj] at hoj'; exact Option.some.inj hoj'
      have hnot : ∀ e ∈ oj.after, Region.binds .any e = true → e.on ≠ i := fun e he hb heq => by
        have h1 := hall e he hb
        have h0 := (mem_ready.1 hr).1
        rw [heq] at h1
        rcases Nat.lt_or_ge i listed.size with h' | h'
        · simp [h'] at h0 h1; rw [h0] at h1; cases h1
        · simp [Array.getElem?_eq_none h'] at h1
      have hloose : Loose ops listed i oj := ⟨hnot, fun e he hb om hom hl => by have := hall e he hb; rcases Nat.lt_or_ge e.on listed.size with h' | h' <;> simp [h'] at this hl; rw [this] at hl; cases hl⟩
      obtain ⟨ap, cm⟩ := hfree j oj hoj hji hjun hloose
      obtain ⟨h5, k1, k2⟩ := rg_swap hc ap cm hy h3
      have hfree' : ∀ k ok, ops[k]? = some ok → k ≠ i → (listed.setIfInBounds j true).getD k true = false →
          Loose ops (listed.setIfInBounds j true) i ok → oi.apart ops ok = true ∧ OC.comm (opClass oi.op) (opClass ok.op) = true := fun k ok hk hki hun hno => by
        refine hfree k ok hk hki ?_ ⟨hno.1, fun e he hb om hom hl => ?_⟩
        rotate_left
        · by_cases hej : j = e.on
          · subst hej
            obtain rfl : oj = om := by rw [hoj] at hom; exact Option.some.inj hom
            exact hnot
          · exact hno.2 e he hb om hom (by rw [getD_set_ne true hej]; exact hl)
        by_cases hjk : j = k
        · subst hjk; exact hjun
        · rw [getD_set_ne true hjk] at hun; exact hun
      refine rg_mono hc k1 fun v' h' ⟨e1, e2⟩ => ?_
      subst e1; subst e2
      refine ⟨hdj, ih (listed.setIfInBounds j true) ⟨updo s.tm oj.dst v', h'⟩ hu hfree' (ready_mono hr (Ne.symm hji)) k2 ?_⟩
      rw [Array.setIfInBounds_comm _ _ hji]
      rw [updo_comm (Oper.apart_spec ap).2.1] at h4
      exact h4
end
/-- The first operations may be taken first, one after the other. -/
def freeA (ops : Array Oper) (listed : Array Bool) (i : Nat) : Bool :=
  match ops[i]? with
  | none => false
  | some oi => (List.range ops.size).all fun j => j == i || listed.getD j true || match ops[j]? with
      | some oj => oj.after.any (fun e => Region.binds .any e && (e.on == i || (!(listed.getD e.on true) && match ops[e.on]? with
          | some om => om.after.any (fun e2 => Region.binds .any e2 && e2.on == i)
          | none => false))) || (oi.apart ops oj && OC.comm (opClass oi.op) (opClass oj.op))
      | none => true
def lexFromA (ops : Array Oper) : Nat → Nat → Array Bool → Bool
  | 0, _, listed => (Region.ready .any ops listed).isEmpty
  | fuel + 1, k, listed => (Region.ready .any ops listed).contains k && freeA ops listed k && lexFromA ops fuel (k + 1) (listed.setIfInBounds k true)
def lexA (ops : Array Oper) : Bool := lexFromA ops ops.size 0 (Array.replicate ops.size false)
theorem freeA_spec {ops : Array Oper} {i : Nat} {oi : Oper} {listed : Array Bool} (hi : ops[i]? = some oi) (h : freeA ops listed i = true) (j : Nat) (oj : Oper)
    (hj : ops[j]? = some oj) (hne : j ≠ i) (hun : listed.getD j true = false) (hno : Loose ops listed i oj) :
    oi.apart ops oj = true ∧ OC.comm (opClass oi.op) (opClass oj.op) = true := by
  simp only [freeA, hi, List.all_eq_true, List.mem_range] at h
  have h1 := h j (Array.getElem?_eq_some_iff.1 hj).1
  simp only [hj, Bool.or_eq_true, Bool.and_eq_true, beq_iff_eq, hne, false_or, hun, Bool.false_eq_true] at h1
  rcases h1 with h1 | h1
  · obtain ⟨e, he, hb⟩ := Array.any_eq_true'.1 h1
    simp only [Bool.and_eq_true, Bool.or_eq_true, Bool.not_eq_true', beq_iff_eq] at hb
    rcases hb with ⟨b1, b2 | ⟨b2, b3⟩⟩
    · exact absurd b2 (hno.1 e he b1)
    · split at b3
      · rename_i om hom
        obtain ⟨e2, he2, hb2⟩ := Array.any_eq_true'.1 b3
        simp only [Bool.and_eq_true, beq_iff_eq] at hb2
        exact absurd hb2.2 (hno.2 e he b1 om hom b2 e2 he2 hb2.1)
      · cases b3
  · exact h1
section
variable {P : Program} (hT : TabOK P T) (hM : MTabOK P T M) (hp : DataOK p) (hc : CallOK P p) {e0 : Env} {nt : Nat} {ro_ : Option Nat} {n : Nat}
include hc
theorem wpAnyA_lex {ops : Array Oper} {K : St → Prop} : ∀ (l : List Oper) (k : Nat) (listed : Array Bool) (s : St), (∀ j, l[j]? = ops[k + j]?) →
    lexFromA ops l.length k listed = true → wpr p T M nt true ops.toList l s K → wpAnyA p T M nt ops K l.length listed s
  | [], _, _, _, _, hB, h => ⟨by simpa [lexFromA] using hB, h⟩
  | o :: l, k, listed, s, hl, hB, h => by
    have h0 : ops[k]? = some o := by simpa using (hl 0).symm
    simp only [List.length_cons, lexFromA, Bool.and_eq_true] at hB
    obtain ⟨⟨hr, hf⟩, hB'⟩ := hB
    have h : wpg p T M nt true ops.toList o s fun s' => wpr p T M nt true ops.toList l s' K := h
    rw [wpg_rg] at h
    obtain ⟨v, h1, hy, hK⟩ := rg_det hc h
    rw [putK_iff] at hK
    exact wpAnyA_first hc h0 hK.1 l.length listed s h1 (freeA_spec h0 hf) (by simpa using hr) hy
      (wpAnyA_lex l (k + 1) _ _ (fun j => by have := hl (j + 1); simpa [Nat.add_assoc, Nat.add_comm 1 j] using this) hB' hK.2)
include hT hM hp
theorem wpAnyA_sound {ops : Array Oper} {Q : Exit → Act → World → Prop} {K : St → Prop} (hK : ∀ s e a, SR e0 nt s e a → K s → Q .normal a e.w) :
    ∀ (fuel : Nat) (listed : Array Bool) {s : St} {e : Env} {a : Act}, SR e0 nt s e a → wpAnyA p T M nt ops K fuel listed s → wpAnyIn (Fw ro_) n P .any ops Q fuel listed a e.w
  | 0, listed, s, e, a, h, hw => ⟨hw.1, hK _ _ _ h hw.2⟩
  | fuel + 1, listed, s, e, a, h, hw => by
    refine ⟨fun hr => hK _ _ _ h (hw.1 hr), fun i hi => ?_⟩
    obtain ⟨hun, o, ho, hall⟩ := mem_ready.1 hi
    have h1 := hw.2 i hi o ho
    have h2 : wpg p T M nt true ops.toList o s fun s' => wpAnyA p T M nt ops K fuel (listed.setIfInBounds i true) s' := by
      rw [wpg_rg]
      exact rg_mono hc h1 fun v h' hh => putK_iff.2 hh
    have h3 := wpg_ok hT hM hp hc (ro := ro_) (n := n) h h2 (Q := Q)
    unfold GuardIn at h3
    have up : ∀ a w, Lift e0 nt (fun s' => wpAnyA p T M nt ops K fuel (listed.setIfInBounds i true) s') a w → wpAnyIn (Fw ro_) n P .any ops Q fuel (listed.setIfInBounds i true) a w := fun a w ⟨s', e', k1, k2, k3⟩ => by
      subst k2
      exact wpAnyA_sound hK fuel _ k3 k1
    unfold wpOpIn
    rw [ho]
    simp only
    split at h3
    · rename_i hwant
      rw [if_pos hwant]
      exact Oper.wpIn_mono up h3
    · rename_i hwant
      rw [if_neg hwant]
      exact ⟨h3.1, up _ _ h3.2⟩
end
end
end Go.AL
