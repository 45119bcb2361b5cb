/-
  AL: a run: the abstract machine as a program that the kernel runs, for calls whose arguments are written out.
-/
import Derived.Test.YtnnpookoencpnaaAlRfun
import Derived.Test.YtnnpookoencpnaaAlFrz
set_option linter.unusedSectionVars false
set_option linter.unusedVariables false
set_option linter.unusedSimpArgs false
namespace Go.AL
open Go
/-- The real hooks. -/
def rp (P : Program) (ρ : Nat → Bool) (n0 nt : Nat) : Pr := rPr (Does P) (realCalld P) (DoesV P) (realCallvd P) (rLoop n0 nt) (rRfun P nt) (rFin n0) ρ
/-! ### Sameness of what is written out -/
def bytesB : List UInt8 → List UInt8 → Bool
  | [], [] => true
  | a :: x, b :: y => match Nat.beq a.toNat b.toNat with
    | true => bytesB x y
    | false => false
  | _, _ => false
theorem bytesB_eq : ∀ {x y : List UInt8}, bytesB x y = true → x = y
  | [], [], _ => rfl
  | a :: x, b :: y, h => by
    unfold bytesB at h
    split at h
    · rename_i hb
      rw [bytesB_eq h, UInt8.toNat_inj.1 (Nat.eq_of_beq_eq_true hb)]
    · cases h
  | [], _ :: _, h => by simp [bytesB] at h
  | _ :: _, [], h => by simp [bytesB] at h
def intB : Int → Int → Bool
  | .ofNat a, .ofNat b => Nat.beq a b
  | .negSucc a, .negSucc b => Nat.beq a b
  | _, _ => false
theorem intB_eq : ∀ {x y : Int}, intB x y = true → x = y
  | .ofNat a, .ofNat b, h => by rw [Nat.eq_of_beq_eq_true h]
  | .negSucc a, .negSucc b, h => by rw [Nat.eq_of_beq_eq_true h]
  | .ofNat _, .negSucc _, h => by simp [intB] at h
  | .negSucc _, .ofNat _, h => by simp [intB] at h
def intsB : List Int → List Int → Bool
  | [], [] => true
  | a :: x, b :: y => match intB a b with
    | true => intsB x y
    | false => false
  | _, _ => false
theorem intsB_eq : ∀ {x y : List Int}, intsB x y = true → x = y
  | [], [], _ => rfl
  | a :: x, b :: y, h => by
    unfold intsB at h
    split at h
    · rename_i hb
      rw [intsB_eq h, intB_eq hb]
    · cases h
  | [], _ :: _, h => by simp [intsB] at h
  | _ :: _, [], h => by simp [intsB] at h
def capB : Cap → Cap → Bool
  | .any, .any => true
  | .nil, .nil => true
  | .tok i n, .tok j m => match Nat.beq i j with
    | true => Nat.beq n m
    | false => false
  | _, _ => false
theorem capB_eq {a b : Cap} (h : capB a b = true) : a = b := by
  cases a <;> cases b <;> simp only [capB] at h <;> first
    | rfl
    | cases h
    | (split at h
       · rename_i h1; rw [Nat.eq_of_beq_eq_true h, Nat.eq_of_beq_eq_true h1]
       · cases h)
mutual
def shB : Sh → Sh → Bool
  | .int a, .int b => IntKind.same a b
  | .bool, .bool => true
  | .str, .str => true
  | .li a, .li b => IntKind.same a b
  | .lg a, .lg b => shB a b
  | .rc a, .rc b => shsB a b
  | .any, .any => true
  | _, _ => false
def shsB : List Sh → List Sh → Bool
  | [], [] => true
  | a :: x, b :: y => match shB a b with
    | true => shsB x y
    | false => false
  | _, _ => false
end
mutual
theorem shB_eq : ∀ {a b : Sh}, shB a b = true → a = b
  | .int a, .int b, h => by rw [IntKind.same_eq h]
  | .bool, .bool, _ => rfl
  | .str, .str, _ => rfl
  | .li a, .li b, h => by rw [IntKind.same_eq (a := a) (b := b) (by simpa [shB] using h)]
  | .lg a, .lg b, h => by rw [shB_eq (a := a) (b := b) (by simpa [shB] using h)]
  | .rc a, .rc b, h => by rw [shsB_eq (x := a) (y := b) (by simpa [shB] using h)]
  | .any, .any, _ => rfl
  | .int _, .bool, h | .int _, .str, h | .int _, .li _, h | .int _, .lg _, h | .int _, .rc _, h | .int _, .any, h => by simp [shB] at h
  | .bool, .int _, h | .bool, .str, h | .bool, .li _, h | .bool, .lg _, h | .bool, .rc _, h | .bool, .any, h => by simp [shB] at h
  | .str, .int _, h | .str, .bool, h | .str, .li _, h | .str, .lg _, h | .str, .rc _, h | .str, .any, h => by simp [shB] at h
  | .li _, .int _, h | .li _, .bool, h | .li _, .str, h | .li _, .lg _, h | .li _, .rc _, h | .li _, .any, h => by simp [shB] at h
  | .lg _, .int _, h | .lg _, .bool, h | .lg _, .str, h | .lg _, .li _, h | .lg _, .rc _, h | .lg _, .any, h => by simp [shB] at h
  | .rc _, .int _, h | .rc _, .bool, h | .rc _, .str, h | .rc _, .li _, h | .rc _, .lg _, h | .rc _, .any, h => by simp [shB] at h
  | .any, .int _, h | .any, .bool, h | .any, .str, h | .any, .li _, h | .any, .lg _, h | .any, .rc _, h => by simp [shB] at h
theorem shsB_eq : ∀ {x y : List Sh}, shsB x y = true → x = y
  | [], [], _ => rfl
  | a :: x, b :: y, h => by
    unfold shsB at h
    split at h
    · rename_i hb
      rw [shsB_eq h, shB_eq hb]
    · cases h
  | [], _ :: _, h => by simp [shsB] at h
  | _ :: _, [], h => by simp [shsB] at h
end
mutual
def valB : AVal → AVal → Bool
  | .bool a, .bool b => match a with
    | true => b
    | false => match b with
      | true => false
      | false => true
  | .int k a, .int j b => match IntKind.same k j with
    | true => intB a b
    | false => false
  | .str a, .str b => bytesB a b
  | .ls .nl c, .ls .nl d => capB c d
  | .ls (.il k a) c, .ls (.il j b) d => match IntKind.same k j with
    | true => match capB c d with
      | true => intsB a b
      | false => false
    | false => false
  | .ls (.gl s a) c, .ls (.gl t b) d => match shB s t with
    | true => match capB c d with
      | true => valsB a b
      | false => false
    | false => false
  | .sl i g a b, .sl j f c d => match Nat.beq i j with
    | true => match Nat.beq g f with
      | true => match intB a c with
        | true => intB b d
        | false => false
      | false => false
    | false => false
  | .ptr i a, .ptr j b => match Nat.beq i j with
    | true => Nat.beq a b
    | false => false
  | .agg a, .agg b => valsB a b
  | .nilp, .nilp => true
  | .nilf, .nilf => true
  | .nili, .nili => true
  | .und, .und => true
  | .junk, .junk => true
  | _, _ => false
def valsB : List AVal → List AVal → Bool
  | [], [] => true
  | a :: x, b :: y => match valB a b with
    | true => valsB x y
    | false => false
  | _, _ => false
end
theorem val_both (a : AVal) : ∀ b, valB a b = true → a = b := by
  refine AVal.rec (motive_1 := fun a => ∀ b, valB a b = true → a = b) (motive_2 := fun q => ∀ q' c d, valB (.ls q c) (.ls q' d) = true → q = q' ∧ c = d) (motive_3 := fun l => ∀ m, valsB l m = true → l = m)
    ?_ ?_ ?_ ?_ ?_ ?_ ?_ ?_ ?_ ?_ ?_ ?_ ?_ ?_ ?_ ?_ ?_ ?_ ?_ ?_ ?_ ?_ ?_ a
  · intro x b h
    cases b with
    | bool y => cases x <;> cases y <;> first | rfl | (simp [valB] at h)
    | _ => simp [valB] at h
  · intro k n b h
    cases b <;> simp only [valB] at h <;> try (cases h; done)
    split at h
    · rename_i h1; rw [IntKind.same_eq h1, intB_eq h]
    · cases h
  · intro s b h; cases b <;> simp only [valB] at h <;> try (cases h; done)
    rw [bytesB_eq h]
  · intro q c ih b h
    cases b with
    | ls q' d => obtain ⟨e1, e2⟩ := ih q' c d h; rw [e1, e2]
    | _ => exact absurd h (by cases q <;> simp [valB])
  · intro i g x y b h
    cases b <;> simp only [valB] at h <;> try (cases h; done)
    split at h <;> try (cases h; done)
    split at h <;> try (cases h; done)
    split at h <;> try (cases h; done)
    rename_i h1 _ h2 _ h3
    rw [Nat.eq_of_beq_eq_true h1, Nat.eq_of_beq_eq_true h2, intB_eq h3, intB_eq h]
  · intro i o b h
    cases b <;> simp only [valB] at h <;> try (cases h; done)
    split at h <;> try (cases h; done)
    rename_i h1
    rw [Nat.eq_of_beq_eq_true h1, Nat.eq_of_beq_eq_true h]
  · intro i g x o b h; simp [valB] at h
  · intro xs _ b h; simp [valB] at h
  · intro b h; cases b <;> simp [valB] at h; rfl
  · intro vs ih b h
    cases b <;> simp only [valB] at h <;> try (cases h; done)
    rw [ih _ h]
  · intro vs _ b h; simp [valB] at h
  · intro f a c _ _ b h; simp [valB] at h
  · intro b h; cases b <;> simp [valB] at h; rfl
  · intro i b h; simp [valB] at h
  · intro t v _ b h; simp [valB] at h
  · intro b h; cases b <;> simp [valB] at h; rfl
  · intro b h; cases b <;> simp [valB] at h; rfl
  · intro b h; cases b <;> simp [valB] at h; rfl
  · intro q' c d h; cases q' <;> simp only [valB] at h <;> try (cases h; done)
    exact ⟨rfl, capB_eq h⟩
  · intro k l q' c d h; cases q' <;> simp only [valB] at h <;> try (cases h; done)
    split at h <;> try (cases h; done)
    split at h <;> try (cases h; done)
    rename_i h1 _ h2
    rw [IntKind.same_eq h1, intsB_eq h]
    exact ⟨rfl, capB_eq h2⟩
  · intro s l ih q' c d h; cases q' <;> simp only [valB] at h <;> try (cases h; done)
    split at h <;> try (cases h; done)
    split at h <;> try (cases h; done)
    rename_i h1 _ h2
    rw [shB_eq h1, ih _ h]
    exact ⟨rfl, capB_eq h2⟩
  · intro m h; cases m <;> simp [valsB] at h; rfl
  · intro v l ih1 ih2 m h
    cases m <;> simp only [valsB] at h <;> try (cases h; done)
    split at h <;> try (cases h; done)
    rename_i h1
    rw [ih1 _ h1, ih2 _ h]
def lxB : LX → LX → Bool := fun q r => valB (.ls q .any) (.ls r .any)
def objB : AObj → AObj → Bool
  | .box a, .box b => valsB a b
  | .rw g q, .rw f r => match Nat.beq g f with
    | true => lxB q r
    | false => false
  | .tok n, .tok m => Nat.beq n m
  | .dead n, .dead m => Nat.beq n m
  | _, _ => false
theorem objB_eq {a b : AObj} (h : objB a b = true) : a = b := by
  cases a <;> cases b <;> simp only [objB] at h <;> try (cases h; done)
  · have := val_both (.agg _) (.agg _) (by simpa [valB] using h)
    cases this; rfl
  · split at h <;> try (cases h; done)
    rename_i h1
    have := val_both _ _ h
    cases this
    rw [Nat.eq_of_beq_eq_true h1]
  · rw [Nat.eq_of_beq_eq_true h]
  · rw [Nat.eq_of_beq_eq_true h]
def heapB : Heap → Heap → Bool
  | [], [] => true
  | a :: x, b :: y => match objB a b with
    | true => heapB x y
    | false => false
  | _, _ => false
theorem heapB_eq : ∀ {x y : Heap}, heapB x y = true → x = y
  | [], [], _ => rfl
  | a :: x, b :: y, h => by
    unfold heapB at h
    split at h
    · rename_i hb
      rw [heapB_eq h, objB_eq hb]
    · cases h
  | [], _ :: _, h => by simp [heapB] at h
  | _ :: _, [], h => by simp [heapB] at h
/-! ### The run -/
def leB (a b : Int) : Bool := match b - a with
  | .ofNat _ => true
  | .negSucc _ => false
theorem leB_le {a b : Int} (h : leB a b = true) : a ≤ b := by
  unfold leB at h
  split at h
  · rename_i n hn; have : (Int.ofNat n : Int) = (n : Int) := rfl; omega
  · cases h
def ndB : Need → Bool
  | .idx i n => leB 0 i && leB (i + 1) n
  | .bnd a b n => leB 0 a && (leB a b && leB b n)
  | .bnd3 a b d n => leB 0 a && (leB a b && (leB b d && leB d n))
  | .rooml lo n b => (leB lo 0 && leB 0 lo) && (leB 0 n && (leB (n * b) 140737488355328 && leB n 140737488355328))
  | .appn lo hi n m b => (leB lo 0 && leB 0 lo) && ((leB hi n && leB n hi) && (leB 0 m && (leB (m * b) 140737488355328 && leB m 140737488355328)))
  | .bnd4 a b n => leB 0 a && ((leB a b && leB b a) && leB b n)
  | .nz n => !(leB n 0 && leB 0 n)
  | .ge0 n => leB 0 n
  | .room n b => leB 0 n && (leB (n * b) 140737488355328 && leB n 140737488355328)
  | .srm n => leB n 9223372036854775807
  | .ne n => leB 1 n
theorem leB_iff {a b : Int} : leB a b = true ↔ a ≤ b := ⟨leB_le, fun h => by
  unfold leB
  obtain ⟨k, hk⟩ := Int.eq_ofNat_of_zero_le (show 0 ≤ b - a by omega)
  rw [hk]⟩
theorem ndB_ok {q : Need} (h : ndB q = true) : rNd q := by
  cases q <;> simp only [ndB, Bool.and_eq_true, leB_iff, Bool.not_eq_true', Bool.and_eq_false_iff] at h <;> simp only [rNd]
  all_goals first
    | omega
    | (obtain ⟨h1, h2, h3⟩ := h; exact ⟨by omega, by omega, by omega, h3.1, h3.2⟩)
    | (obtain ⟨h1, h2, h3, h4⟩ := h; exact ⟨by omega, by omega, by omega, h4.1, h4.2⟩)
    | (obtain ⟨h1, h2, h3⟩ := h; exact ⟨by omega, h2, h3⟩)
    | (obtain ⟨h1, h2, h3, h4⟩ := h; exact ⟨by omega, by omega, h3, h4⟩)
    | (intro e; subst e; simp [← Bool.not_eq_true, leB_iff] at h)
/-- What is run. -/
structure Ex where
  F : FuncId → List AVal → Heap → Option (AVal × Heap)
  V : AVal → List AVal → Heap → Option (AVal × Heap)
  C : Nat → Nat → Code → St → Option (Exit × St)
def putE (nt : Nat) (s : St) (d : Option Nat) (v : AVal) (h : Heap) : Option St := match d with
  | none => some ⟨s.tm, h⟩
  | some d => match Nat.blt d nt with
    | true => some ⟨upd s.tm d v, h⟩
    | false => none
theorem putE_ok {nt : Nat} {s s' : St} {d : Option Nat} {v : AVal} {h : Heap} {K : St → Prop} (he : putE nt s d v h = some s') (hK : K s') : putK nt s d v h K := by
  cases d with
  | none => simp only [putE, Option.some.injEq] at he; subst he; exact hK
  | some d =>
    simp only [putE] at he
    simp only [putK]
    split at he
    · rename_i hb
      simp only [Option.some.injEq] at he
      subst he
      rw [hb]
      exact hK
    · cases he
/-- A call in a drawn region leaves the heap. -/
def callE (F : List AVal → Heap → Option (AVal × Heap)) (dr pu : Bool) (args : List AVal) (h : Heap) : Option (AVal × Heap) := match dr with
  | false => F args h
  | true => match pu with
    | true => match lows 0 args with
      | true => match F args [] with
        | some (r, []) => match low 0 r with
          | true => some (r, h)
          | false => none
        | _ => none
      | false => match F args h with
        | some (r, h') => match heapB h' h with
          | true => some (r, h)
          | false => none
        | none => none
    | false => match F args h with
      | some (r, h') => match heapB h' h with
        | true => some (r, h)
        | false => none
      | none => none
section
variable (P : Program) (T : Tab) (M : MTab) (ρ : Nat → Bool)
def afterE (nt : Nat) (s : St) (d : Option Nat) : Option (AVal × Heap) → Option St
  | some (v, h) => putE nt s d v h
  | none => none
def aopE (p : Pr) (nt : Nat) (s : St) (o : Oper) : Option St := match aop p T s.tm s.h o.op with
  | .ok v h => putE nt s o.dst v h
  | .need q v h => match ndB q with
    | true => putE nt s o.dst v h
    | false => none
  | .stuck => none
def exo (ex : Ex) (p : Pr) (nt : Nat) (dr : Bool) (s : St) (o : Oper) : Option St := match o.op with
  | .call c => match c.callee with
    | .value f => match ev s.tm f with
      | .clo (.func f) first caps => afterE nt s o.dst (callE (ex.F f) dr true (first ++ c.args.toList.map (ev s.tm) ++ caps) s.h)
      | v => afterE nt s o.dst (callE (ex.V v) dr false (c.args.toList.map (ev s.tm)) s.h)
    | .invoke r name => match recvA p T M s.h (ev s.tm r) name with
      | some (f, x) => afterE nt s o.dst (callE (ex.F f) dr true (x :: c.args.toList.map (ev s.tm)) s.h)
      | none => none
    | .builtin _ => aopE T p nt s o
  | _ => aopE T p nt s o
def exg (ex : Ex) (p : Pr) (nt : Nat) (dr : Bool) (all : List Oper) (o : Oper) (s : St) : Option St := match o.guard with
  | none => exo T M ex p nt dr s o
  | some (j, b) => match (all[j]?).bind (·.dst) with
    | none => none
    | some d => match s.tm d with
      | .bool c => match c with
        | true => match b with
          | true => exo T M ex p nt dr ⟨upd s.tm d (.bool true), s.h⟩ o
          | false => putE nt ⟨upd s.tm d (.bool true), s.h⟩ o.dst .und s.h
        | false => match b with
          | false => exo T M ex p nt dr ⟨upd s.tm d (.bool false), s.h⟩ o
          | true => putE nt ⟨upd s.tm d (.bool false), s.h⟩ o.dst .und s.h
      | .und => putE nt s o.dst .und s.h
      | _ => none
def exr (ex : Ex) (p : Pr) (nt : Nat) (dr : Bool) (all : List Oper) : List Oper → St → Option St
  | [], s => some s
  | o :: rest, s => match exg T M ex p nt dr all o s with
    | some s' => exr ex p nt dr all rest s'
    | none => none
def tabE (tm : Nat → AVal) : Nat → List (Nat × AVal)
  | 0 => []
  | n + 1 => (n, tm n) :: tabE tm n
def okL (L : LoopA) (n : Nat) : Bool := Nat.beq n L.ps.size && (L.ps.toList.all (fun t => Nat.blt t L.nt) && (lexAll L.assign && lexAll L.body && (noRange L.assign && noRange L.body)))
def exC (ex : Ex) (n0 nt : Nat) : Code → St → Option (Exit × St)
  | .skip, s => some (.normal, s)
  | .label _, s => some (.normal, s)
  | .region _ ops dr, s => match exr T M ex (rp P ρ n0 nt) nt dr ops.toList ops.toList s with
    | some s' => some (.normal, s')
    | none => none
  | .seq a b, s => match exC ex n0 nt a s with
    | some (.normal, s') => exC ex n0 nt b s'
    | r => r
  | .cond c a b, s => match ev s.tm c with
    | .bool t => match t with
      | true => exC ex n0 nt a s
      | false => exC ex n0 nt b s
    | _ => none
  | .block id b, s => match exC ex n0 nt b s with
    | some (.exit id', s') => match Nat.beq id' id with
      | true => some (.normal, s')
      | false => some (.exit id', s')
    | r => r
  | .loop b, s => match ex.C n0 nt b s with
    | some (.normal, s') => ex.C n0 nt (.loop b) s'
    | r => r
  | .rangeFunc f ps assign body, s => match ev s.tm f with
    | .clo (.func fid) first caps => match ex.F fid (first ++ [.yld s.h.length] ++ caps) (s.h ++ [.loop ⟨.ready, none, ps, assign, body, nt, tabE s.tm nt⟩]) with
      | some (_, h') => match h'[s.h.length]? with
        | some (.loop L) => match L.st with
          | .busy => none
          | _ => match L.pend with
            | none => some (.normal, ⟨tmL (tabE s.tm nt), h'.set s.h.length (.dead 0)⟩)
            | some .ret => some (.ret, ⟨tmL (tabE s.tm nt), h'.set s.h.length (.dead 0)⟩)
            | some (.exit id) => some (.exit id, ⟨tmL (tabE s.tm nt), h'.set s.h.length (.dead 0)⟩)
            | _ => none
        | _ => none
      | none => none
    | _ => none
  | .exit id, s => some (.exit id, s)
  | .ret, s => some (.ret, s)
  | _, _ => none
def dropE (n0 : Nat) (r : AVal) (h : Heap) : AVal × Heap := match low n0 r with
  | true => match lowOs n0 (h.take n0) with
    | true => (r, h.take n0)
    | false => (r, h)
  | false => (r, h)
/-- The row that a result lies in. -/
def rowOf : AVal → Option (Nat × Nat)
  | .sl i g _ _ => some (i, g)
  | .tup (.sl i g _ _ :: _) => some (i, g)
  | _ => none
/-- The end: a row that was made here is told as a list; rubbish is forgotten. -/
def endE (n0 : Nat) (r : AVal) (h : Heap) : AVal × Heap := match rowOf r with
  | some (i, 0) => match Nat.ble n0 i with
    | true => match h[i]? with
      | some (.rw 0 q) => match q.pureB with
        | true => dropE n0 (rz i 0 q r) (h.set i (.dead 0))
        | false => dropE n0 r h
      | _ => dropE n0 r h
    | false => dropE n0 r h
  | _ => dropE n0 r h
def exF (ex : Ex) (f : FuncId) (args : List AVal) (h : Heap) : Option (AVal × Heap) := match P.funcs[f]? with
  | some fn => match okB fn args.length with
    | true => match ex.C h.length fn.ntmps (fn.body.getD .skip) ⟨args0 args, h⟩ with
      | some (x, s') => match x with
        | .normal | .ret => match resAs (rp P ρ h.length fn.ntmps) T s' fn.results.toList with
          | some vs => some (endE h.length (one1 vs) s'.h)
          | none => none
        | _ => none
      | none => none
    | false => none
  | none => none
def exV (ex : Ex) (v : AVal) (args : List AVal) (h : Heap) : Option (AVal × Heap) := match v with
  | .yld i => match h[i]? with
    | some (.loop L) => match okL L args.length with
      | true => match ex.C h.length L.nt L.assign ⟨tmY L.ps.toList args (tmL L.l), h⟩ with
        | some (.normal, s1) => match s1.h[i]? with
          | some (.loop L1) => match L1.st with
            | .ready => match ex.C h.length L.nt L.body ⟨s1.tm, s1.h.set i (.loop ⟨.busy, L1.pend, L1.ps, L1.assign, L1.body, L1.nt, L1.l⟩)⟩ with
              | some (x, s3) => match s3.h[i]? with
                | some (.loop L3) => match x with
                  | .normal => some (.bool true, s3.h.set i (.loop ⟨.ready, none, L3.ps, L3.assign, L3.body, L3.nt, L3.l⟩))
                  | .ret => some (.bool false, s3.h.set i (.loop ⟨.done, some .ret, L3.ps, L3.assign, L3.body, L3.nt, L3.l⟩))
                  | .exit id => some (.bool false, s3.h.set i (.loop ⟨.done, some (.exit id), L3.ps, L3.assign, L3.body, L3.nt, L3.l⟩))
                  | _ => none
                | _ => none
              | none => none
            | _ => none
          | _ => none
        | _ => none
      | false => none
    | _ => none
  | _ => none
def ex : Nat → Ex
  | 0 => ⟨fun _ _ _ => none, fun _ _ _ => none, fun _ _ _ _ => none⟩
  | n + 1 => ⟨exF P T ρ (ex n), exV (ex n), exC P T M ρ (ex n)⟩
/-- What a run says. -/
structure ExOK (x : Ex) : Prop where
  F : ∀ f args h r h', x.F f args h = some (r, h') → Does P f args h (Is r h')
  V : ∀ v args h r h', x.V v args h = some (r, h') → DoesV P v args h (Is r h')
  C : ∀ n0 nt c s e s', x.C n0 nt c s = some (e, s') → ∀ Q : Exit → St → Prop, Q e s' → wpc (rp P ρ n0 nt) T M nt c s Q
end
section
variable {P : Program} {T : Tab} {M : MTab} {ρ : Nat → Bool}
theorem aopE_ok {p : Pr} (hp : p.nd = rNd) {nt : Nat} {s s' : St} {o : Oper} {K : St → Prop} (he : aopE T p nt s o = some s') (hK : K s') : match aop p T s.tm s.h o.op with
    | .ok v h => putK nt s o.dst v h K
    | .need q v h => p.nd q ∧ putK nt s o.dst v h K
    | .stuck => False := by
  unfold aopE at he
  split at he
  · exact putE_ok he hK
  · split at he
    · rename_i hb; exact ⟨by rw [hp]; exact ndB_ok hb, putE_ok he hK⟩
    · cases he
  · cases he
theorem afterE_ok {nt : Nat} {s s' : St} {d : Option Nat} {q : Option (AVal × Heap)} {K : St → Prop} (he : afterE nt s d q = some s') (hK : K s') : ∃ v h, q = some (v, h) ∧ putK nt s d v h K := by
  unfold afterE at he
  split at he
  · exact ⟨_, _, rfl, putE_ok he hK⟩
  · cases he
theorem callE_false {F : List AVal → Heap → Option (AVal × Heap)} {pu : Bool} {args : List AVal} {h : Heap} : callE F false pu args h = F args h := rfl
theorem callE_true {f : FuncId} {F : List AVal → Heap → Option (AVal × Heap)} (hF : ∀ args h r h', F args h = some (r, h') → Does P f args h (Is r h')) {pu : Bool} {args : List AVal} {h h' : Heap} {r : AVal}
    (he : callE F true pu args h = some (r, h')) : h' = h ∧ Does P f args h (Is r h) := by
  have gen : ∀ {r : AVal} {h' : Heap}, (match F args h with
      | some (r, h') => match heapB h' h with
        | true => some (r, h)
        | false => none
      | none => none) = some (r, h') → h' = h ∧ Does P f args h (Is r h) := fun he => by
    split at he
    · rename_i e1
      split at he
      · rename_i hb
        cases he
        have := hF _ _ _ _ e1
        rw [heapB_eq hb] at this
        exact ⟨rfl, this⟩
      · cases he
    · cases he
  unfold callE at he
  simp only at he
  split at he
  · split at he
    · rename_i hl
      split at he
      · rename_i e1
        split at he
        · rename_i hlr
          cases he
          exact ⟨rfl, pure0 (hF _ _ _ _ e1) hl hlr h⟩
        · cases he
      · cases he
    · exact gen he
  · exact gen he
theorem callV_true {v : AVal} {F : List AVal → Heap → Option (AVal × Heap)} (hF : ∀ args h r h', F args h = some (r, h') → DoesV P v args h (Is r h')) {args : List AVal} {h h' : Heap} {r : AVal}
    (he : callE F true false args h = some (r, h')) : h' = h ∧ DoesV P v args h (Is r h) := by
  unfold callE at he
  simp only at he
  split at he
  · rename_i e1
    split at he
    · rename_i hb
      cases he
      have := hF _ _ _ _ e1
      rw [heapB_eq hb] at this
      exact ⟨rfl, this⟩
    · cases he
  · cases he
theorem exo_ok {x : Ex} (hx : ExOK P T M ρ x) {n0 nt : Nat} {dr : Bool} {s s' : St} {o : Oper} {K : St → Prop} (he : exo T M x (rp P ρ n0 nt) nt dr s o = some s') (hK : K s') : wpo (rp P ρ n0 nt) T M nt dr s o K := by
  unfold exo at he
  unfold wpo
  cases hop : o.op with
  | call c =>
    rw [hop] at he
    simp only at he ⊢
    cases hc : c.callee with
    | value f =>
      rw [hc] at he
      simp only at he ⊢
      split at he
      · rename_i f' first caps hev
        obtain ⟨v, h, e1, e2⟩ := afterE_ok he hK
        rw [hev]
        cases dr with
        | false =>
          show Does P f' (first ++ c.args.toList.map (ev s.tm) ++ caps) s.h fun v h => putK nt s o.dst v h K
          exact (hx.F _ _ _ _ _ e1).mono fun r' h' ⟨a, b⟩ => by subst a; subst b; exact e2
        | true =>
          obtain ⟨a, b⟩ := callE_true (hx.F f') e1
          subst a
          exact ⟨v, b, e2⟩
      · rename_i hne
        obtain ⟨v, h, e1, e2⟩ := afterE_ok he hK
        split
        · rename_i hev; exact (hne _ _ _ hev).elim
        · cases dr with
          | false =>
            show DoesV P _ (c.args.toList.map (ev s.tm)) s.h fun v h => putK nt s o.dst v h K
            exact (hx.V _ _ _ _ _ e1).mono fun r' h' ⟨a, b⟩ => by subst a; subst b; exact e2
          | true =>
            obtain ⟨a, b⟩ := callV_true (hx.V _) e1
            subst a
            exact ⟨v, b, e2⟩
    | invoke r name =>
      rw [hc] at he
      simp only at he ⊢
      split at he
      · rename_i f x hr
        obtain ⟨v, h, e1, e2⟩ := afterE_ok he hK
        rw [hr]
        cases dr with
        | false =>
          show Does P f (x :: c.args.toList.map (ev s.tm)) s.h fun v h => putK nt s o.dst v h K
          exact (hx.F _ _ _ _ _ e1).mono fun r' h' ⟨a, b⟩ => by subst a; subst b; exact e2
        | true =>
          obtain ⟨a, b⟩ := callE_true (hx.F f) e1
          subst a
          exact ⟨v, b, e2⟩
      · cases he
    | builtin b =>
      rw [hc] at he
      simp only at he ⊢
      have := aopE_ok (rfl : (rp P ρ n0 nt).nd = rNd) he hK
      rw [hop] at this
      exact this
  | _ =>
    rw [hop] at he
    simp only at he ⊢
    have := aopE_ok (rfl : (rp P ρ n0 nt).nd = rNd) he hK
    rw [hop] at this
    exact this
theorem exg_ok {x : Ex} (hx : ExOK P T M ρ x) {n0 nt : Nat} {dr : Bool} {all : List Oper} {s s' : St} {o : Oper} {K : St → Prop} (he : exg T M x (rp P ρ n0 nt) nt dr all o s = some s') (hK : K s') : wpg (rp P ρ n0 nt) T M nt dr all o s K := by
  unfold exg at he
  unfold wpg
  cases hgu : o.guard with
  | none => rw [hgu] at he; exact exo_ok hx he hK
  | some q =>
    obtain ⟨j, b⟩ := q
    rw [hgu] at he
    simp only at he ⊢
    cases hd : (all[j]?).bind (·.dst) with
    | none => rw [hd] at he; cases he
    | some d =>
      rw [hd] at he
      simp only at he ⊢
      cases hv : s.tm d with
      | bool c =>
        rw [hv] at he
        cases c <;> cases b <;> first | exact exo_ok hx he hK | exact putE_ok he hK
      | und => rw [hv] at he; exact putE_ok he hK
      | _ => rw [hv] at he; cases he
theorem exr_ok {x : Ex} (hx : ExOK P T M ρ x) {n0 nt : Nat} {dr : Bool} {all : List Oper} : ∀ {l : List Oper} {s s' : St} {K : St → Prop}, exr T M x (rp P ρ n0 nt) nt dr all l s = some s' → K s' → wpr (rp P ρ n0 nt) T M nt dr all l s K
  | [], s, s', K, he, hK => by
    unfold exr at he
    cases he
    exact hK
  | o :: rest, s, s', K, he, hK => by
    unfold exr at he
    unfold wpr
    split at he
    · rename_i s1 e1
      exact exg_ok hx e1 (exr_ok hx he hK)
    · cases he
theorem tabE_get (tm : Nat → AVal) : ∀ (n t : Nat), tmL (tabE tm n) t = tm t ∨ tmL (tabE tm n) t = .junk
  | 0, t => .inr rfl
  | n + 1, t => by
    unfold tabE tmL
    split
    · rename_i h; rw [Nat.eq_of_beq_eq_true h]; exact .inl rfl
    · exact tabE_get tm n t
theorem exC_ok (n : Nat) (ih : ∀ k, k ≤ n → ExOK P T M ρ (ex P T M ρ k)) (n0 nt : Nat) : ∀ (c : Code) (s : St) (e : Exit) (s' : St), exC P T M ρ (ex P T M ρ n) n0 nt c s = some (e, s') → ∀ Q : Exit → St → Prop, Q e s' → wpc (rp P ρ n0 nt) T M nt c s Q
  | .skip, s, e, s', he, Q, hQ => by simp only [exC, Option.some.injEq, Prod.mk.injEq] at he; obtain ⟨rfl, rfl⟩ := he; exact hQ
  | .label _, s, e, s', he, Q, hQ => by simp only [exC, Option.some.injEq, Prod.mk.injEq] at he; obtain ⟨rfl, rfl⟩ := he; exact hQ
  | .exit _, s, e, s', he, Q, hQ => by simp only [exC, Option.some.injEq, Prod.mk.injEq] at he; obtain ⟨rfl, rfl⟩ := he; exact hQ
  | .ret, s, e, s', he, Q, hQ => by simp only [exC, Option.some.injEq, Prod.mk.injEq] at he; obtain ⟨rfl, rfl⟩ := he; exact hQ
  | .region _ ops dr, s, e, s', he, Q, hQ => by
    simp only [exC] at he
    split at he
    · rename_i s1 e1
      simp only [Option.some.injEq, Prod.mk.injEq] at he
      obtain ⟨rfl, rfl⟩ := he
      simp only [wpc]
      exact exr_ok (ih n (Nat.le_refl _)) e1 hQ
    · cases he
  | .seq a b, s, e, s', he, Q, hQ => by
    simp only [exC] at he
    simp only [wpc]
    split at he
    · rename_i s1 e1
      exact exC_ok n ih n0 nt a s _ _ e1 _ (exC_ok n ih n0 nt b s1 e s' he Q hQ)
    · rename_i hne
      refine exC_ok n ih n0 nt a s _ _ he _ ?_
      cases e with
      | normal => exact (hne _ he).elim
      | _ => exact hQ
  | .cond c a b, s, e, s', he, Q, hQ => by
    simp only [exC] at he
    simp only [wpc]
    split at he
    · rename_i t e1
      rw [e1]
      cases t
      · exact exC_ok n ih n0 nt b s e s' he Q hQ
      · exact exC_ok n ih n0 nt a s e s' he Q hQ
    · cases he
  | .block id b, s, e, s', he, Q, hQ => by
    simp only [exC] at he
    simp only [wpc]
    split at he
    · rename_i id' s1 e1
      refine exC_ok n ih n0 nt b s _ _ e1 _ ?_
      simp only
      split at he
      · rename_i hb
        rw [hb]
        simp only [Option.some.injEq, Prod.mk.injEq] at he
        obtain ⟨rfl, rfl⟩ := he
        exact hQ
      · rename_i hb
        rw [hb]
        simp only [Option.some.injEq, Prod.mk.injEq] at he
        obtain ⟨rfl, rfl⟩ := he
        exact hQ
    · rename_i hne
      refine exC_ok n ih n0 nt b s _ _ he _ ?_
      cases e with
      | exit id' => exact (hne _ _ he).elim
      | _ => exact hQ
  | .loop b, s, e, s', he, Q, hQ => by
    show rLoop n0 nt (wpc (rp P ρ n0 nt) T M nt b) s Q
    refine ⟨fun k s => k ≤ n + 1 ∧ ∃ x s', (ex P T M ρ k).C n0 nt (.loop b) s = some (x, s') ∧ Q x s', ⟨n + 1, s, fun e0 e a _ h => ⟨e, rfl, h⟩, Nat.le_refl _, e, s', he, hQ⟩, fun k s ⟨hk, x, s1, h1, h2⟩ => ?_⟩
    cases k with
    | zero => cases h1
    | succ k =>
      have h1 : exC P T M ρ (ex P T M ρ k) n0 nt (.loop b) s = some (x, s1) := h1
      simp only [exC] at h1
      split at h1
      · rename_i s2 e1
        exact (ih k (by omega)).C n0 nt b s _ _ e1 _ ⟨k, s2, by omega, fun e0 e a _ h => ⟨e, rfl, h⟩, by omega, x, s1, h1, h2⟩
      · rename_i hne
        refine (ih k (by omega)).C n0 nt b s _ _ h1 _ ?_
        cases x with
        | normal => exact (hne _ h1).elim
        | _ => exact h2
  | .rangeFunc f ps assign body, s, e, s', he, Q, hQ => by
    show rRfun P nt (ev s.tm f) ps assign body s Q
    simp only [exC] at he
    split at he
    · rename_i fid first caps hev
      split at he
      · rename_i r h' e1
        refine ⟨fid, first, caps, tabE s.tm nt, hev, fun t e c _ _ hv => ?_, ((ih n (Nat.le_refl _)).F _ _ _ _ _ e1).mono fun r1 h1 ⟨a, b⟩ => ?_⟩
        · rcases tabE_get s.tm nt t with h | h
          · rw [h]; exact hv
          · rw [h]; exact .pure _ _ (.junk _)
        · subst b
          unfold rAfter
          split at he
          · rename_i L hL
            rw [hL]
            have key : ∀ {st}, L.st = st → st ≠ .busy → (match L.pend with
              | none => some (Exit.normal, (⟨tmL (tabE s.tm nt), h1.set s.h.length (.dead 0)⟩ : St))
              | some .ret => some (.ret, ⟨tmL (tabE s.tm nt), h1.set s.h.length (.dead 0)⟩)
              | some (.exit id) => some (.exit id, ⟨tmL (tabE s.tm nt), h1.set s.h.length (.dead 0)⟩)
              | _ => none) = some (e, s') → L.st ≠ .busy ∧ (match L.pend with
    | none => Q .normal ⟨tmL (tabE s.tm nt), h1.set s.h.length (.dead 0)⟩
    | some .ret => Q .ret ⟨tmL (tabE s.tm nt), h1.set s.h.length (.dead 0)⟩
    | some (.exit id) => Q (.exit id) ⟨tmL (tabE s.tm nt), h1.set s.h.length (.dead 0)⟩
    | _ => False) := fun hst hnb he => by
              refine ⟨by rw [hst]; exact hnb, ?_⟩
              split at he
              · rename_i hp; simp only [Option.some.injEq, Prod.mk.injEq] at he; obtain ⟨rfl, rfl⟩ := he; exact hQ
              · rename_i hp; simp only [Option.some.injEq, Prod.mk.injEq] at he; obtain ⟨rfl, rfl⟩ := he; exact hQ
              · rename_i hp; simp only [Option.some.injEq, Prod.mk.injEq] at he; obtain ⟨rfl, rfl⟩ := he; exact hQ
              · cases he
            cases hst : L.st with
            | busy => rw [hst] at he; cases he
            | ready => rw [hst] at he; exact key hst (by intro h; cases h) he
            | done => rw [hst] at he; exact key hst (by intro h; cases h) he
            | exhausted => rw [hst] at he; exact key hst (by intro h; cases h) he
          · cases he
      · cases he
    · cases he
  | .goto _, s, e, s', he, Q, hQ => by simp [exC] at he
theorem dropE_ok (n0 : Nat) (r : AVal) (h : Heap) : rFin n0 (Is (dropE n0 r h).1 (dropE n0 r h).2) r h := by
  unfold dropE
  split
  · rename_i h1
    split
    · rename_i h2
      exact fin_low (.refl h r) h1 h2 ⟨rfl, rfl⟩
    · exact fin_same ⟨rfl, rfl⟩
  · exact fin_same ⟨rfl, rfl⟩
theorem endE_ok (n0 : Nat) (r : AVal) (h : Heap) : rFin n0 (Is (endE n0 r h).1 (endE n0 r h).2) r h := by
  unfold endE
  split
  · split
    · split
      · rename_i q hq
        split
        · rename_i hp
          exact fin_rz _ 0 q hq hp (dropE_ok _ _ _)
        · exact dropE_ok _ _ _
      · exact dropE_ok _ _ _
    · exact dropE_ok _ _ _
  · exact dropE_ok _ _ _
theorem ex_ok (hP : ProgOK P T M) (n : Nat) : ExOK P T M ρ (ex P T M ρ n) := by
  induction n using Nat.strongRecOn with
  | _ n ih =>
    cases n with
    | zero => exact ⟨fun _ _ _ _ _ h => (nomatch h), fun _ _ _ _ _ h => (nomatch h), fun _ _ _ _ _ _ h => (nomatch h)⟩
    | succ n =>
      have ihn := ih n (Nat.lt_succ_self n)
      refine ⟨fun f args h r h' he => ?_, fun v args h r h' he => ?_, fun n0 nt c s e s' he => exC_ok n (fun k hk => ih k (Nat.lt_succ_of_le hk)) n0 nt c s e s' he⟩
      · have he : exF P T ρ (ex P T M ρ n) f args h = some (r, h') := he
        unfold exF at he
        split at he
        · rename_i fn hf
          split at he
          · rename_i hB
            have hk := hooks_real P T M h.length fn.ntmps ρ
            unfold okB at hB
            split at hB <;> try (cases hB; done)
            rename_i c hb
            split at hB <;> try (cases hB; done)
            rename_i hn
            split at hB <;> try (cases hB; done)
            rename_i hl
            rw [hb] at he
            refine spec_of hP.tab hP.mtab hP.mixed (p := rp P ρ h.length fn.ntmps) hk hf hb hn hl (Nat.le_of_ble_eq_true hB) ?_
            split at he
            · rename_i x s' e1
              refine ihn.C _ _ _ _ _ _ e1 _ ?_
              have key : (match resAs (rp P ρ h.length fn.ntmps) T s' fn.results.toList with
                | some vs => some (endE h.length (one1 vs) s'.h)
                | none => none) = some (r, h') → (match resAs (rp P ρ h.length fn.ntmps) T s' fn.results.toList with
                | some vs => rFin h.length (Is r h') (one1 vs) s'.h
                | none => False) := fun he => by
                split at he
                · rename_i vs hvs
                  have := endE_ok h.length (one1 vs) s'.h
                  simp only [Option.some.injEq] at he
                  rw [he] at this
                  exact this
                · cases he
              cases x with
              | normal => exact key he
              | ret => exact key he
              | _ => cases he
            · cases he
          · cases he
        · cases he
      · have he : exV (ex P T M ρ n) v args h = some (r, h') := he
        cases v with
        | yld i =>
          simp only [exV] at he
          split at he <;> try (cases he; done)
          rename_i L hL
          split at he <;> try (cases he; done)
          rename_i hok
          simp only [okL, Bool.and_eq_true] at hok
          split at he <;> try (cases he; done)
          rename_i s1 e1
          split at he <;> try (cases he; done)
          rename_i L1 hL1
          split at he <;> try (cases he; done)
          rename_i hst
          split at he <;> try (cases he; done)
          rename_i x s3 e3
          split at he <;> try (cases he; done)
          rename_i L3 hL3
          refine yld_does hP (hooks_real P T M h.length L.nt ρ) hL (Nat.eq_of_beq_eq_true hok.1) hok.2.1 hok.2.2.1.1 hok.2.2.1.2 hok.2.2.2.1 hok.2.2.2.2 (ihn.C _ _ _ _ _ _ e1 _ ?_)
          unfold rBegin
          simp only
          rw [hL1]
          refine ⟨hst, ihn.C _ _ _ _ _ _ e3 _ ?_⟩
          unfold rRound
          rw [hL3]
          cases x <;> simp only [Option.some.injEq, Prod.mk.injEq] at he <;> first
            | (obtain ⟨rfl, rfl⟩ := he; exact ⟨rfl, rfl⟩)
            | cases he
        | _ => cases he
/-- A RUN from nothing, its rubbish forgotten. -/
theorem ex_does (hP : ProgOK P T M) (n : Nat) {f : FuncId} {args : List AVal} {h : Heap} {r : AVal} {h' : Heap} (he : (ex P T M ρ n).F f args h = some (r, h')) : Does P f args h (Is r h') := (ex_ok hP n).F _ _ _ _ _ he
end
end Go.AL
