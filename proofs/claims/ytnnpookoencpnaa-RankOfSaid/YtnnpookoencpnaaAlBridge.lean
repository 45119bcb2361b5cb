/-
  AL: from a contract to a call in a world that came in: arguments told off the cells; what is left behind.
-/
import Derived.Test.YtnnpookoencpnaaAlArgs
import Derived.Below
namespace Go.AL
open Go Go.RowKit
/-- A world that came in: nothing of it is ever written. -/
def inEnv (W : World) : Env := ⟨W, fun _ => none, [], cellsSize W⟩
theorem inEnv_good (W : World) : Good (inEnv W) := ⟨fun i o h => by simp [inEnv] at h, fun i j oi oj b h => by simp [inEnv] at h, fun b => Nat.le_refl _⟩
theorem bridge {P : Program} {f : FuncId} {args : List AVal} {cs : Array Value} {W : World} {v : AVal} (hd : Does P f args [] (Is v [])) (hlen : args.length = cs.size)
    (ha : ∀ i, i < args.length → PVR W (cellsSize W) (args.getD i .junk) (cs.getD i undef)) {R : Value → World → Prop} (hv : ∀ e' c, Good e' → e'.h = [] → VR e' v c → Below W.heap.size W e'.w → R c e'.w) :
    Calls P f cs W fun e W' => ∃ c, e = .returned c ∧ R c W' := by
  have h1 := hd.2 (inEnv W) cs (inEnv_good W) rfl ⟨hlen, fun i hi => .pure _ _ (ha i hi)⟩
  refine Calls.mono h1 fun en W' hp => ?_
  cases en with
  | returned c =>
    obtain ⟨r, e', ⟨e1, e2⟩, hw, hg, hvr, hu, hx⟩ := hp
    subst e1
    subst hw
    refine ⟨c, rfl, hv e' c hg e2 hvr ⟨hu.os, hu.tape, hu.output, hu.size, fun k hk => (hu.frame k hk ?_).1⟩⟩
    rintro ⟨i, o, h, _⟩
    simp [inEnv] at h
  | _ => exact hp.elim
/-- Of a law: true, and nothing of what came in has turned. -/
theorem bridge_law {P : Program} {f : FuncId} {args : List AVal} {cs : Array Value} {W : World} (hd : Does P f args [] (Is (.bool true) [])) (hlen : args.length = cs.size)
    (ha : ∀ i, i < args.length → PVR W (cellsSize W) (args.getD i .junk) (cs.getD i undef)) : Calls P f cs W fun e W' => e = .returned (.bool true) ∧ Below W.heap.size W W' := by
  refine Calls.mono (bridge hd hlen ha (R := fun c W' => c = .bool true ∧ Below W.heap.size W W') fun e' c hg he hv hb => ⟨hv.bool_inv, hb⟩) fun e W' ⟨c, h1, h2, h3⟩ => ?_
  subst h2
  exact ⟨h1, h3⟩
theorem ps_of_cell {W : World} {b o : Nat} {c : Value} (h : W.cell? ⟨b, o, none⟩ = some c) : o < cellsSize W b := by
  unfold World.cell? at h
  unfold cellsSize
  simp only at h
  split at h
  · rename_i cs el fz hh
    rw [hh]
    simp at h
    exact (Array.getElem?_eq_some_iff.1 h).1
  · cases h
/-- A slice of numbers that came in. -/
theorem pvr_ints {W : World} {k : IntKind} {a : Addr} {len cap : Nat} {zs : List Int} (hs : a.spot = none) (hl : len ≤ cap) (hz : len ≤ zs.length)
    (hc : ∀ i, i < zs.length → W.cell? (a.add i) = some (.int k (zs.getD i 0))) : PVR W (cellsSize W) (.ls (.il k (zs.take len)) .any) (.slice (some a) len cap) := by
  obtain ⟨b, off, spot⟩ := a
  simp only at hs
  subst hs
  have hn : (LX.il k (zs.take len)).n = len := by simp [LX.n, LX.toL, Nat.min_eq_left hz]
  have hadd : ∀ i, (⟨b, off, none⟩ : Addr).add i = ⟨b, off + i, none⟩ := fun i => by
    unfold Addr.add
    split
    · rename_i h; subst h; rfl
    · rfl
  have hat : ∀ i, i < len → (LX.il k (zs.take len)).at_ i = .int k (zs.getD i 0) := fun i hi => by
    have h1 : i < zs.length := by omega
    simp [LX.at_, LX.toL, List.getD, hi, h1]
  have hcell : ∀ i, i < len → W.cell? ⟨b, off + i, none⟩ = some (.int k (zs.getD i 0)) := fun i hi => by rw [← hadd]; exact hc i (by omega)
  have := PVR.ls (w := W) (ps := cellsSize W) (.il k (zs.take len)) b off cap (fun i _ => .int k (zs.getD i 0)) (by rw [hn]; exact hl) trivial
    (fun i hi => by rw [hat i (by rwa [hn] at hi)]; rfl)
    (fun h => by
      rw [hn] at h ⊢
      have := ps_of_cell (hcell (len - 1) (by omega))
      show off + len * 1 ≤ _
      omega)
    (fun i j hi hj => by
      rw [hn] at hi
      have hj : j < 1 := hj
      have : j = 0 := by omega
      subst this
      show W.cell? ⟨b, off + i * 1 + 0, none⟩ = _
      rw [Nat.mul_one, Nat.add_zero]
      exact hcell i hi)
    (fun i j hi hj => rfl)
    (fun i j hi hj => by
      rw [hn] at hi
      have hj : j < 1 := hj
      have : j = 0 := by omega
      subst this
      rw [hat i hi]
      exact .int _ _)
  rw [hn] at this
  exact this
theorem pvr_nil {W : World} {ps : Nat → Nat} {k : IntKind} : PVR W ps (.ls (.il k []) .any) (.slice none 0 0) := .lsnil (.il k []) .any rfl trivial (.inl rfl)
end Go.AL
