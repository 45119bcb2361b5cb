/- The callbacks that gather spans. -/
import Derived.Test.YtnkaagbepppodaaMeterQ
import Derived.Test.YtnkaagbepppodaaAlGhost
set_option linter.unusedSimpArgs false
set_option linter.unusedVariables false
set_option maxHeartbeats 4000000
open Go Go.AL
namespace Go.Proofs.Ytnkaagbepppodaa
def two : Sh := .rc [.int .i64, .int .i64]
def pr (a b : Int) : AVal := .agg [.int .i64 a, .int .i64 b]
def iv4 (x : Int × Int × Int × Int) : List AVal := [.int .i64 x.1, .int .i64 x.2.1, .int .i64 x.2.2.1, .int .i64 x.2.2.2]
def h25 (A B : Int × Int × Int × Int) (x : List AVal × Nat) : Heap := [.tok 0, .box (iv4 A), .box (iv4 B), .box [.ls (.gl two x.1) (.tok 5 x.2)], .box [.ls .nl .nil], .tok x.2]
theorem q25 (A B : Int × Int × Int × Int) (x : List AVal × Nat) (a b : Int) (hX : x.1.length ≤ 300) : Does PP 25 [.int .i64 a, .int .i64 b, .ptr 3 0] (h25 A B x) (Is (.bool true) (h25 A B (x.1 ++ [pr a b], x.2 + 1))) := by
  obtain ⟨X, n⟩ := x
  obtain ⟨a1, a2, a3, a4⟩ := A
  obtain ⟨b1, b2, b3, b4⟩ := B
  simp only [h25, two, pr, iv4] at hX ⊢
  refine doesF P_ok Try.f25 (by kernel_rfl) (by kernel_rfl) ?_
  intro i2 c2 u1 cv mx mn ad sbt bn bq ba lnI gtI apI sbI stI rpI lnG gtG apG sbG stG rpG fi fb fs fl fg fc sln sgt sap ssb sc b2s s2b nd call calld callv callvd loop rfun fin hk
  have room : ∀ y : AVal, nd (.room (ad (lnG X) (lnG [y])) 16) := fun y => hk.ndI (by
    rw [hk.ad_eq, hk.lnG_eq, hk.lnG_eq]
    simp
    exact ⟨by omega, by omega, by omega⟩)
  have hap := hk.apG_eq X
  obtain ⟨n', hn⟩ : ∃ n', n' = n + 1 := ⟨_, rfl⟩
  rw [← hn, ← hap]
  have hbq : Nat.beq n n = true := Nat.beq_refl n
  cbv at hbq
  cbv
  rw [hbq]
  cbv
  refine ⟨room _, ?_⟩
  exact hk.finI (fin_low (Wk.refl _ _) rfl rfl ⟨rfl, by rw [hn]; rfl⟩)
def h26 (A B : Int × Int × Int × Int) (z x : List AVal × Nat) : Heap := [.tok 0, .box (iv4 A), .box (iv4 B), .box [.ls (.gl two z.1) (.tok 5 z.2)], .box [.ls (.gl two x.1) (.tok 6 x.2)], .tok z.2, .tok x.2]
theorem q26 (A B : Int × Int × Int × Int) (z x : List AVal × Nat) (a b : Int) (hX : x.1.length ≤ 300) : Does PP 26 [.int .i64 a, .int .i64 b, .ptr 4 0] (h26 A B z x) (Is (.bool true) (h26 A B z (x.1 ++ [pr a b], x.2 + 1))) := by
  obtain ⟨X, n⟩ := x
  obtain ⟨Z, m⟩ := z
  obtain ⟨a1, a2, a3, a4⟩ := A
  obtain ⟨b1, b2, b3, b4⟩ := B
  simp only [h26, two, pr, iv4] at hX ⊢
  refine doesF P_ok Try.f26 (by kernel_rfl) (by kernel_rfl) ?_
  intro i2 c2 u1 cv mx mn ad sbt bn bq ba lnI gtI apI sbI stI rpI lnG gtG apG sbG stG rpG fi fb fs fl fg fc sln sgt sap ssb sc b2s s2b nd call calld callv callvd loop rfun fin hk
  have room : ∀ y : AVal, nd (.room (ad (lnG X) (lnG [y])) 16) := fun y => hk.ndI (by
    rw [hk.ad_eq, hk.lnG_eq, hk.lnG_eq]
    simp
    exact ⟨by omega, by omega, by omega⟩)
  have hap := hk.apG_eq X
  obtain ⟨n', hn⟩ : ∃ n', n' = n + 1 := ⟨_, rfl⟩
  rw [← hn, ← hap]
  have hbq : Nat.beq n n = true := Nat.beq_refl n
  cbv at hbq
  cbv
  rw [hbq]
  cbv
  refine ⟨room _, ?_⟩
  exact hk.finI (fin_low (Wk.refl _ _) rfl rfl ⟨rfl, by rw [hn]; rfl⟩)
def gather : List (Int × Int) → List AVal := List.map fun x => pr x.1 x.2
def gst (x : List AVal × Nat) (a b : Int) : (List AVal × Nat) × Bool := ((x.1 ++ [pr a b], x.2 + 1), true)
theorem feed_gather : ∀ (sp : List (Int × Int)) (x : List AVal × Nat), feed gst sp x = (x.1 ++ gather sp, x.2 + sp.length)
  | [], x => by simp [feed, gather]
  | (a, b) :: r, x => by
    simp only [feed, gst]
    rw [feed_gather r]
    simp [gather]
    omega
theorem calls25 (l : List Int) (Q : Int) (hl : l.length ≤ 200) (a1 a2 a3 a4 b1 b2 b3 b4 : Int) : Does PP 43 [.clo (.func 25) [] [.ptr 3 0], .pp [.ls (.il .i64 l) .any], .pp [.int .i64 Q], .pp [.int .i64 2]] [.tok 0, .box [.int .i64 a1, .int .i64 a2, .int .i64 a3, .int .i64 a4], .box [.int .i64 b1, .int .i64 b2, .int .i64 b3, .int .i64 b4], .box [.ls .nl .nil], .box [.ls .nl .nil]]
      (Is (.tup []) (h25 (a1, a2, a3, a4) (b1, b2, b3, b4) (gather (spans l Q 2), (spans l Q 2).length))) := by
  refine Does.ghost (GE.thaw 3 0 [.ls .nl .nil] (.gl two []) rfl rfl rfl (fun x hx => by simp at hx)) ?_ (by simp)
  have := q43 l Q 2 hl (by omega) 25 [.ptr 3 0] (h25 (a1, a2, a3, a4) (b1, b2, b3, b4)) gst (fun i x => (x.1.length : Int) ≤ i) (fun i x h => by omega)
    (fun x a b h0 h1 h2 h3 => ⟨q25 _ _ x a b (by omega), fun _ => by simp only [gst]; simp; omega⟩) ([], 0) (by simp)
  rw [feed_gather, show evsAt l Q 2 0 0 = spans l Q 2 from rfl, List.nil_append, Nat.zero_add] at this
  exact this
theorem calls26 (l : List Int) (Q : Int) (hl : l.length ≤ 200) (a1 a2 a3 a4 b1 b2 b3 b4 : Int) (G : List AVal) (k : Nat) : Does PP 43 [.clo (.func 26) [] [.ptr 4 0], .pp [.ls (.il .i64 l) .any], .pp [.int .i64 Q], .pp [.int .i64 2]] [.tok 0, .box [.int .i64 a1, .int .i64 a2, .int .i64 a3, .int .i64 a4], .box [.int .i64 b1, .int .i64 b2, .int .i64 b3, .int .i64 b4], .box [.ls (.gl two G) (.tok 5 k)], .box [.ls .nl .nil], .tok k]
      (Is (.tup []) (h26 (a1, a2, a3, a4) (b1, b2, b3, b4) (G, k) (gather (spans l Q 2), (spans l Q 2).length))) := by
  refine Does.ghost (GE.thaw 4 0 [.ls .nl .nil] (.gl two []) rfl rfl rfl (fun x hx => by simp at hx)) ?_ (by simp)
  have := q43 l Q 2 hl (by omega) 26 [.ptr 4 0] (h26 (a1, a2, a3, a4) (b1, b2, b3, b4) (G, k)) gst (fun i x => (x.1.length : Int) ≤ i) (fun i x h => by omega)
    (fun x a b h0 h1 h2 h3 => ⟨q26 _ _ _ x a b (by omega), fun _ => by simp only [gst]; simp; omega⟩) ([], 0) (by simp)
  rw [feed_gather, show evsAt l Q 2 0 0 = spans l Q 2 from rfl, List.nil_append, Nat.zero_add] at this
  exact this
end Go.Proofs.Ytnkaagbepppodaa
