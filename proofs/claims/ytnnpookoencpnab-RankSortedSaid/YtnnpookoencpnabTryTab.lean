/-
  The table of the types of this seat's program, looked over: 'T_ok'. (The rows are printed by a program of ours.)
-/
import Derived.Test.YtnnpookoencpnabAl3
import Derived.Test.YtnnpookoencpnabProg
namespace Go.Proofs.Ytnnpookoencpnab
open Go Go.AL
def rows : TabL := [
  (1, TI.mk TD.func 1 8 AVal.nilf true),
  (2, TI.mk (TD.int IntKind.i64) 1 8 (AVal.int IntKind.i64 (0)) true),
  (3, TI.mk (TD.int IntKind.i64) 1 8 (AVal.int IntKind.i64 (0)) true),
  (4, TI.mk TD.bool 1 1 (AVal.bool false) true),
  (5, TI.mk (TD.int IntKind.u8) 1 1 (AVal.int IntKind.u8 (0)) true),
  (6, TI.mk (TD.int IntKind.u8) 1 1 (AVal.int IntKind.u8 (0)) true),
  (7, TI.mk (TD.struct [(0, 2), (1, 3), (2, 4), (3, 6)]) 4 24 (AVal.agg [AVal.int IntKind.i64 (0), AVal.int IntKind.i64 (0), AVal.bool false, AVal.int IntKind.u8 (0)]) true),
  (8, TI.mk (TD.struct [(0, 2), (1, 3), (2, 4), (3, 6)]) 4 24 (AVal.agg [AVal.int IntKind.i64 (0), AVal.int IntKind.i64 (0), AVal.bool false, AVal.int IntKind.u8 (0)]) true),
  (9, TI.mk TD.str 1 16 (AVal.str []) true),
  (10, TI.mk TD.str 1 16 (AVal.str []) true),
  (11, TI.mk TD.str 1 16 (AVal.str []) true),
  (12, TI.mk (TD.int IntKind.u64) 1 8 (AVal.int IntKind.u64 (0)) true),
  (13, TI.mk (TD.struct [(0, 9), (1, 12)]) 2 24 (AVal.agg [AVal.str [], AVal.int IntKind.u64 (0)]) false),
  (14, TI.mk (TD.struct [(0, 9), (1, 12)]) 2 24 (AVal.agg [AVal.str [], AVal.int IntKind.u64 (0)]) false),
  (15, TI.mk (TD.ptr 96) 1 8 AVal.nilp true),
  (16, TI.mk (TD.ptr 99) 1 8 AVal.nilp true),
  (17, TI.mk (TD.ptr 107) 1 8 AVal.nilp true),
  (18, TI.mk (TD.struct [(0, 17)]) 1 8 (AVal.agg [AVal.nilp]) false),
  (19, TI.mk (TD.struct [(0, 17)]) 1 8 (AVal.agg [AVal.nilp]) false),
  (20, TI.mk TD.iface 1 16 AVal.nili true),
  (21, TI.mk (TD.int IntKind.i32) 1 4 (AVal.int IntKind.i32 (0)) true),
  (22, TI.mk (TD.slice 3) 1 24 (AVal.ls LX.nl Cap.nil) true),
  (23, TI.mk TD.func 1 8 AVal.nilf true),
  (24, TI.mk (TD.int IntKind.i64) 1 8 (AVal.int IntKind.i64 (0)) true),
  (26, TI.mk TD.func 1 8 AVal.nilf true),
  (28, TI.mk TD.func 1 8 AVal.nilf true),
  (29, TI.mk TD.func 1 8 AVal.nilf true),
  (30, TI.mk (TD.slice 5) 1 24 (AVal.ls LX.nl Cap.nil) true),
  (31, TI.mk (TD.struct [(0, 30), (1, 3)]) 2 32 (AVal.agg [AVal.ls LX.nl Cap.nil, AVal.int IntKind.i64 (0)]) true),
  (32, TI.mk (TD.struct [(0, 30), (1, 3)]) 2 32 (AVal.agg [AVal.ls LX.nl Cap.nil, AVal.int IntKind.i64 (0)]) true),
  (33, TI.mk TD.func 1 8 AVal.nilf true),
  (34, TI.mk (TD.ptr 32) 1 8 AVal.nilp true),
  (35, TI.mk TD.func 1 8 AVal.nilf true),
  (36, TI.mk TD.func 1 8 AVal.nilf true),
  (37, TI.mk TD.func 1 8 AVal.nilf true),
  (38, TI.mk TD.func 1 8 AVal.nilf true),
  (39, TI.mk (TD.ptr 40) 1 8 AVal.nilp true),
  (40, TI.mk (TD.slice 3) 1 24 (AVal.ls LX.nl Cap.nil) true),
  (41, TI.mk TD.func 1 8 AVal.nilf true),
  (43, TI.mk TD.func 1 8 AVal.nilf true),
  (44, TI.mk TD.func 1 8 AVal.nilf true),
  (45, TI.mk TD.func 1 8 AVal.nilf true),
  (46, TI.mk (TD.int IntKind.u64) 1 8 (AVal.int IntKind.u64 (0)) true),
  (47, TI.mk TD.func 1 8 AVal.nilf true),
  (48, TI.mk TD.func 1 8 AVal.nilf true),
  (49, TI.mk TD.func 1 8 AVal.nilf true),
  (50, TI.mk TD.func 1 8 AVal.nilf true),
  (51, TI.mk TD.func 1 8 AVal.nilf true),
  (52, TI.mk TD.func 1 8 AVal.nilf true),
  (53, TI.mk TD.func 1 8 AVal.nilf true),
  (54, TI.mk TD.func 1 8 AVal.nilf true),
  (55, TI.mk TD.iface 1 16 AVal.nili true),
  (56, TI.mk TD.iface 1 16 AVal.nili true),
  (57, TI.mk TD.func 1 8 AVal.nilf true),
  (58, TI.mk TD.func 1 8 AVal.nilf true),
  (59, TI.mk TD.func 1 8 AVal.nilf true),
  (60, TI.mk TD.func 1 8 AVal.nilf true),
  (61, TI.mk TD.func 1 8 AVal.nilf true),
  (62, TI.mk TD.func 1 8 AVal.nilf true),
  (63, TI.mk TD.func 1 8 AVal.nilf true),
  (64, TI.mk TD.func 1 8 AVal.nilf true),
  (65, TI.mk TD.func 1 8 AVal.nilf true),
  (66, TI.mk TD.func 1 8 AVal.nilf true),
  (67, TI.mk (TD.int IntKind.u64) 1 8 (AVal.int IntKind.u64 (0)) true),
  (68, TI.mk TD.func 1 8 AVal.nilf true),
  (69, TI.mk TD.func 1 8 AVal.nilf true),
  (70, TI.mk TD.func 1 8 AVal.nilf true),
  (71, TI.mk TD.func 1 8 AVal.nilf true),
  (72, TI.mk TD.func 1 8 AVal.nilf true),
  (73, TI.mk TD.func 1 8 AVal.nilf true),
  (74, TI.mk (TD.int IntKind.u32) 1 4 (AVal.int IntKind.u32 (0)) true),
  (75, TI.mk TD.func 1 8 AVal.nilf true),
  (76, TI.mk TD.func 1 8 AVal.nilf true),
  (77, TI.mk TD.func 1 8 AVal.nilf true),
  (78, TI.mk TD.func 1 8 AVal.nilf true),
  (79, TI.mk (TD.int IntKind.i64) 1 8 (AVal.int IntKind.i64 (0)) true),
  (81, TI.mk TD.func 1 8 AVal.nilf true),
  (82, TI.mk TD.func 1 8 AVal.nilf true),
  (83, TI.mk TD.func 1 8 AVal.nilf true),
  (84, TI.mk TD.func 1 8 AVal.nilf true),
  (85, TI.mk (TD.int IntKind.u64) 1 8 (AVal.int IntKind.u64 (0)) true),
  (86, TI.mk TD.func 1 8 AVal.nilf true),
  (87, TI.mk TD.func 1 8 AVal.nilf true),
  (88, TI.mk TD.func 1 8 AVal.nilf true),
  (89, TI.mk (TD.ptr 3) 1 8 AVal.nilp true),
  (90, TI.mk TD.func 1 8 AVal.nilf true),
  (91, TI.mk (TD.ptr 85) 1 8 AVal.nilp true),
  (93, TI.mk TD.func 1 8 AVal.nilf true),
  (94, TI.mk TD.func 1 8 AVal.nilf true),
  (95, TI.mk (TD.struct [(0, 17), (1, 17), (2, 17), (3, 9)]) 4 40 (AVal.agg [AVal.nilp, AVal.nilp, AVal.nilp, AVal.str []]) false),
  (96, TI.mk (TD.struct [(0, 17), (1, 17), (2, 17), (3, 9)]) 4 40 (AVal.agg [AVal.nilp, AVal.nilp, AVal.nilp, AVal.str []]) false),
  (97, TI.mk (TD.array 0 16) 0 0 (AVal.agg []) true),
  (98, TI.mk (TD.struct [(0, 97)]) 0 0 (AVal.agg []) false),
  (99, TI.mk (TD.struct [(0, 97)]) 0 0 (AVal.agg []) false),
  (100, TI.mk (TD.int IntKind.u8) 1 1 (AVal.int IntKind.u8 (0)) true),
  (101, TI.mk (TD.int IntKind.u8) 1 1 (AVal.int IntKind.u8 (0)) true),
  (102, TI.mk TD.func 1 8 AVal.nilf true),
  (103, TI.mk (TD.ptr 5) 1 8 AVal.nilp true),
  (104, TI.mk (TD.int IntKind.i32) 1 4 (AVal.int IntKind.i32 (0)) true),
  (105, TI.mk (TD.int IntKind.i32) 1 4 (AVal.int IntKind.i32 (0)) true),
  (106, TI.mk (TD.struct [(0, 12), (1, 12), (2, 74), (3, 100), (4, 5), (5, 5), (6, 101), (7, 102), (8, 103), (9, 104), (10, 105)]) 11 48 (AVal.agg [AVal.int IntKind.u64 (0), AVal.int IntKind.u64 (0), AVal.int IntKind.u32 (0), AVal.int IntKind.u8 (0), AVal.int IntKind.u8 (0), AVal.int IntKind.u8 (0), AVal.int IntKind.u8 (0), AVal.nilf, AVal.nilp, AVal.int IntKind.i32 (0), AVal.int IntKind.i32 (0)]) false),
  (107, TI.mk (TD.struct [(0, 12), (1, 12), (2, 74), (3, 100), (4, 5), (5, 5), (6, 101), (7, 102), (8, 103), (9, 104), (10, 105)]) 11 48 (AVal.agg [AVal.int IntKind.u64 (0), AVal.int IntKind.u64 (0), AVal.int IntKind.u32 (0), AVal.int IntKind.u8 (0), AVal.int IntKind.u8 (0), AVal.int IntKind.u8 (0), AVal.int IntKind.u8 (0), AVal.nilf, AVal.nilp, AVal.int IntKind.i32 (0), AVal.int IntKind.i32 (0)]) false)]
def T : Tab := fun t => TabL.get? rows t
theorem T_ok : TabOK Go.Proofs.Try.prog T := tabB_spec rows rfl (by kernel_rfl)
def mrows : MTabL := [(39, "Len", 16, some 40), (39, "Less", 82, some 40), (39, "Swap", 85, some 40), (39, "Push", 84, none), (39, "Pop", 83, none)]
def M : MTab := fun t m => MTabL.get? mrows t m
noncomputable abbrev PP : Program := Go.Proofs.Try.prog
theorem recv_at (a : Addr) (w : World) (nm : String) : (receiverAt 39 (.val (.pointer (some a))) false (some nm)).run PP w = (loadVar 40 a).run PP w := by kernel_rfl
theorem load_inv {u : Nat} {v : Value} {w : World} {r : Value} (h : (Instr.loadAt u v).run PP w = .ok r w) : ∃ a, v = .pointer (some a) ∧ (loadVar u a).run PP w = .ok r w := by
  cases v with
  | pointer a =>
    cases a with
    | none => simp [Instr.loadAt, Instr.sureAddr] at h
    | some a => exact ⟨a, rfl, by simpa [Instr.loadAt, Instr.sureAddr] using h⟩
  | _ => simp [Instr.loadAt, Instr.sureAddr] at h
theorem mLen_at (a : Addr) (w : World) : (method (PP.types.size + Made.depth) 39 (.pointer (some a)) "Len").run PP w = ((receiverAt 39 (.val (.pointer (some a))) false (some (("Len".splitOn ".").getLastD "Len"))) >>= fun r => pure (16, r)).run PP w := by kernel_rfl
theorem mLen_ok (v : Value) (w : World) (r : Value) (h : (Instr.loadAt 40 v).run PP w = .ok r w) : (method (PP.types.size + Made.depth) 39 v "Len").run PP w = .ok (16, r) w := by
  obtain ⟨a, rfl, h2⟩ := load_inv h
  rw [mLen_at, Sem.run_bind, recv_at, h2]
  rfl
theorem mLess_at (a : Addr) (w : World) : (method (PP.types.size + Made.depth) 39 (.pointer (some a)) "Less").run PP w = ((receiverAt 39 (.val (.pointer (some a))) false (some (("Less".splitOn ".").getLastD "Less"))) >>= fun r => pure (82, r)).run PP w := by kernel_rfl
theorem mLess_ok (v : Value) (w : World) (r : Value) (h : (Instr.loadAt 40 v).run PP w = .ok r w) : (method (PP.types.size + Made.depth) 39 v "Less").run PP w = .ok (82, r) w := by
  obtain ⟨a, rfl, h2⟩ := load_inv h
  rw [mLess_at, Sem.run_bind, recv_at, h2]
  rfl
theorem mSwap_at (a : Addr) (w : World) : (method (PP.types.size + Made.depth) 39 (.pointer (some a)) "Swap").run PP w = ((receiverAt 39 (.val (.pointer (some a))) false (some (("Swap".splitOn ".").getLastD "Swap"))) >>= fun r => pure (85, r)).run PP w := by kernel_rfl
theorem mSwap_ok (v : Value) (w : World) (r : Value) (h : (Instr.loadAt 40 v).run PP w = .ok r w) : (method (PP.types.size + Made.depth) 39 v "Swap").run PP w = .ok (85, r) w := by
  obtain ⟨a, rfl, h2⟩ := load_inv h
  rw [mSwap_at, Sem.run_bind, recv_at, h2]
  rfl
theorem mPush_ok (v : Value) (w : World) : (method (PP.types.size + Made.depth) 39 v "Push").run PP w = .ok (84, v) w := by kernel_rfl
theorem mPop_ok (v : Value) (w : World) : (method (PP.types.size + Made.depth) 39 v "Pop").run PP w = .ok (83, v) w := by kernel_rfl
theorem M_ok : MTabOK PP T M := fun t m f d h v w => by
  simp only [MTab.get?, M, mrows, MTabL.get?] at h
  by_cases ht : Nat.beq 39 t = true
  case neg => simp [ht] at h
  obtain rfl := Nat.eq_of_beq_eq_true ht
  simp only at h
  by_cases e : "Len" = m
  · subst e
    simp at h
    obtain ⟨rfl, rfl⟩ := h
    exact fun r hr => mLen_ok v w r hr
  simp only [decide_eq_false e] at h
  by_cases e : "Less" = m
  · subst e
    simp at h
    obtain ⟨rfl, rfl⟩ := h
    exact fun r hr => mLess_ok v w r hr
  simp only [decide_eq_false e] at h
  by_cases e : "Swap" = m
  · subst e
    simp at h
    obtain ⟨rfl, rfl⟩ := h
    exact fun r hr => mSwap_ok v w r hr
  simp only [decide_eq_false e] at h
  by_cases e : "Push" = m
  · subst e
    simp at h
    obtain ⟨rfl, rfl⟩ := h
    exact mPush_ok v w
  simp only [decide_eq_false e] at h
  by_cases e : "Pop" = m
  · subst e
    simp at h
    obtain ⟨rfl, rfl⟩ := h
    exact mPop_ok v w
  simp only [decide_eq_false e] at h
  cases h
theorem P_ok : ProgOK Go.Proofs.Try.prog T M := ⟨T_ok, M_ok, by kernel_rfl⟩
end Go.Proofs.Ytnnpookoencpnab
