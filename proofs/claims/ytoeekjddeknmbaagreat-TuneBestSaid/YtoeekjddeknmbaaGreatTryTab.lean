/-
  The table of the types of this seat's program, looked over: 'T_ok'. (The rows are printed by a program of ours.)
-/
import Derived.Test.YtoeekjddeknmbaaGreatAl3
import Derived.Test.YtoeekjddeknmbaaGreatProg
namespace Go.Proofs.YtoeekjddeknmbaaGreat
open Go Go.AL
def rows : TabL := [
 (1, TI.mk TD.func 1 8 AVal.nilf true),
 (2, TI.mk (TD.int IntKind.i64) 1 8 (AVal.int IntKind.i64 (0)) true),
 (3, TI.mk (TD.int IntKind.i64) 1 8 (AVal.int IntKind.i64 (0)) true),
 (4, TI.mk TD.bool 1 1 (AVal.bool false) true),
 (5, TI.mk (TD.int IntKind.u8) 1 1 (AVal.int IntKind.u8 (0)) true),
 (6, TI.mk (TD.int IntKind.u8) 1 1 (AVal.int IntKind.u8 (0)) true),
 (7, TI.mk (TD.struct [(0, 2), (1, 3), (2, 4), (3, 6)]) 4 24 (AVal.agg [AVal.int IntKind.i64 (0), AVal.int IntKind.i64 (0), AVal.bool false, AVal.int IntKind.u8 (0)]) true),
 (8, TI.mk (TD.struct [(0, 2), (1, 3), (2, 4), (3, 6)]) 4 24 (AVal.agg [AVal.int IntKind.i64 (0), AVal.int IntKind.i64 (0), AVal.bool false, AVal.int IntKind.u8 (0)]) true),
 (9, TI.mk TD.str 1 16 (AVal.str []) true),
 (10, TI.mk TD.str 1 16 (AVal.str []) true),
 (11, TI.mk TD.str 1 16 (AVal.str []) true),
 (12, TI.mk (TD.int IntKind.u64) 1 8 (AVal.int IntKind.u64 (0)) true),
 (13, TI.mk (TD.struct [(0, 9), (1, 12)]) 2 24 (AVal.agg [AVal.str [], AVal.int IntKind.u64 (0)]) false),
 (14, TI.mk (TD.struct [(0, 9), (1, 12)]) 2 24 (AVal.agg [AVal.str [], AVal.int IntKind.u64 (0)]) false),
 (15, TI.mk (TD.ptr 157) 1 8 AVal.nilp true),
 (16, TI.mk (TD.ptr 160) 1 8 AVal.nilp true),
 (17, TI.mk (TD.ptr 168) 1 8 AVal.nilp true),
 (18, TI.mk (TD.struct [(0, 17)]) 1 8 (AVal.agg [AVal.nilp]) false),
 (19, TI.mk (TD.struct [(0, 17)]) 1 8 (AVal.agg [AVal.nilp]) false),
 (20, TI.mk TD.iface 1 16 AVal.nili true),
 (21, TI.mk (TD.int IntKind.i32) 1 4 (AVal.int IntKind.i32 (0)) true),
 (22, TI.mk (TD.slice 3) 1 24 (AVal.ls LX.nl Cap.nil) true),
 (23, TI.mk (TD.struct [(0, 3), (1, 3), (2, 4), (3, 4), (4, 4)]) 5 24 (AVal.agg [AVal.int IntKind.i64 (0), AVal.int IntKind.i64 (0), AVal.bool false, AVal.bool false, AVal.bool false]) true),
 (24, TI.mk (TD.struct [(0, 3), (1, 3), (2, 4), (3, 4), (4, 4)]) 5 24 (AVal.agg [AVal.int IntKind.i64 (0), AVal.int IntKind.i64 (0), AVal.bool false, AVal.bool false, AVal.bool false]) true),
 (25, TI.mk TD.func 1 8 AVal.nilf true),
 (26, TI.mk TD.func 1 8 AVal.nilf true),
 (27, TI.mk (TD.struct [(0, 3), (1, 3), (2, 3), (3, 22), (4, 3), (5, 3), (6, 3), (7, 22), (8, 22)]) 9 120 (AVal.agg [AVal.int IntKind.i64 (0), AVal.int IntKind.i64 (0), AVal.int IntKind.i64 (0), AVal.ls LX.nl Cap.nil, AVal.int IntKind.i64 (0), AVal.int IntKind.i64 (0), AVal.int IntKind.i64 (0), AVal.ls LX.nl Cap.nil, AVal.ls LX.nl Cap.nil]) true),
 (28, TI.mk (TD.struct [(0, 3), (1, 3), (2, 3), (3, 22), (4, 3), (5, 3), (6, 3), (7, 22), (8, 22)]) 9 120 (AVal.agg [AVal.int IntKind.i64 (0), AVal.int IntKind.i64 (0), AVal.int IntKind.i64 (0), AVal.ls LX.nl Cap.nil, AVal.int IntKind.i64 (0), AVal.int IntKind.i64 (0), AVal.int IntKind.i64 (0), AVal.ls LX.nl Cap.nil, AVal.ls LX.nl Cap.nil]) true),
 (29, TI.mk (TD.int IntKind.i64) 1 8 (AVal.int IntKind.i64 (0)) true),
 (31, TI.mk TD.func 1 8 AVal.nilf true),
 (32, TI.mk TD.func 1 8 AVal.nilf true),
 (33, TI.mk TD.func 1 8 AVal.nilf true),
 (35, TI.mk TD.func 1 8 AVal.nilf true),
 (36, TI.mk TD.func 1 8 AVal.nilf true),
 (38, TI.mk TD.func 1 8 AVal.nilf true),
 (39, TI.mk TD.func 1 8 AVal.nilf true),
 (40, TI.mk TD.func 1 8 AVal.nilf true),
 (41, TI.mk (TD.array 2 5) 2 2 (AVal.agg [AVal.int IntKind.u8 (0), AVal.int IntKind.u8 (0)]) true),
 (42, TI.mk TD.func 1 8 AVal.nilf true),
 (43, TI.mk TD.func 1 8 AVal.nilf true),
 (44, TI.mk TD.func 1 8 AVal.nilf true),
 (45, TI.mk (TD.ptr 48) 1 8 AVal.nilp true),
 (46, TI.mk (TD.slice 53) 1 24 (AVal.ls LX.nl Cap.nil) true),
 (47, TI.mk (TD.struct [(0, 46), (1, 3), (2, 3)]) 3 40 (AVal.agg [AVal.ls LX.nl Cap.nil, AVal.int IntKind.i64 (0), AVal.int IntKind.i64 (0)]) true),
 (48, TI.mk (TD.struct [(0, 46), (1, 3), (2, 3)]) 3 40 (AVal.agg [AVal.ls LX.nl Cap.nil, AVal.int IntKind.i64 (0), AVal.int IntKind.i64 (0)]) true),
 (49, TI.mk TD.func 1 8 AVal.nilf true),
 (50, TI.mk TD.func 1 8 AVal.nilf true),
 (51, TI.mk TD.func 1 8 AVal.nilf true),
 (52, TI.mk (TD.struct [(0, 28), (9, 3), (10, 3)]) 11 136 (AVal.agg [AVal.int IntKind.i64 (0), AVal.int IntKind.i64 (0), AVal.int IntKind.i64 (0), AVal.ls LX.nl Cap.nil, AVal.int IntKind.i64 (0), AVal.int IntKind.i64 (0), AVal.int IntKind.i64 (0), AVal.ls LX.nl Cap.nil, AVal.ls LX.nl Cap.nil, AVal.int IntKind.i64 (0), AVal.int IntKind.i64 (0)]) true),
 (53, TI.mk (TD.struct [(0, 28), (9, 3), (10, 3)]) 11 136 (AVal.agg [AVal.int IntKind.i64 (0), AVal.int IntKind.i64 (0), AVal.int IntKind.i64 (0), AVal.ls LX.nl Cap.nil, AVal.int IntKind.i64 (0), AVal.int IntKind.i64 (0), AVal.int IntKind.i64 (0), AVal.ls LX.nl Cap.nil, AVal.ls LX.nl Cap.nil, AVal.int IntKind.i64 (0), AVal.int IntKind.i64 (0)]) true),
 (54, TI.mk TD.func 1 8 AVal.nilf true),
 (55, TI.mk TD.func 1 8 AVal.nilf true),
 (56, TI.mk TD.func 1 8 AVal.nilf true),
 (57, TI.mk TD.func 1 8 AVal.nilf true),
 (59, TI.mk TD.func 1 8 AVal.nilf true),
 (60, TI.mk TD.func 1 8 AVal.nilf true),
 (61, TI.mk TD.func 1 8 AVal.nilf true),
 (63, TI.mk TD.func 1 8 AVal.nilf true),
 (64, TI.mk (TD.int IntKind.i64) 1 8 (AVal.int IntKind.i64 (0)) true),
 (65, TI.mk TD.func 1 8 AVal.nilf true),
 (66, TI.mk TD.func 1 8 AVal.nilf true),
 (67, TI.mk TD.func 1 8 AVal.nilf true),
 (68, TI.mk TD.func 1 8 AVal.nilf true),
 (69, TI.mk TD.func 1 8 AVal.nilf true),
 (70, TI.mk (TD.slice 5) 1 24 (AVal.ls LX.nl Cap.nil) true),
 (71, TI.mk (TD.struct [(0, 70), (1, 3)]) 2 32 (AVal.agg [AVal.ls LX.nl Cap.nil, AVal.int IntKind.i64 (0)]) true),
 (72, TI.mk (TD.struct [(0, 70), (1, 3)]) 2 32 (AVal.agg [AVal.ls LX.nl Cap.nil, AVal.int IntKind.i64 (0)]) true),
 (73, TI.mk TD.func 1 8 AVal.nilf true),
 (74, TI.mk (TD.ptr 72) 1 8 AVal.nilp true),
 (75, TI.mk TD.func 1 8 AVal.nilf true),
 (76, TI.mk TD.func 1 8 AVal.nilf true),
 (77, TI.mk TD.func 1 8 AVal.nilf true),
 (78, TI.mk TD.func 1 8 AVal.nilf true),
 (79, TI.mk TD.func 1 8 AVal.nilf true),
 (80, TI.mk TD.func 1 8 AVal.nilf true),
 (81, TI.mk (TD.struct [(0, 3), (1, 3)]) 2 16 (AVal.agg [AVal.int IntKind.i64 (0), AVal.int IntKind.i64 (0)]) true),
 (82, TI.mk (TD.struct [(0, 3), (1, 3)]) 2 16 (AVal.agg [AVal.int IntKind.i64 (0), AVal.int IntKind.i64 (0)]) true),
 (83, TI.mk TD.func 1 8 AVal.nilf true),
 (84, TI.mk TD.func 1 8 AVal.nilf true),
 (85, TI.mk TD.func 1 8 AVal.nilf true),
 (86, TI.mk (TD.struct [(0, 3), (1, 22)]) 2 32 (AVal.agg [AVal.int IntKind.i64 (0), AVal.ls LX.nl Cap.nil]) true),
 (87, TI.mk (TD.struct [(0, 3), (1, 22)]) 2 32 (AVal.agg [AVal.int IntKind.i64 (0), AVal.ls LX.nl Cap.nil]) true),
 (88, TI.mk TD.func 1 8 AVal.nilf true),
 (89, TI.mk TD.func 1 8 AVal.nilf true),
 (90, TI.mk TD.func 1 8 AVal.nilf true),
 (91, TI.mk TD.func 1 8 AVal.nilf true),
 (92, TI.mk TD.func 1 8 AVal.nilf true),
 (93, TI.mk TD.func 1 8 AVal.nilf true),
 (94, TI.mk TD.func 1 8 AVal.nilf true),
 (95, TI.mk TD.func 1 8 AVal.nilf true),
 (96, TI.mk TD.func 1 8 AVal.nilf true),
 (97, TI.mk TD.func 1 8 AVal.nilf true),
 (98, TI.mk TD.func 1 8 AVal.nilf true),
 (99, TI.mk (TD.struct [(0, 3), (1, 22)]) 2 32 (AVal.agg [AVal.int IntKind.i64 (0), AVal.ls LX.nl Cap.nil]) true),
 (100, TI.mk TD.func 1 8 AVal.nilf true),
 (101, TI.mk TD.func 1 8 AVal.nilf true),
 (102, TI.mk TD.func 1 8 AVal.nilf true),
 (103, TI.mk (TD.int IntKind.u64) 1 8 (AVal.int IntKind.u64 (0)) true),
 (105, TI.mk TD.func 1 8 AVal.nilf true),
 (106, TI.mk TD.func 1 8 AVal.nilf true),
 (107, TI.mk TD.func 1 8 AVal.nilf true),
 (108, TI.mk TD.iface 1 16 AVal.nili true),
 (109, TI.mk TD.iface 1 16 AVal.nili true),
 (110, TI.mk TD.func 1 8 AVal.nilf true),
 (111, TI.mk TD.func 1 8 AVal.nilf true),
 (112, TI.mk (TD.struct [(0, 22), (1, 22)]) 2 48 (AVal.agg [AVal.ls LX.nl Cap.nil, AVal.ls LX.nl Cap.nil]) true),
 (113, TI.mk (TD.struct [(0, 22), (1, 22)]) 2 48 (AVal.agg [AVal.ls LX.nl Cap.nil, AVal.ls LX.nl Cap.nil]) true),
 (114, TI.mk TD.func 1 8 AVal.nilf true),
 (116, TI.mk TD.func 1 8 AVal.nilf true),
 (117, TI.mk TD.func 1 8 AVal.nilf true),
 (118, TI.mk TD.func 1 8 AVal.nilf true),
 (119, TI.mk (TD.slice 22) 1 24 (AVal.ls LX.nl Cap.nil) true),
 (120, TI.mk (TD.struct [(0, 119)]) 1 24 (AVal.agg [AVal.ls LX.nl Cap.nil]) true),
 (121, TI.mk (TD.struct [(0, 119)]) 1 24 (AVal.agg [AVal.ls LX.nl Cap.nil]) true),
 (122, TI.mk TD.func 1 8 AVal.nilf true),
 (123, TI.mk (TD.struct [(0, 82), (2, 3)]) 3 24 (AVal.agg [AVal.int IntKind.i64 (0), AVal.int IntKind.i64 (0), AVal.int IntKind.i64 (0)]) true),
 (124, TI.mk (TD.struct [(0, 82), (2, 3)]) 3 24 (AVal.agg [AVal.int IntKind.i64 (0), AVal.int IntKind.i64 (0), AVal.int IntKind.i64 (0)]) true),
 (125, TI.mk TD.func 1 8 AVal.nilf true),
 (126, TI.mk (TD.slice 124) 1 24 (AVal.ls LX.nl Cap.nil) true),
 (127, TI.mk (TD.slice 124) 1 24 (AVal.ls LX.nl Cap.nil) true),
 (128, TI.mk TD.func 1 8 AVal.nilf true),
 (129, TI.mk (TD.ptr 127) 1 8 AVal.nilp true),
 (130, TI.mk TD.func 1 8 AVal.nilf true),
 (131, TI.mk (TD.int IntKind.u32) 1 4 (AVal.int IntKind.u32 (0)) true),
 (133, TI.mk TD.func 1 8 AVal.nilf true),
 (134, TI.mk (TD.int IntKind.u64) 1 8 (AVal.int IntKind.u64 (0)) true),
 (136, TI.mk TD.func 1 8 AVal.nilf true),
 (137, TI.mk TD.func 1 8 AVal.nilf true),
 (138, TI.mk TD.func 1 8 AVal.nilf true),
 (139, TI.mk TD.func 1 8 AVal.nilf true),
 (140, TI.mk TD.func 1 8 AVal.nilf true),
 (141, TI.mk TD.func 1 8 AVal.nilf true),
 (142, TI.mk TD.func 1 8 AVal.nilf true),
 (143, TI.mk TD.func 1 8 AVal.nilf true),
 (144, TI.mk TD.func 1 8 AVal.nilf true),
 (145, TI.mk TD.func 1 8 AVal.nilf true),
 (146, TI.mk TD.func 1 8 AVal.nilf true),
 (147, TI.mk TD.func 1 8 AVal.nilf true),
 (148, TI.mk TD.func 1 8 AVal.nilf true),
 (149, TI.mk TD.func 1 8 AVal.nilf true),
 (150, TI.mk (TD.slice 154) 1 24 (AVal.ls LX.nl Cap.nil) true),
 (151, TI.mk (TD.slice 154) 1 24 (AVal.ls LX.nl Cap.nil) true),
 (152, TI.mk (TD.ptr 151) 1 8 AVal.nilp true),
 (153, TI.mk (TD.struct [(0, 3), (1, 3)]) 2 16 (AVal.agg [AVal.int IntKind.i64 (0), AVal.int IntKind.i64 (0)]) true),
 (154, TI.mk (TD.struct [(0, 3), (1, 3)]) 2 16 (AVal.agg [AVal.int IntKind.i64 (0), AVal.int IntKind.i64 (0)]) true),
 (155, TI.mk TD.func 1 8 AVal.nilf true),
 (156, TI.mk (TD.struct [(0, 17), (1, 17), (2, 17), (3, 9)]) 4 40 (AVal.agg [AVal.nilp, AVal.nilp, AVal.nilp, AVal.str []]) false),
 (157, TI.mk (TD.struct [(0, 17), (1, 17), (2, 17), (3, 9)]) 4 40 (AVal.agg [AVal.nilp, AVal.nilp, AVal.nilp, AVal.str []]) false),
 (158, TI.mk (TD.array 0 16) 0 0 (AVal.agg []) true),
 (159, TI.mk (TD.struct [(0, 158)]) 0 0 (AVal.agg []) false),
 (160, TI.mk (TD.struct [(0, 158)]) 0 0 (AVal.agg []) false),
 (161, TI.mk (TD.int IntKind.u8) 1 1 (AVal.int IntKind.u8 (0)) true),
 (162, TI.mk (TD.int IntKind.u8) 1 1 (AVal.int IntKind.u8 (0)) true),
 (163, TI.mk TD.func 1 8 AVal.nilf true),
 (164, TI.mk (TD.ptr 5) 1 8 AVal.nilp true),
 (165, TI.mk (TD.int IntKind.i32) 1 4 (AVal.int IntKind.i32 (0)) true),
 (166, TI.mk (TD.int IntKind.i32) 1 4 (AVal.int IntKind.i32 (0)) true),
 (167, TI.mk (TD.struct [(0, 12), (1, 12), (2, 131), (3, 161), (4, 5), (5, 5), (6, 162), (7, 163), (8, 164), (9, 165), (10, 166)]) 11 48 (AVal.agg [AVal.int IntKind.u64 (0), AVal.int IntKind.u64 (0), AVal.int IntKind.u32 (0), AVal.int IntKind.u8 (0), AVal.int IntKind.u8 (0), AVal.int IntKind.u8 (0), AVal.int IntKind.u8 (0), AVal.nilf, AVal.nilp, AVal.int IntKind.i32 (0), AVal.int IntKind.i32 (0)]) false),
 (168, TI.mk (TD.struct [(0, 12), (1, 12), (2, 131), (3, 161), (4, 5), (5, 5), (6, 162), (7, 163), (8, 164), (9, 165), (10, 166)]) 11 48 (AVal.agg [AVal.int IntKind.u64 (0), AVal.int IntKind.u64 (0), AVal.int IntKind.u32 (0), AVal.int IntKind.u8 (0), AVal.int IntKind.u8 (0), AVal.int IntKind.u8 (0), AVal.int IntKind.u8 (0), AVal.nilf, AVal.nilp, AVal.int IntKind.i32 (0), AVal.int IntKind.i32 (0)]) false),
 (170, TI.mk TD.func 1 8 AVal.nilf true),
 (172, TI.mk TD.func 1 8 AVal.nilf true),
 (173, TI.mk TD.func 1 8 AVal.nilf true)]
def T : Tab := fun t => TabL.get? rows t
theorem T_ok : TabOK Go.Proofs.Tryz.prog T := tabB_spec rows rfl (by kernel_rfl)
def mrows : MTabL := [(152, "Len", 168, some 151), (152, "Less", 169, some 151), (152, "Swap", 170, some 151), (152, "Push", 173, none), (129, "Len", 163, some 127), (129, "Less", 164, some 127), (129, "Swap", 165, some 127), (129, "Push", 167, none), (45, "Len", 158, none), (45, "Less", 159, none), (45, "Swap", 161, none), (45, "Push", 160, none)]
def M : MTab := fun t m => MTabL.get? mrows t m
noncomputable abbrev PP : Program := Go.Proofs.Tryz.prog
theorem load_inv {u : Nat} {v : Value} {w : World} {r : Value} (h : (Instr.loadAt u v).run PP w = .ok r w) : ∃ a, v = .pointer (some a) ∧ (loadVar u a).run PP w = .ok r w := by
 cases v with
 | pointer a =>
   cases a with
   | none => simp [Instr.loadAt, Instr.sureAddr] at h
   | some a => exact ⟨a, rfl, by simpa [Instr.loadAt, Instr.sureAddr] using h⟩
 | _ => simp [Instr.loadAt, Instr.sureAddr] at h
theorem recv_at152 (a : Addr) (w : World) (nm : String) : (receiverAt 152 (.val (.pointer (some a))) false (some nm)).run PP w = (loadVar 151 a).run PP w := by kernel_rfl
theorem mLen152_at (a : Addr) (w : World) : (method (PP.types.size + Made.depth) 152 (.pointer (some a)) "Len").run PP w = ((receiverAt 152 (.val (.pointer (some a))) false (some (("Len".splitOn ".").getLastD "Len"))) >>= fun r => pure (168, r)).run PP w := by kernel_rfl
theorem mLen152_ok (v : Value) (w : World) (r : Value) (h : (Instr.loadAt 151 v).run PP w = .ok r w) : (method (PP.types.size + Made.depth) 152 v "Len").run PP w = .ok (168, r) w := by
 obtain ⟨a, rfl, h2⟩ := load_inv h
 rw [mLen152_at, Sem.run_bind, recv_at152, h2]
 rfl
theorem mLess152_at (a : Addr) (w : World) : (method (PP.types.size + Made.depth) 152 (.pointer (some a)) "Less").run PP w = ((receiverAt 152 (.val (.pointer (some a))) false (some (("Less".splitOn ".").getLastD "Less"))) >>= fun r => pure (169, r)).run PP w := by kernel_rfl
theorem mLess152_ok (v : Value) (w : World) (r : Value) (h : (Instr.loadAt 151 v).run PP w = .ok r w) : (method (PP.types.size + Made.depth) 152 v "Less").run PP w = .ok (169, r) w := by
 obtain ⟨a, rfl, h2⟩ := load_inv h
 rw [mLess152_at, Sem.run_bind, recv_at152, h2]
 rfl
theorem mSwap152_at (a : Addr) (w : World) : (method (PP.types.size + Made.depth) 152 (.pointer (some a)) "Swap").run PP w = ((receiverAt 152 (.val (.pointer (some a))) false (some (("Swap".splitOn ".").getLastD "Swap"))) >>= fun r => pure (170, r)).run PP w := by kernel_rfl
theorem mSwap152_ok (v : Value) (w : World) (r : Value) (h : (Instr.loadAt 151 v).run PP w = .ok r w) : (method (PP.types.size + Made.depth) 152 v "Swap").run PP w = .ok (170, r) w := by
 obtain ⟨a, rfl, h2⟩ := load_inv h
 rw [mSwap152_at, Sem.run_bind, recv_at152, h2]
 rfl
theorem mPush152_ok (v : Value) (w : World) : (method (PP.types.size + Made.depth) 152 v "Push").run PP w = .ok (173, v) w := by kernel_rfl
theorem recv_at129 (a : Addr) (w : World) (nm : String) : (receiverAt 129 (.val (.pointer (some a))) false (some nm)).run PP w = (loadVar 127 a).run PP w := by kernel_rfl
theorem mLen129_at (a : Addr) (w : World) : (method (PP.types.size + Made.depth) 129 (.pointer (some a)) "Len").run PP w = ((receiverAt 129 (.val (.pointer (some a))) false (some (("Len".splitOn ".").getLastD "Len"))) >>= fun r => pure (163, r)).run PP w := by kernel_rfl
theorem mLen129_ok (v : Value) (w : World) (r : Value) (h : (Instr.loadAt 127 v).run PP w = .ok r w) : (method (PP.types.size + Made.depth) 129 v "Len").run PP w = .ok (163, r) w := by
 obtain ⟨a, rfl, h2⟩ := load_inv h
 rw [mLen129_at, Sem.run_bind, recv_at129, h2]
 rfl
theorem mLess129_at (a : Addr) (w : World) : (method (PP.types.size + Made.depth) 129 (.pointer (some a)) "Less").run PP w = ((receiverAt 129 (.val (.pointer (some a))) false (some (("Less".splitOn ".").getLastD "Less"))) >>= fun r => pure (164, r)).run PP w := by kernel_rfl
theorem mLess129_ok (v : Value) (w : World) (r : Value) (h : (Instr.loadAt 127 v).run PP w = .ok r w) : (method (PP.types.size + Made.depth) 129 v "Less").run PP w = .ok (164, r) w := by
 obtain ⟨a, rfl, h2⟩ := load_inv h
 rw [mLess129_at, Sem.run_bind, recv_at129, h2]
 rfl
theorem mSwap129_at (a : Addr) (w : World) : (method (PP.types.size + Made.depth) 129 (.pointer (some a)) "Swap").run PP w = ((receiverAt 129 (.val (.pointer (some a))) false (some (("Swap".splitOn ".").getLastD "Swap"))) >>= fun r => pure (165, r)).run PP w := by kernel_rfl
theorem mSwap129_ok (v : Value) (w : World) (r : Value) (h : (Instr.loadAt 127 v).run PP w = .ok r w) : (method (PP.types.size + Made.depth) 129 v "Swap").run PP w = .ok (165, r) w := by
 obtain ⟨a, rfl, h2⟩ := load_inv h
 rw [mSwap129_at, Sem.run_bind, recv_at129, h2]
 rfl
theorem mPush129_ok (v : Value) (w : World) : (method (PP.types.size + Made.depth) 129 v "Push").run PP w = .ok (167, v) w := by kernel_rfl
theorem mLen45_ok (v : Value) (w : World) : (method (PP.types.size + Made.depth) 45 v "Len").run PP w = .ok (158, v) w := by kernel_rfl
theorem mLess45_ok (v : Value) (w : World) : (method (PP.types.size + Made.depth) 45 v "Less").run PP w = .ok (159, v) w := by kernel_rfl
theorem mSwap45_ok (v : Value) (w : World) : (method (PP.types.size + Made.depth) 45 v "Swap").run PP w = .ok (161, v) w := by kernel_rfl
theorem mPush45_ok (v : Value) (w : World) : (method (PP.types.size + Made.depth) 45 v "Push").run PP w = .ok (160, v) w := by kernel_rfl
theorem get_skip {t n f d r u m} (h : ¬ Nat.beq t u = true) : MTabL.get? ((t, n, f, d) :: r) u m = MTabL.get? r u m := by
 cases hb : Nat.beq t u
 ·simp only [MTabL.get?, hb]
 ·exact absurd hb h
theorem get_here {t n f d r m} (e : n = m) : MTabL.get? ((t, n, f, d) :: r) t m = some (f, d) := by
 simp only [MTabL.get?, Nat.beq_refl, decide_eq_true e]
theorem get_next {t n f d r m} (e : ¬ n = m) : MTabL.get? ((t, n, f, d) :: r) t m = MTabL.get? r t m := by
 simp only [MTabL.get?, Nat.beq_refl, decide_eq_false e]
theorem M_ok : MTabOK PP T M := fun t m f d h v w => by
 simp only [MTab.get?, M, mrows] at h
 by_cases ht : Nat.beq 152 t = true
 ·obtain rfl := Nat.eq_of_beq_eq_true ht
  by_cases e : "Len" = m
  ·rw [get_here e] at h
   subst e
   simp at h
   obtain ⟨rfl, rfl⟩ := h
   exact fun r hr => mLen152_ok v w r hr
  rw [get_next e] at h
  clear e
  by_cases e : "Less" = m
  ·rw [get_here e] at h
   subst e
   simp at h
   obtain ⟨rfl, rfl⟩ := h
   exact fun r hr => mLess152_ok v w r hr
  rw [get_next e] at h
  clear e
  by_cases e : "Swap" = m
  ·rw [get_here e] at h
   subst e
   simp at h
   obtain ⟨rfl, rfl⟩ := h
   exact fun r hr => mSwap152_ok v w r hr
  rw [get_next e] at h
  clear e
  by_cases e : "Push" = m
  ·rw [get_here e] at h
   subst e
   simp at h
   obtain ⟨rfl, rfl⟩ := h
   exact mPush152_ok v w
  rw [get_next e] at h
  clear e
  rw [get_skip (by decide)] at h
  rw [get_skip (by decide)] at h
  rw [get_skip (by decide)] at h
  rw [get_skip (by decide)] at h
  rw [get_skip (by decide)] at h
  rw [get_skip (by decide)] at h
  rw [get_skip (by decide)] at h
  rw [get_skip (by decide)] at h
  cases h
 rw [get_skip ht] at h
 rw [get_skip ht] at h
 rw [get_skip ht] at h
 rw [get_skip ht] at h
 clear ht
 by_cases ht : Nat.beq 129 t = true
 ·obtain rfl := Nat.eq_of_beq_eq_true ht
  by_cases e : "Len" = m
  ·rw [get_here e] at h
   subst e
   simp at h
   obtain ⟨rfl, rfl⟩ := h
   exact fun r hr => mLen129_ok v w r hr
  rw [get_next e] at h
  clear e
  by_cases e : "Less" = m
  ·rw [get_here e] at h
   subst e
   simp at h
   obtain ⟨rfl, rfl⟩ := h
   exact fun r hr => mLess129_ok v w r hr
  rw [get_next e] at h
  clear e
  by_cases e : "Swap" = m
  ·rw [get_here e] at h
   subst e
   simp at h
   obtain ⟨rfl, rfl⟩ := h
   exact fun r hr => mSwap129_ok v w r hr
  rw [get_next e] at h
  clear e
  by_cases e : "Push" = m
  ·rw [get_here e] at h
   subst e
   simp at h
   obtain ⟨rfl, rfl⟩ := h
   exact mPush129_ok v w
  rw [get_next e] at h
  clear e
  rw [get_skip (by decide)] at h
  rw [get_skip (by decide)] at h
  rw [get_skip (by decide)] at h
  rw [get_skip (by decide)] at h
  cases h
 rw [get_skip ht] at h
 rw [get_skip ht] at h
 rw [get_skip ht] at h
 rw [get_skip ht] at h
 clear ht
 by_cases ht : Nat.beq 45 t = true
 ·obtain rfl := Nat.eq_of_beq_eq_true ht
  by_cases e : "Len" = m
  ·rw [get_here e] at h
   subst e
   simp at h
   obtain ⟨rfl, rfl⟩ := h
   exact mLen45_ok v w
  rw [get_next e] at h
  clear e
  by_cases e : "Less" = m
  ·rw [get_here e] at h
   subst e
   simp at h
   obtain ⟨rfl, rfl⟩ := h
   exact mLess45_ok v w
  rw [get_next e] at h
  clear e
  by_cases e : "Swap" = m
  ·rw [get_here e] at h
   subst e
   simp at h
   obtain ⟨rfl, rfl⟩ := h
   exact mSwap45_ok v w
  rw [get_next e] at h
  clear e
  by_cases e : "Push" = m
  ·rw [get_here e] at h
   subst e
   simp at h
   obtain ⟨rfl, rfl⟩ := h
   exact mPush45_ok v w
  rw [get_next e] at h
  clear e
  cases h
 rw [get_skip ht] at h
 rw [get_skip ht] at h
 rw [get_skip ht] at h
 rw [get_skip ht] at h
 clear ht
 cases h
theorem P_ok : ProgOK Go.Proofs.Tryz.prog T M := ⟨T_ok, M_ok, by kernel_rfl⟩
end Go.Proofs.YtoeekjddeknmbaaGreat
