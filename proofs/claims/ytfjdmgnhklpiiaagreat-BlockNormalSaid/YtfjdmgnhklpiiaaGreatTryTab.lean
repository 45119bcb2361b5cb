/-
  The table of the types of this seat's program, looked over: 'T_ok'. (The rows are printed by a program of ours.)
-/
import Derived.Test.YtfjdmgnhklpiiaaGreatAl3
import Derived.Test.YtfjdmgnhklpiiaaGreatProg
namespace Go.Proofs.YtfjdmgnhklpiiaaGreat
open Go Go.AL
def rows : TabL := [
  (1, TI.mk TD.func 1 8 AVal.nilf true),
  (2, TI.mk (TD.int IntKind.i64) 1 8 (AVal.int IntKind.i64 (0)) true),
  (3, TI.mk (TD.int IntKind.i64) 1 8 (AVal.int IntKind.i64 (0)) true),
  (4, TI.mk TD.bool 1 1 (AVal.bool false) true),
  (5, TI.mk (TD.int IntKind.u8) 1 1 (AVal.int IntKind.u8 (0)) true),
  (6, TI.mk (TD.int IntKind.u8) 1 1 (AVal.int IntKind.u8 (0)) true),
  (7, TI.mk (TD.struct [(0, 2), (1, 3), (2, 4), (3, 6)]) 4 24 (AVal.agg [AVal.int IntKind.i64 (0), AVal.int IntKind.i64 (0), AVal.bool false, AVal.int IntKind.u8 (0)]) true),
  (8, TI.mk (TD.struct [(0, 2), (1, 3), (2, 4), (3, 6)]) 4 24 (AVal.agg [AVal.int IntKind.i64 (0), AVal.int IntKind.i64 (0), AVal.bool false, AVal.int IntKind.u8 (0)]) true),
  (9, TI.mk TD.str 1 16 (AVal.str []) true),
  (10, TI.mk TD.str 1 16 (AVal.str []) true),
  (11, TI.mk TD.str 1 16 (AVal.str []) true),
  (12, TI.mk (TD.int IntKind.u64) 1 8 (AVal.int IntKind.u64 (0)) true),
  (13, TI.mk (TD.struct [(0, 9), (1, 12)]) 2 24 (AVal.agg [AVal.str [], AVal.int IntKind.u64 (0)]) false),
  (14, TI.mk (TD.struct [(0, 9), (1, 12)]) 2 24 (AVal.agg [AVal.str [], AVal.int IntKind.u64 (0)]) false),
  (15, TI.mk (TD.ptr 172) 1 8 AVal.nilp true),
  (16, TI.mk (TD.ptr 175) 1 8 AVal.nilp true),
  (17, TI.mk (TD.ptr 183) 1 8 AVal.nilp true),
  (18, TI.mk (TD.struct [(0, 17)]) 1 8 (AVal.agg [AVal.nilp]) false),
  (19, TI.mk (TD.struct [(0, 17)]) 1 8 (AVal.agg [AVal.nilp]) false),
  (20, TI.mk TD.iface 1 16 AVal.nili true),
  (21, TI.mk (TD.int IntKind.i32) 1 4 (AVal.int IntKind.i32 (0)) true),
  (22, TI.mk (TD.slice 5) 1 24 (AVal.ls LX.nl Cap.nil) true),
  (23, TI.mk TD.func 1 8 AVal.nilf true),
  (24, TI.mk (TD.ptr 68) 1 8 AVal.nilp true),
  (25, TI.mk TD.func 1 8 AVal.nilf true),
  (26, TI.mk (TD.slice 3) 1 24 (AVal.ls LX.nl Cap.nil) true),
  (27, TI.mk (TD.struct [(0, 3), (1, 3), (2, 3), (3, 26), (4, 3), (5, 3), (6, 3), (7, 26), (8, 26)]) 9 120 (AVal.agg [AVal.int IntKind.i64 (0), AVal.int IntKind.i64 (0), AVal.int IntKind.i64 (0), AVal.ls LX.nl Cap.nil, AVal.int IntKind.i64 (0), AVal.int IntKind.i64 (0), AVal.int IntKind.i64 (0), AVal.ls LX.nl Cap.nil, AVal.ls LX.nl Cap.nil]) true),
  (28, TI.mk (TD.struct [(0, 3), (1, 3), (2, 3), (3, 26), (4, 3), (5, 3), (6, 3), (7, 26), (8, 26)]) 9 120 (AVal.agg [AVal.int IntKind.i64 (0), AVal.int IntKind.i64 (0), AVal.int IntKind.i64 (0), AVal.ls LX.nl Cap.nil, AVal.int IntKind.i64 (0), AVal.int IntKind.i64 (0), AVal.int IntKind.i64 (0), AVal.ls LX.nl Cap.nil, AVal.ls LX.nl Cap.nil]) true),
  (30, TI.mk TD.func 1 8 AVal.nilf true),
  (31, TI.mk (TD.struct [(0, 9), (1, 3), (2, 3)]) 3 32 (AVal.agg [AVal.str [], AVal.int IntKind.i64 (0), AVal.int IntKind.i64 (0)]) true),
  (32, TI.mk (TD.struct [(0, 9), (1, 3), (2, 3)]) 3 32 (AVal.agg [AVal.str [], AVal.int IntKind.i64 (0), AVal.int IntKind.i64 (0)]) true),
  (34, TI.mk TD.func 1 8 AVal.nilf true),
  (35, TI.mk TD.func 1 8 AVal.nilf true),
  (36, TI.mk (TD.int IntKind.i64) 1 8 (AVal.int IntKind.i64 (0)) true),
  (37, TI.mk TD.func 1 8 AVal.nilf true),
  (38, TI.mk TD.func 1 8 AVal.nilf true),
  (39, TI.mk TD.func 1 8 AVal.nilf true),
  (40, TI.mk TD.func 1 8 AVal.nilf true),
  (41, TI.mk TD.func 1 8 AVal.nilf true),
  (42, TI.mk TD.func 1 8 AVal.nilf true),
  (43, TI.mk TD.func 1 8 AVal.nilf true),
  (44, TI.mk (TD.struct [(0, 3), (1, 3), (2, 3), (3, 3), (4, 26)]) 5 56 (AVal.agg [AVal.int IntKind.i64 (0), AVal.int IntKind.i64 (0), AVal.int IntKind.i64 (0), AVal.int IntKind.i64 (0), AVal.ls LX.nl Cap.nil]) true),
  (45, TI.mk (TD.struct [(0, 3), (1, 3), (2, 3), (3, 3), (4, 26)]) 5 56 (AVal.agg [AVal.int IntKind.i64 (0), AVal.int IntKind.i64 (0), AVal.int IntKind.i64 (0), AVal.int IntKind.i64 (0), AVal.ls LX.nl Cap.nil]) true),
  (47, TI.mk TD.func 1 8 AVal.nilf true),
  (48, TI.mk (TD.struct [(0, 3), (1, 3)]) 2 16 (AVal.agg [AVal.int IntKind.i64 (0), AVal.int IntKind.i64 (0)]) true),
  (49, TI.mk (TD.struct [(0, 3), (1, 3)]) 2 16 (AVal.agg [AVal.int IntKind.i64 (0), AVal.int IntKind.i64 (0)]) true),
  (51, TI.mk TD.func 1 8 AVal.nilf true),
  (53, TI.mk TD.func 1 8 AVal.nilf true),
  (54, TI.mk TD.func 1 8 AVal.nilf true),
  (55, TI.mk TD.func 1 8 AVal.nilf true),
  (57, TI.mk TD.func 1 8 AVal.nilf true),
  (58, TI.mk (TD.struct [(0, 22), (1, 3)]) 2 32 (AVal.agg [AVal.ls LX.nl Cap.nil, AVal.int IntKind.i64 (0)]) true),
  (59, TI.mk (TD.struct [(0, 22), (1, 3)]) 2 32 (AVal.agg [AVal.ls LX.nl Cap.nil, AVal.int IntKind.i64 (0)]) true),
  (60, TI.mk TD.func 1 8 AVal.nilf true),
  (61, TI.mk (TD.ptr 59) 1 8 AVal.nilp true),
  (62, TI.mk TD.func 1 8 AVal.nilf true),
  (63, TI.mk TD.func 1 8 AVal.nilf true),
  (64, TI.mk TD.func 1 8 AVal.nilf true),
  (65, TI.mk TD.func 1 8 AVal.nilf true),
  (66, TI.mk TD.func 1 8 AVal.nilf true),
  (67, TI.mk (TD.struct [(0, 22), (1, 3), (2, 36)]) 3 40 (AVal.agg [AVal.ls LX.nl Cap.nil, AVal.int IntKind.i64 (0), AVal.int IntKind.i64 (0)]) true),
  (68, TI.mk (TD.struct [(0, 22), (1, 3), (2, 36)]) 3 40 (AVal.agg [AVal.ls LX.nl Cap.nil, AVal.int IntKind.i64 (0), AVal.int IntKind.i64 (0)]) true),
  (69, TI.mk TD.func 1 8 AVal.nilf true),
  (70, TI.mk (TD.int IntKind.i64) 1 8 (AVal.int IntKind.i64 (0)) true),
  (71, TI.mk TD.func 1 8 AVal.nilf true),
  (72, TI.mk (TD.int IntKind.u64) 1 8 (AVal.int IntKind.u64 (0)) true),
  (73, TI.mk TD.func 1 8 AVal.nilf true),
  (74, TI.mk TD.func 1 8 AVal.nilf true),
  (75, TI.mk TD.func 1 8 AVal.nilf true),
  (76, TI.mk TD.func 1 8 AVal.nilf true),
  (77, TI.mk TD.func 1 8 AVal.nilf true),
  (79, TI.mk TD.func 1 8 AVal.nilf true),
  (81, TI.mk TD.func 1 8 AVal.nilf true),
  (82, TI.mk (TD.struct [(0, 3), (1, 26)]) 2 32 (AVal.agg [AVal.int IntKind.i64 (0), AVal.ls LX.nl Cap.nil]) true),
  (83, TI.mk (TD.struct [(0, 3), (1, 26)]) 2 32 (AVal.agg [AVal.int IntKind.i64 (0), AVal.ls LX.nl Cap.nil]) true),
  (85, TI.mk TD.func 1 8 AVal.nilf true),
  (86, TI.mk TD.func 1 8 AVal.nilf true),
  (88, TI.mk TD.func 1 8 AVal.nilf true),
  (89, TI.mk TD.func 1 8 AVal.nilf true),
  (90, TI.mk TD.func 1 8 AVal.nilf true),
  (91, TI.mk TD.func 1 8 AVal.nilf true),
  (92, TI.mk TD.func 1 8 AVal.nilf true),
  (93, TI.mk TD.func 1 8 AVal.nilf true),
  (94, TI.mk TD.func 1 8 AVal.nilf true),
  (95, TI.mk (TD.struct [(0, 3), (1, 26)]) 2 32 (AVal.agg [AVal.int IntKind.i64 (0), AVal.ls LX.nl Cap.nil]) true),
  (97, TI.mk TD.func 1 8 AVal.nilf true),
  (98, TI.mk TD.func 1 8 AVal.nilf true),
  (99, TI.mk TD.func 1 8 AVal.nilf true),
  (100, TI.mk TD.func 1 8 AVal.nilf true),
  (101, TI.mk TD.func 1 8 AVal.nilf true),
  (102, TI.mk TD.func 1 8 AVal.nilf true),
  (103, TI.mk TD.func 1 8 AVal.nilf true),
  (104, TI.mk TD.func 1 8 AVal.nilf true),
  (105, TI.mk TD.func 1 8 AVal.nilf true),
  (106, TI.mk TD.func 1 8 AVal.nilf true),
  (107, TI.mk TD.func 1 8 AVal.nilf true),
  (108, TI.mk TD.func 1 8 AVal.nilf true),
  (109, TI.mk TD.func 1 8 AVal.nilf true),
  (110, TI.mk TD.func 1 8 AVal.nilf true),
  (111, TI.mk TD.func 1 8 AVal.nilf true),
  (112, TI.mk TD.func 1 8 AVal.nilf true),
  (113, TI.mk TD.func 1 8 AVal.nilf true),
  (114, TI.mk TD.func 1 8 AVal.nilf true),
  (115, TI.mk (TD.int IntKind.u64) 1 8 (AVal.int IntKind.u64 (0)) true),
  (116, TI.mk TD.func 1 8 AVal.nilf true),
  (117, TI.mk TD.func 1 8 AVal.nilf true),
  (119, TI.mk TD.func 1 8 AVal.nilf true),
  (120, TI.mk TD.func 1 8 AVal.nilf true),
  (121, TI.mk TD.func 1 8 AVal.nilf true),
  (122, TI.mk TD.func 1 8 AVal.nilf true),
  (123, TI.mk TD.func 1 8 AVal.nilf true),
  (124, TI.mk TD.func 1 8 AVal.nilf true),
  (125, TI.mk (TD.slice 26) 1 24 (AVal.ls LX.nl Cap.nil) true),
  (126, TI.mk (TD.struct [(0, 125)]) 1 24 (AVal.agg [AVal.ls LX.nl Cap.nil]) true),
  (127, TI.mk (TD.struct [(0, 125)]) 1 24 (AVal.agg [AVal.ls LX.nl Cap.nil]) true),
  (128, TI.mk TD.func 1 8 AVal.nilf true),
  (129, TI.mk TD.func 1 8 AVal.nilf true),
  (130, TI.mk TD.func 1 8 AVal.nilf true),
  (131, TI.mk TD.func 1 8 AVal.nilf true),
  (132, TI.mk TD.func 1 8 AVal.nilf true),
  (133, TI.mk TD.func 1 8 AVal.nilf true),
  (134, TI.mk TD.func 1 8 AVal.nilf true),
  (135, TI.mk TD.func 1 8 AVal.nilf true),
  (137, TI.mk TD.func 1 8 AVal.nilf true),
  (138, TI.mk TD.func 1 8 AVal.nilf true),
  (139, TI.mk TD.func 1 8 AVal.nilf true),
  (140, TI.mk TD.func 1 8 AVal.nilf true),
  (141, TI.mk TD.func 1 8 AVal.nilf true),
  (142, TI.mk TD.func 1 8 AVal.nilf true),
  (143, TI.mk TD.func 1 8 AVal.nilf true),
  (144, TI.mk TD.func 1 8 AVal.nilf true),
  (145, TI.mk TD.func 1 8 AVal.nilf true),
  (146, TI.mk TD.func 1 8 AVal.nilf true),
  (148, TI.mk TD.func 1 8 AVal.nilf true),
  (149, TI.mk (TD.int IntKind.u32) 1 4 (AVal.int IntKind.u32 (0)) true),
  (151, TI.mk TD.func 1 8 AVal.nilf true),
  (153, TI.mk TD.func 1 8 AVal.nilf true),
  (154, TI.mk TD.func 1 8 AVal.nilf true),
  (155, TI.mk TD.func 1 8 AVal.nilf true),
  (156, TI.mk TD.func 1 8 AVal.nilf true),
  (157, TI.mk TD.func 1 8 AVal.nilf true),
  (158, TI.mk TD.func 1 8 AVal.nilf true),
  (159, TI.mk (TD.slice 164) 1 24 (AVal.ls LX.nl Cap.nil) true),
  (160, TI.mk (TD.slice 164) 1 24 (AVal.ls LX.nl Cap.nil) true),
  (161, TI.mk TD.func 1 8 AVal.nilf true),
  (162, TI.mk (TD.ptr 160) 1 8 AVal.nilp true),
  (163, TI.mk (TD.struct [(0, 3), (1, 3)]) 2 16 (AVal.agg [AVal.int IntKind.i64 (0), AVal.int IntKind.i64 (0)]) true),
  (164, TI.mk (TD.struct [(0, 3), (1, 3)]) 2 16 (AVal.agg [AVal.int IntKind.i64 (0), AVal.int IntKind.i64 (0)]) true),
  (165, TI.mk TD.iface 1 16 AVal.nili true),
  (166, TI.mk TD.iface 1 16 AVal.nili true),
  (167, TI.mk TD.func 1 8 AVal.nilf true),
  (168, TI.mk TD.func 1 8 AVal.nilf true),
  (169, TI.mk TD.func 1 8 AVal.nilf true),
  (170, TI.mk TD.func 1 8 AVal.nilf true),
  (171, TI.mk (TD.struct [(0, 17), (1, 17), (2, 17), (3, 9)]) 4 40 (AVal.agg [AVal.nilp, AVal.nilp, AVal.nilp, AVal.str []]) false),
  (172, TI.mk (TD.struct [(0, 17), (1, 17), (2, 17), (3, 9)]) 4 40 (AVal.agg [AVal.nilp, AVal.nilp, AVal.nilp, AVal.str []]) false),
  (173, TI.mk (TD.array 0 16) 0 0 (AVal.agg []) true),
  (174, TI.mk (TD.struct [(0, 173)]) 0 0 (AVal.agg []) false),
  (175, TI.mk (TD.struct [(0, 173)]) 0 0 (AVal.agg []) false),
  (176, TI.mk (TD.int IntKind.u8) 1 1 (AVal.int IntKind.u8 (0)) true),
  (177, TI.mk (TD.int IntKind.u8) 1 1 (AVal.int IntKind.u8 (0)) true),
  (178, TI.mk TD.func 1 8 AVal.nilf true),
  (179, TI.mk (TD.ptr 5) 1 8 AVal.nilp true),
  (180, TI.mk (TD.int IntKind.i32) 1 4 (AVal.int IntKind.i32 (0)) true),
  (181, TI.mk (TD.int IntKind.i32) 1 4 (AVal.int IntKind.i32 (0)) true),
  (182, TI.mk (TD.struct [(0, 12), (1, 12), (2, 149), (3, 176), (4, 5), (5, 5), (6, 177), (7, 178), (8, 179), (9, 180), (10, 181)]) 11 48 (AVal.agg [AVal.int IntKind.u64 (0), AVal.int IntKind.u64 (0), AVal.int IntKind.u32 (0), AVal.int IntKind.u8 (0), AVal.int IntKind.u8 (0), AVal.int IntKind.u8 (0), AVal.int IntKind.u8 (0), AVal.nilf, AVal.nilp, AVal.int IntKind.i32 (0), AVal.int IntKind.i32 (0)]) false),
  (183, TI.mk (TD.struct [(0, 12), (1, 12), (2, 149), (3, 176), (4, 5), (5, 5), (6, 177), (7, 178), (8, 179), (9, 180), (10, 181)]) 11 48 (AVal.agg [AVal.int IntKind.u64 (0), AVal.int IntKind.u64 (0), AVal.int IntKind.u32 (0), AVal.int IntKind.u8 (0), AVal.int IntKind.u8 (0), AVal.int IntKind.u8 (0), AVal.int IntKind.u8 (0), AVal.nilf, AVal.nilp, AVal.int IntKind.i32 (0), AVal.int IntKind.i32 (0)]) false),
  (184, TI.mk TD.func 1 8 AVal.nilf true),
  (185, TI.mk TD.func 1 8 AVal.nilf true),
  (187, TI.mk TD.func 1 8 AVal.nilf true)]
def T : Tab := fun t => TabL.get? rows t
theorem T_ok : TabOK Go.Proofs.Tryz.prog T := tabB_spec rows rfl (by kernel_rfl)
def mrows : MTabL := [(162, "Len", 168, some 160), (162, "Less", 169, some 160), (162, "Swap", 170, some 160), (162, "Push", 172, none), (162, "Pop", 174, none)]
def M : MTab := fun t m => MTabL.get? mrows t m
noncomputable abbrev PP : Program := Go.Proofs.Tryz.prog
theorem recv_at (a : Addr) (w : World) (nm : String) : (receiverAt 162 (.val (.pointer (some a))) false (some nm)).run PP w = (loadVar 160 a).run PP w := by kernel_rfl
theorem load_inv {u : Nat} {v : Value} {w : World} {r : Value} (h : (Instr.loadAt u v).run PP w = .ok r w) : ∃ a, v = .pointer (some a) ∧ (loadVar u a).run PP w = .ok r w := by
  cases v with
  | pointer a =>
    cases a with
    | none => simp [Instr.loadAt, Instr.sureAddr] at h
    | some a => exact ⟨a, rfl, by simpa [Instr.loadAt, Instr.sureAddr] using h⟩
  | _ => simp [Instr.loadAt, Instr.sureAddr] at h
theorem mLen_at (a : Addr) (w : World) : (method (PP.types.size + Made.depth) 162 (.pointer (some a)) "Len").run PP w = ((receiverAt 162 (.val (.pointer (some a))) false (some (("Len".splitOn ".").getLastD "Len"))) >>= fun r => pure (168, r)).run PP w := by kernel_rfl
theorem mLen_ok (v : Value) (w : World) (r : Value) (h : (Instr.loadAt 160 v).run PP w = .ok r w) : (method (PP.types.size + Made.depth) 162 v "Len").run PP w = .ok (168, r) w := by
  obtain ⟨a, rfl, h2⟩ := load_inv h
  rw [mLen_at, Sem.run_bind, recv_at, h2]
  rfl
theorem mLess_at (a : Addr) (w : World) : (method (PP.types.size + Made.depth) 162 (.pointer (some a)) "Less").run PP w = ((receiverAt 162 (.val (.pointer (some a))) false (some (("Less".splitOn ".").getLastD "Less"))) >>= fun r => pure (169, r)).run PP w := by kernel_rfl
theorem mLess_ok (v : Value) (w : World) (r : Value) (h : (Instr.loadAt 160 v).run PP w = .ok r w) : (method (PP.types.size + Made.depth) 162 v "Less").run PP w = .ok (169, r) w := by
  obtain ⟨a, rfl, h2⟩ := load_inv h
  rw [mLess_at, Sem.run_bind, recv_at, h2]
  rfl
theorem mSwap_at (a : Addr) (w : World) : (method (PP.types.size + Made.depth) 162 (.pointer (some a)) "Swap").run PP w = ((receiverAt 162 (.val (.pointer (some a))) false (some (("Swap".splitOn ".").getLastD "Swap"))) >>= fun r => pure (170, r)).run PP w := by kernel_rfl
theorem mSwap_ok (v : Value) (w : World) (r : Value) (h : (Instr.loadAt 160 v).run PP w = .ok r w) : (method (PP.types.size + Made.depth) 162 v "Swap").run PP w = .ok (170, r) w := by
  obtain ⟨a, rfl, h2⟩ := load_inv h
  rw [mSwap_at, Sem.run_bind, recv_at, h2]
  rfl
theorem mPush_ok (v : Value) (w : World) : (method (PP.types.size + Made.depth) 162 v "Push").run PP w = .ok (172, v) w := by kernel_rfl
theorem mPop_ok (v : Value) (w : World) : (method (PP.types.size + Made.depth) 162 v "Pop").run PP w = .ok (174, v) w := by kernel_rfl
theorem M_ok : MTabOK PP T M := fun t m f d h v w => by
  simp only [MTab.get?, M, mrows, MTabL.get?] at h
  by_cases ht : Nat.beq 162 t = true
  case neg => simp [ht] at h
  obtain rfl := Nat.eq_of_beq_eq_true ht
  simp only at h
  by_cases e : "Len" = m
  · subst e
    simp at h
    obtain ⟨rfl, rfl⟩ := h
    exact fun r hr => mLen_ok v w r hr
  simp only [decide_eq_false e] at h
  by_cases e : "Less" = m
  · subst e
    simp at h
    obtain ⟨rfl, rfl⟩ := h
    exact fun r hr => mLess_ok v w r hr
  simp only [decide_eq_false e] at h
  by_cases e : "Swap" = m
  · subst e
    simp at h
    obtain ⟨rfl, rfl⟩ := h
    exact fun r hr => mSwap_ok v w r hr
  simp only [decide_eq_false e] at h
  by_cases e : "Push" = m
  · subst e
    simp at h
    obtain ⟨rfl, rfl⟩ := h
    exact mPush_ok v w
  simp only [decide_eq_false e] at h
  by_cases e : "Pop" = m
  · subst e
    simp at h
    obtain ⟨rfl, rfl⟩ := h
    exact mPop_ok v w
  simp only [decide_eq_false e] at h
  cases h
theorem P_ok : ProgOK Go.Proofs.Tryz.prog T M := ⟨T_ok, M_ok, by kernel_rfl⟩
end Go.Proofs.YtfjdmgnhklpiiaaGreat
