/- What the kernel has to know of the types: sizes, kinds, zero values. Written by a program (wip/gentt.py). -/
import Derived.Test.YtlcojlcackkhpaaProg
import Derived.Test.YtlcojlcackkhpaaK1
set_option maxRecDepth 100000
namespace Go.Proofs.Ytlcojlcackkhpaa
def tt : List (Nat × TI) := [(1, ⟨1, 8, .fnc, [.nilFunc]⟩),
  (2, ⟨1, 8, (.int .i64), [.int .i64 0]⟩),
  (3, ⟨1, 8, (.int .i64), [.int .i64 0]⟩),
  (4, ⟨1, 1, .bool, [.bool false]⟩),
  (5, ⟨1, 1, (.int .u8), [.int .u8 0]⟩),
  (6, ⟨1, 1, (.int .u8), [.int .u8 0]⟩),
  (7, ⟨4, 24, (.st [(0, 2), (1, 3), (2, 4), (3, 6)]), [.int .i64 0, .int .i64 0, .bool false, .int .u8 0]⟩),
  (8, ⟨4, 24, (.st [(0, 2), (1, 3), (2, 4), (3, 6)]), [.int .i64 0, .int .i64 0, .bool false, .int .u8 0]⟩),
  (9, ⟨1, 16, .str, [.string ⟨#[]⟩]⟩),
  (10, ⟨1, 16, .str, [.string ⟨#[]⟩]⟩),
  (11, ⟨1, 16, .str, [.string ⟨#[]⟩]⟩),
  (12, ⟨1, 8, (.int .u64), [.int .u64 0]⟩),
  (13, ⟨2, 24, (.st [(0, 9), (1, 12)]), [.string ⟨#[]⟩, .int .u64 0]⟩),
  (14, ⟨2, 24, (.st [(0, 9), (1, 12)]), [.string ⟨#[]⟩, .int .u64 0]⟩),
  (15, ⟨1, 8, (.ptr 139), [.pointer none]⟩),
  (16, ⟨1, 8, (.ptr 142), [.pointer none]⟩),
  (17, ⟨1, 8, (.ptr 151), [.pointer none]⟩),
  (18, ⟨1, 8, (.st [(0, 17)]), [.pointer none]⟩),
  (19, ⟨1, 8, (.st [(0, 17)]), [.pointer none]⟩),
  (20, ⟨1, 16, .oth, [.nilIface]⟩),
  (21, ⟨1, 4, (.int .i32), [.int .i32 0]⟩),
  (22, ⟨1, 8, (.ptr 87), [.pointer none]⟩),
  (23, ⟨1, 8, .fnc, [.nilFunc]⟩),
  (24, ⟨1, 8, (.ptr 29), [.pointer none]⟩),
  (25, ⟨1, 8, (.ptr 90), [.pointer none]⟩),
  (26, ⟨1, 8, .fnc, [.nilFunc]⟩),
  (27, ⟨1, 24, (.sl 3), [.slice none 0 0]⟩),
  (28, ⟨2, 32, (.st [(0, 3), (1, 27)]), [.int .i64 0, .slice none 0 0]⟩),
  (29, ⟨2, 32, (.st [(0, 3), (1, 27)]), [.int .i64 0, .slice none 0 0]⟩),
  (31, ⟨1, 8, .fnc, [.nilFunc]⟩),
  (32, ⟨1, 8, .fnc, [.nilFunc]⟩),
  (33, ⟨1, 8, .fnc, [.nilFunc]⟩),
  (35, ⟨1, 8, .fnc, [.nilFunc]⟩),
  (36, ⟨1, 8, .fnc, [.nilFunc]⟩),
  (37, ⟨1, 8, .fnc, [.nilFunc]⟩),
  (38, ⟨1, 8, .fnc, [.nilFunc]⟩),
  (39, ⟨1, 24, (.sl 66), [.slice none 0 0]⟩),
  (40, ⟨1, 8, (.ptr 44), [.pointer none]⟩),
  (41, ⟨1, 8, .fnc, [.nilFunc]⟩),
  (42, ⟨1, 24, (.sl 100), [.slice none 0 0]⟩),
  (43, ⟨1, 24, (.st [(0, 42)]), [.slice none 0 0]⟩),
  (44, ⟨1, 24, (.st [(0, 42)]), [.slice none 0 0]⟩),
  (45, ⟨1, 8, .fnc, [.nilFunc]⟩),
  (46, ⟨1, 8, (.ptr 49), [.pointer none]⟩),
  (47, ⟨1, 24, (.sl 103), [.slice none 0 0]⟩),
  (48, ⟨1, 24, (.st [(0, 47)]), [.slice none 0 0]⟩),
  (49, ⟨1, 24, (.st [(0, 47)]), [.slice none 0 0]⟩),
  (50, ⟨1, 8, .fnc, [.nilFunc]⟩),
  (51, ⟨1, 8, .fnc, [.nilFunc]⟩),
  (52, ⟨1, 8, .fnc, [.nilFunc]⟩),
  (53, ⟨1, 8, .fnc, [.nilFunc]⟩),
  (54, ⟨1, 8, .fnc, [.nilFunc]⟩),
  (55, ⟨1, 8, .fnc, [.nilFunc]⟩),
  (56, ⟨1, 8, .fnc, [.nilFunc]⟩),
  (58, ⟨1, 8, .fnc, [.nilFunc]⟩),
  (60, ⟨1, 8, .fnc, [.nilFunc]⟩),
  (61, ⟨1, 8, .fnc, [.nilFunc]⟩),
  (62, ⟨1, 8, .fnc, [.nilFunc]⟩),
  (63, ⟨1, 24, (.sl 4), [.slice none 0 0]⟩),
  (64, ⟨1, 8, .fnc, [.nilFunc]⟩),
  (65, ⟨5, 56, (.st [(0, 3), (1, 9), (2, 9), (3, 3), (4, 3)]), [.int .i64 0, .string ⟨#[]⟩, .string ⟨#[]⟩, .int .i64 0, .int .i64 0]⟩),
  (66, ⟨5, 56, (.st [(0, 3), (1, 9), (2, 9), (3, 3), (4, 3)]), [.int .i64 0, .string ⟨#[]⟩, .string ⟨#[]⟩, .int .i64 0, .int .i64 0]⟩),
  (67, ⟨1, 8, .fnc, [.nilFunc]⟩),
  (68, ⟨1, 8, .fnc, [.nilFunc]⟩),
  (69, ⟨1, 8, .fnc, [.nilFunc]⟩),
  (70, ⟨1, 24, (.sl 9), [.slice none 0 0]⟩),
  (71, ⟨1, 8, .fnc, [.nilFunc]⟩),
  (72, ⟨1, 8, (.ptr 108), [.pointer none]⟩),
  (73, ⟨1, 8, .fnc, [.nilFunc]⟩),
  (74, ⟨1, 8, .fnc, [.nilFunc]⟩),
  (75, ⟨1, 8, .fnc, [.nilFunc]⟩),
  (76, ⟨1, 8, .fnc, [.nilFunc]⟩),
  (77, ⟨1, 8, .fnc, [.nilFunc]⟩),
  (78, ⟨1, 8, .fnc, [.nilFunc]⟩),
  (79, ⟨1, 8, .fnc, [.nilFunc]⟩),
  (80, ⟨1, 8, .fnc, [.nilFunc]⟩),
  (81, ⟨1, 8, .fnc, [.nilFunc]⟩),
  (82, ⟨1, 8, .fnc, [.nilFunc]⟩),
  (83, ⟨1, 8, .fnc, [.nilFunc]⟩),
  (84, ⟨1, 8, .fnc, [.nilFunc]⟩),
  (85, ⟨1, 24, (.sl 92), [.slice none 0 0]⟩),
  (86, ⟨1, 24, (.st [(0, 85)]), [.slice none 0 0]⟩),
  (87, ⟨1, 24, (.st [(0, 85)]), [.slice none 0 0]⟩),
  (88, ⟨1, 24, (.sl 97), [.slice none 0 0]⟩),
  (89, ⟨1, 24, (.st [(0, 88)]), [.slice none 0 0]⟩),
  (90, ⟨1, 24, (.st [(0, 88)]), [.slice none 0 0]⟩),
  (91, ⟨2, 24, (.st [(0, 9), (1, 24)]), [.string ⟨#[]⟩, .pointer none]⟩),
  (92, ⟨2, 24, (.st [(0, 9), (1, 24)]), [.string ⟨#[]⟩, .pointer none]⟩),
  (93, ⟨1, 8, .fnc, [.nilFunc]⟩),
  (94, ⟨1, 8, (.ptr 24), [.pointer none]⟩),
  (95, ⟨1, 8, .fnc, [.nilFunc]⟩),
  (96, ⟨3, 48, (.st [(0, 9), (1, 29)]), [.string ⟨#[]⟩, .int .i64 0, .slice none 0 0]⟩),
  (97, ⟨3, 48, (.st [(0, 9), (1, 29)]), [.string ⟨#[]⟩, .int .i64 0, .slice none 0 0]⟩),
  (98, ⟨1, 8, .fnc, [.nilFunc]⟩),
  (99, ⟨2, 24, (.st [(0, 9), (1, 3)]), [.string ⟨#[]⟩, .int .i64 0]⟩),
  (100, ⟨2, 24, (.st [(0, 9), (1, 3)]), [.string ⟨#[]⟩, .int .i64 0]⟩),
  (101, ⟨1, 8, .fnc, [.nilFunc]⟩),
  (102, ⟨2, 24, (.st [(0, 9), (1, 3)]), [.string ⟨#[]⟩, .int .i64 0]⟩),
  (103, ⟨2, 24, (.st [(0, 9), (1, 3)]), [.string ⟨#[]⟩, .int .i64 0]⟩),
  (104, ⟨1, 8, .fnc, [.nilFunc]⟩),
  (105, ⟨1, 8, (.ptr 3), [.pointer none]⟩),
  (106, ⟨1, 24, (.sl 110), [.slice none 0 0]⟩),
  (107, ⟨1, 24, (.st [(0, 106)]), [.slice none 0 0]⟩),
  (108, ⟨1, 24, (.st [(0, 106)]), [.slice none 0 0]⟩),
  (109, ⟨2, 32, (.st [(0, 9), (1, 9)]), [.string ⟨#[]⟩, .string ⟨#[]⟩]⟩),
  (110, ⟨2, 32, (.st [(0, 9), (1, 9)]), [.string ⟨#[]⟩, .string ⟨#[]⟩]⟩),
  (111, ⟨1, 8, .fnc, [.nilFunc]⟩),
  (112, ⟨1, 8, (.ptr 9), [.pointer none]⟩),
  (113, ⟨1, 8, .fnc, [.nilFunc]⟩),
  (114, ⟨1, 24, (.sl 5), [.slice none 0 0]⟩),
  (115, ⟨1, 8, .fnc, [.nilFunc]⟩),
  (116, ⟨1, 8, .fnc, [.nilFunc]⟩),
  (117, ⟨1, 8, .fnc, [.nilFunc]⟩),
  (118, ⟨1, 8, .fnc, [.nilFunc]⟩),
  (119, ⟨1, 8, .fnc, [.nilFunc]⟩),
  (120, ⟨1, 8, .fnc, [.nilFunc]⟩),
  (121, ⟨1, 8, .fnc, [.nilFunc]⟩),
  (122, ⟨1, 8, .fnc, [.nilFunc]⟩),
  (123, ⟨1, 8, .fnc, [.nilFunc]⟩),
  (124, ⟨1, 8, .fnc, [.nilFunc]⟩),
  (125, ⟨1, 8, .fnc, [.nilFunc]⟩),
  (126, ⟨1, 8, .fnc, [.nilFunc]⟩),
  (127, ⟨1, 8, .fnc, [.nilFunc]⟩),
  (128, ⟨1, 8, .fnc, [.nilFunc]⟩),
  (129, ⟨1, 8, .fnc, [.nilFunc]⟩),
  (130, ⟨1, 8, .fnc, [.nilFunc]⟩),
  (131, ⟨1, 8, .fnc, [.nilFunc]⟩),
  (132, ⟨1, 8, (.int .u64), [.int .u64 0]⟩),
  (133, ⟨1, 8, .fnc, [.nilFunc]⟩),
  (134, ⟨1, 8, .fnc, [.nilFunc]⟩),
  (135, ⟨1, 8, .fnc, [.nilFunc]⟩),
  (136, ⟨1, 8, .fnc, [.nilFunc]⟩),
  (137, ⟨1, 8, .fnc, [.nilFunc]⟩),
  (138, ⟨4, 40, (.st [(0, 17), (1, 17), (2, 17), (3, 9)]), [.pointer none, .pointer none, .pointer none, .string ⟨#[]⟩]⟩),
  (139, ⟨4, 40, (.st [(0, 17), (1, 17), (2, 17), (3, 9)]), [.pointer none, .pointer none, .pointer none, .string ⟨#[]⟩]⟩),
  (140, ⟨0, 0, (.arr 0 16), []⟩),
  (141, ⟨0, 0, (.st [(0, 140)]), []⟩),
  (142, ⟨0, 0, (.st [(0, 140)]), []⟩),
  (143, ⟨1, 4, (.int .u32), [.int .u32 0]⟩),
  (144, ⟨1, 1, (.int .u8), [.int .u8 0]⟩),
  (145, ⟨1, 1, (.int .u8), [.int .u8 0]⟩),
  (146, ⟨1, 8, .fnc, [.nilFunc]⟩),
  (147, ⟨1, 8, (.ptr 5), [.pointer none]⟩),
  (148, ⟨1, 4, (.int .i32), [.int .i32 0]⟩),
  (149, ⟨1, 4, (.int .i32), [.int .i32 0]⟩),
  (150, ⟨11, 48, (.st [(0, 12), (1, 12), (2, 143), (3, 144), (4, 5), (5, 5), (6, 145), (7, 146), (8, 147), (9, 148), (10, 149)]), [.int .u64 0, .int .u64 0, .int .u32 0, .int .u8 0, .int .u8 0, .int .u8 0, .int .u8 0, .nilFunc, .pointer none, .int .i32 0, .int .i32 0]⟩),
  (151, ⟨11, 48, (.st [(0, 12), (1, 12), (2, 143), (3, 144), (4, 5), (5, 5), (6, 145), (7, 146), (8, 147), (9, 148), (10, 149)]), [.int .u64 0, .int .u64 0, .int .u32 0, .int .u8 0, .int .u8 0, .int .u8 0, .int .u8 0, .nilFunc, .pointer none, .int .i32 0, .int .i32 0]⟩),
  (152, ⟨1, 8, .fnc, [.nilFunc]⟩),
  (153, ⟨1, 8, .fnc, [.nilFunc]⟩),
  (154, ⟨1, 8, .oth, [.pointer none]⟩),
  (155, ⟨1, 8, .fnc, [.nilFunc]⟩),
  (156, ⟨1, 8, .fnc, [.nilFunc]⟩),
  (157, ⟨1, 8, .fnc, [.nilFunc]⟩),
  (158, ⟨1, 8, .fnc, [.nilFunc]⟩),
  (159, ⟨1, 8, .fnc, [.nilFunc]⟩),
  (160, ⟨1, 8, .fnc, [.nilFunc]⟩)]
theorem tt_1 : TIok Try.prog 1 ⟨1, 8, .fnc, [.nilFunc]⟩ := ⟨⟨Try.t1, _, rfl, rfl, rfl, rfl, rfl, rfl⟩, ⟨_, rfl, ⟨_, _, _, rfl⟩⟩⟩
theorem tt_2 : TIok Try.prog 2 ⟨1, 8, (.int .i64), [.int .i64 0]⟩ := ⟨⟨Try.t2, _, rfl, rfl, rfl, rfl, rfl, rfl⟩, ⟨_, rfl, rfl⟩⟩
theorem tt_3 : TIok Try.prog 3 ⟨1, 8, (.int .i64), [.int .i64 0]⟩ := ⟨⟨Try.t3, _, rfl, rfl, rfl, rfl, rfl, rfl⟩, ⟨_, rfl, rfl⟩⟩
theorem tt_4 : TIok Try.prog 4 ⟨1, 1, .bool, [.bool false]⟩ := ⟨⟨Try.t4, _, rfl, rfl, rfl, rfl, rfl, rfl⟩, ⟨_, rfl, rfl⟩⟩
theorem tt_5 : TIok Try.prog 5 ⟨1, 1, (.int .u8), [.int .u8 0]⟩ := ⟨⟨Try.t5, _, rfl, rfl, rfl, rfl, rfl, rfl⟩, ⟨_, rfl, rfl⟩⟩
theorem tt_6 : TIok Try.prog 6 ⟨1, 1, (.int .u8), [.int .u8 0]⟩ := ⟨⟨Try.t6, _, rfl, rfl, rfl, rfl, rfl, rfl⟩, ⟨_, rfl, rfl⟩⟩
theorem tt_7 : TIok Try.prog 7 ⟨4, 24, (.st [(0, 2), (1, 3), (2, 4), (3, 6)]), [.int .i64 0, .int .i64 0, .bool false, .int .u8 0]⟩ := ⟨⟨Try.t7, _, rfl, rfl, rfl, rfl, rfl, rfl⟩, ⟨_, rfl, ⟨_, rfl, rfl⟩⟩⟩
theorem tt_8 : TIok Try.prog 8 ⟨4, 24, (.st [(0, 2), (1, 3), (2, 4), (3, 6)]), [.int .i64 0, .int .i64 0, .bool false, .int .u8 0]⟩ := ⟨⟨Try.t8, _, rfl, rfl, rfl, rfl, rfl, rfl⟩, ⟨_, rfl, ⟨_, rfl, rfl⟩⟩⟩
theorem tt_9 : TIok Try.prog 9 ⟨1, 16, .str, [.string ⟨#[]⟩]⟩ := ⟨⟨Try.t9, _, rfl, rfl, rfl, rfl, rfl, rfl⟩, ⟨_, rfl, rfl⟩⟩
theorem tt_10 : TIok Try.prog 10 ⟨1, 16, .str, [.string ⟨#[]⟩]⟩ := ⟨⟨Try.t10, _, rfl, rfl, rfl, rfl, rfl, rfl⟩, ⟨_, rfl, rfl⟩⟩
theorem tt_11 : TIok Try.prog 11 ⟨1, 16, .str, [.string ⟨#[]⟩]⟩ := ⟨⟨Try.t11, _, rfl, rfl, rfl, rfl, rfl, rfl⟩, ⟨_, rfl, rfl⟩⟩
theorem tt_12 : TIok Try.prog 12 ⟨1, 8, (.int .u64), [.int .u64 0]⟩ := ⟨⟨Try.t12, _, rfl, rfl, rfl, rfl, rfl, rfl⟩, ⟨_, rfl, rfl⟩⟩
theorem tt_13 : TIok Try.prog 13 ⟨2, 24, (.st [(0, 9), (1, 12)]), [.string ⟨#[]⟩, .int .u64 0]⟩ := ⟨⟨Try.t13, _, rfl, rfl, rfl, rfl, rfl, rfl⟩, ⟨_, rfl, ⟨_, rfl, rfl⟩⟩⟩
theorem tt_14 : TIok Try.prog 14 ⟨2, 24, (.st [(0, 9), (1, 12)]), [.string ⟨#[]⟩, .int .u64 0]⟩ := ⟨⟨Try.t14, _, rfl, rfl, rfl, rfl, rfl, rfl⟩, ⟨_, rfl, ⟨_, rfl, rfl⟩⟩⟩
theorem tt_15 : TIok Try.prog 15 ⟨1, 8, (.ptr 139), [.pointer none]⟩ := ⟨⟨Try.t15, _, rfl, rfl, rfl, rfl, rfl, rfl⟩, ⟨_, rfl, rfl⟩⟩
theorem tt_16 : TIok Try.prog 16 ⟨1, 8, (.ptr 142), [.pointer none]⟩ := ⟨⟨Try.t16, _, rfl, rfl, rfl, rfl, rfl, rfl⟩, ⟨_, rfl, rfl⟩⟩
theorem tt_17 : TIok Try.prog 17 ⟨1, 8, (.ptr 151), [.pointer none]⟩ := ⟨⟨Try.t17, _, rfl, rfl, rfl, rfl, rfl, rfl⟩, ⟨_, rfl, rfl⟩⟩
theorem tt_18 : TIok Try.prog 18 ⟨1, 8, (.st [(0, 17)]), [.pointer none]⟩ := ⟨⟨Try.t18, _, rfl, rfl, rfl, rfl, rfl, rfl⟩, ⟨_, rfl, ⟨_, rfl, rfl⟩⟩⟩
theorem tt_19 : TIok Try.prog 19 ⟨1, 8, (.st [(0, 17)]), [.pointer none]⟩ := ⟨⟨Try.t19, _, rfl, rfl, rfl, rfl, rfl, rfl⟩, ⟨_, rfl, ⟨_, rfl, rfl⟩⟩⟩
theorem tt_20 : TIok Try.prog 20 ⟨1, 16, .oth, [.nilIface]⟩ := ⟨⟨Try.t20, _, rfl, rfl, rfl, rfl, rfl, rfl⟩, ⟨_, rfl, rfl⟩⟩
theorem tt_21 : TIok Try.prog 21 ⟨1, 4, (.int .i32), [.int .i32 0]⟩ := ⟨⟨Try.t21, _, rfl, rfl, rfl, rfl, rfl, rfl⟩, ⟨_, rfl, rfl⟩⟩
theorem tt_22 : TIok Try.prog 22 ⟨1, 8, (.ptr 87), [.pointer none]⟩ := ⟨⟨Try.t22, _, rfl, rfl, rfl, rfl, rfl, rfl⟩, ⟨_, rfl, rfl⟩⟩
theorem tt_23 : TIok Try.prog 23 ⟨1, 8, .fnc, [.nilFunc]⟩ := ⟨⟨Try.t23, _, rfl, rfl, rfl, rfl, rfl, rfl⟩, ⟨_, rfl, ⟨_, _, _, rfl⟩⟩⟩
theorem tt_24 : TIok Try.prog 24 ⟨1, 8, (.ptr 29), [.pointer none]⟩ := ⟨⟨Try.t24, _, rfl, rfl, rfl, rfl, rfl, rfl⟩, ⟨_, rfl, rfl⟩⟩
theorem tt_25 : TIok Try.prog 25 ⟨1, 8, (.ptr 90), [.pointer none]⟩ := ⟨⟨Try.t25, _, rfl, rfl, rfl, rfl, rfl, rfl⟩, ⟨_, rfl, rfl⟩⟩
theorem tt_26 : TIok Try.prog 26 ⟨1, 8, .fnc, [.nilFunc]⟩ := ⟨⟨Try.t26, _, rfl, rfl, rfl, rfl, rfl, rfl⟩, ⟨_, rfl, ⟨_, _, _, rfl⟩⟩⟩
theorem tt_27 : TIok Try.prog 27 ⟨1, 24, (.sl 3), [.slice none 0 0]⟩ := ⟨⟨Try.t27, _, rfl, rfl, rfl, rfl, rfl, rfl⟩, ⟨_, rfl, rfl⟩⟩
theorem tt_28 : TIok Try.prog 28 ⟨2, 32, (.st [(0, 3), (1, 27)]), [.int .i64 0, .slice none 0 0]⟩ := ⟨⟨Try.t28, _, rfl, rfl, rfl, rfl, rfl, rfl⟩, ⟨_, rfl, ⟨_, rfl, rfl⟩⟩⟩
theorem tt_29 : TIok Try.prog 29 ⟨2, 32, (.st [(0, 3), (1, 27)]), [.int .i64 0, .slice none 0 0]⟩ := ⟨⟨Try.t29, _, rfl, rfl, rfl, rfl, rfl, rfl⟩, ⟨_, rfl, ⟨_, rfl, rfl⟩⟩⟩
theorem tt_31 : TIok Try.prog 31 ⟨1, 8, .fnc, [.nilFunc]⟩ := ⟨⟨Try.t31, _, rfl, rfl, rfl, rfl, rfl, rfl⟩, ⟨_, rfl, ⟨_, _, _, rfl⟩⟩⟩
theorem tt_32 : TIok Try.prog 32 ⟨1, 8, .fnc, [.nilFunc]⟩ := ⟨⟨Try.t32, _, rfl, rfl, rfl, rfl, rfl, rfl⟩, ⟨_, rfl, ⟨_, _, _, rfl⟩⟩⟩
theorem tt_33 : TIok Try.prog 33 ⟨1, 8, .fnc, [.nilFunc]⟩ := ⟨⟨Try.t33, _, rfl, rfl, rfl, rfl, rfl, rfl⟩, ⟨_, rfl, ⟨_, _, _, rfl⟩⟩⟩
theorem tt_35 : TIok Try.prog 35 ⟨1, 8, .fnc, [.nilFunc]⟩ := ⟨⟨Try.t35, _, rfl, rfl, rfl, rfl, rfl, rfl⟩, ⟨_, rfl, ⟨_, _, _, rfl⟩⟩⟩
theorem tt_36 : TIok Try.prog 36 ⟨1, 8, .fnc, [.nilFunc]⟩ := ⟨⟨Try.t36, _, rfl, rfl, rfl, rfl, rfl, rfl⟩, ⟨_, rfl, ⟨_, _, _, rfl⟩⟩⟩
theorem tt_37 : TIok Try.prog 37 ⟨1, 8, .fnc, [.nilFunc]⟩ := ⟨⟨Try.t37, _, rfl, rfl, rfl, rfl, rfl, rfl⟩, ⟨_, rfl, ⟨_, _, _, rfl⟩⟩⟩
theorem tt_38 : TIok Try.prog 38 ⟨1, 8, .fnc, [.nilFunc]⟩ := ⟨⟨Try.t38, _, rfl, rfl, rfl, rfl, rfl, rfl⟩, ⟨_, rfl, ⟨_, _, _, rfl⟩⟩⟩
theorem tt_39 : TIok Try.prog 39 ⟨1, 24, (.sl 66), [.slice none 0 0]⟩ := ⟨⟨Try.t39, _, rfl, rfl, rfl, rfl, rfl, rfl⟩, ⟨_, rfl, rfl⟩⟩
theorem tt_40 : TIok Try.prog 40 ⟨1, 8, (.ptr 44), [.pointer none]⟩ := ⟨⟨Try.t40, _, rfl, rfl, rfl, rfl, rfl, rfl⟩, ⟨_, rfl, rfl⟩⟩
theorem tt_41 : TIok Try.prog 41 ⟨1, 8, .fnc, [.nilFunc]⟩ := ⟨⟨Try.t41, _, rfl, rfl, rfl, rfl, rfl, rfl⟩, ⟨_, rfl, ⟨_, _, _, rfl⟩⟩⟩
theorem tt_42 : TIok Try.prog 42 ⟨1, 24, (.sl 100), [.slice none 0 0]⟩ := ⟨⟨Try.t42, _, rfl, rfl, rfl, rfl, rfl, rfl⟩, ⟨_, rfl, rfl⟩⟩
theorem tt_43 : TIok Try.prog 43 ⟨1, 24, (.st [(0, 42)]), [.slice none 0 0]⟩ := ⟨⟨Try.t43, _, rfl, rfl, rfl, rfl, rfl, rfl⟩, ⟨_, rfl, ⟨_, rfl, rfl⟩⟩⟩
theorem tt_44 : TIok Try.prog 44 ⟨1, 24, (.st [(0, 42)]), [.slice none 0 0]⟩ := ⟨⟨Try.t44, _, rfl, rfl, rfl, rfl, rfl, rfl⟩, ⟨_, rfl, ⟨_, rfl, rfl⟩⟩⟩
theorem tt_45 : TIok Try.prog 45 ⟨1, 8, .fnc, [.nilFunc]⟩ := ⟨⟨Try.t45, _, rfl, rfl, rfl, rfl, rfl, rfl⟩, ⟨_, rfl, ⟨_, _, _, rfl⟩⟩⟩
theorem tt_46 : TIok Try.prog 46 ⟨1, 8, (.ptr 49), [.pointer none]⟩ := ⟨⟨Try.t46, _, rfl, rfl, rfl, rfl, rfl, rfl⟩, ⟨_, rfl, rfl⟩⟩
theorem tt_47 : TIok Try.prog 47 ⟨1, 24, (.sl 103), [.slice none 0 0]⟩ := ⟨⟨Try.t47, _, rfl, rfl, rfl, rfl, rfl, rfl⟩, ⟨_, rfl, rfl⟩⟩
theorem tt_48 : TIok Try.prog 48 ⟨1, 24, (.st [(0, 47)]), [.slice none 0 0]⟩ := ⟨⟨Try.t48, _, rfl, rfl, rfl, rfl, rfl, rfl⟩, ⟨_, rfl, ⟨_, rfl, rfl⟩⟩⟩
theorem tt_49 : TIok Try.prog 49 ⟨1, 24, (.st [(0, 47)]), [.slice none 0 0]⟩ := ⟨⟨Try.t49, _, rfl, rfl, rfl, rfl, rfl, rfl⟩, ⟨_, rfl, ⟨_, rfl, rfl⟩⟩⟩
theorem tt_50 : TIok Try.prog 50 ⟨1, 8, .fnc, [.nilFunc]⟩ := ⟨⟨Try.t50, _, rfl, rfl, rfl, rfl, rfl, rfl⟩, ⟨_, rfl, ⟨_, _, _, rfl⟩⟩⟩
theorem tt_51 : TIok Try.prog 51 ⟨1, 8, .fnc, [.nilFunc]⟩ := ⟨⟨Try.t51, _, rfl, rfl, rfl, rfl, rfl, rfl⟩, ⟨_, rfl, ⟨_, _, _, rfl⟩⟩⟩
theorem tt_52 : TIok Try.prog 52 ⟨1, 8, .fnc, [.nilFunc]⟩ := ⟨⟨Try.t52, _, rfl, rfl, rfl, rfl, rfl, rfl⟩, ⟨_, rfl, ⟨_, _, _, rfl⟩⟩⟩
theorem tt_53 : TIok Try.prog 53 ⟨1, 8, .fnc, [.nilFunc]⟩ := ⟨⟨Try.t53, _, rfl, rfl, rfl, rfl, rfl, rfl⟩, ⟨_, rfl, ⟨_, _, _, rfl⟩⟩⟩
theorem tt_54 : TIok Try.prog 54 ⟨1, 8, .fnc, [.nilFunc]⟩ := ⟨⟨Try.t54, _, rfl, rfl, rfl, rfl, rfl, rfl⟩, ⟨_, rfl, ⟨_, _, _, rfl⟩⟩⟩
theorem tt_55 : TIok Try.prog 55 ⟨1, 8, .fnc, [.nilFunc]⟩ := ⟨⟨Try.t55, _, rfl, rfl, rfl, rfl, rfl, rfl⟩, ⟨_, rfl, ⟨_, _, _, rfl⟩⟩⟩
theorem tt_56 : TIok Try.prog 56 ⟨1, 8, .fnc, [.nilFunc]⟩ := ⟨⟨Try.t56, _, rfl, rfl, rfl, rfl, rfl, rfl⟩, ⟨_, rfl, ⟨_, _, _, rfl⟩⟩⟩
theorem tt_58 : TIok Try.prog 58 ⟨1, 8, .fnc, [.nilFunc]⟩ := ⟨⟨Try.t58, _, rfl, rfl, rfl, rfl, rfl, rfl⟩, ⟨_, rfl, ⟨_, _, _, rfl⟩⟩⟩
theorem tt_60 : TIok Try.prog 60 ⟨1, 8, .fnc, [.nilFunc]⟩ := ⟨⟨Try.t60, _, rfl, rfl, rfl, rfl, rfl, rfl⟩, ⟨_, rfl, ⟨_, _, _, rfl⟩⟩⟩
theorem tt_61 : TIok Try.prog 61 ⟨1, 8, .fnc, [.nilFunc]⟩ := ⟨⟨Try.t61, _, rfl, rfl, rfl, rfl, rfl, rfl⟩, ⟨_, rfl, ⟨_, _, _, rfl⟩⟩⟩
theorem tt_62 : TIok Try.prog 62 ⟨1, 8, .fnc, [.nilFunc]⟩ := ⟨⟨Try.t62, _, rfl, rfl, rfl, rfl, rfl, rfl⟩, ⟨_, rfl, ⟨_, _, _, rfl⟩⟩⟩
theorem tt_63 : TIok Try.prog 63 ⟨1, 24, (.sl 4), [.slice none 0 0]⟩ := ⟨⟨Try.t63, _, rfl, rfl, rfl, rfl, rfl, rfl⟩, ⟨_, rfl, rfl⟩⟩
theorem tt_64 : TIok Try.prog 64 ⟨1, 8, .fnc, [.nilFunc]⟩ := ⟨⟨Try.t64, _, rfl, rfl, rfl, rfl, rfl, rfl⟩, ⟨_, rfl, ⟨_, _, _, rfl⟩⟩⟩
theorem tt_65 : TIok Try.prog 65 ⟨5, 56, (.st [(0, 3), (1, 9), (2, 9), (3, 3), (4, 3)]), [.int .i64 0, .string ⟨#[]⟩, .string ⟨#[]⟩, .int .i64 0, .int .i64 0]⟩ := ⟨⟨Try.t65, _, rfl, rfl, rfl, rfl, rfl, rfl⟩, ⟨_, rfl, ⟨_, rfl, rfl⟩⟩⟩
theorem tt_66 : TIok Try.prog 66 ⟨5, 56, (.st [(0, 3), (1, 9), (2, 9), (3, 3), (4, 3)]), [.int .i64 0, .string ⟨#[]⟩, .string ⟨#[]⟩, .int .i64 0, .int .i64 0]⟩ := ⟨⟨Try.t66, _, rfl, rfl, rfl, rfl, rfl, rfl⟩, ⟨_, rfl, ⟨_, rfl, rfl⟩⟩⟩
theorem tt_67 : TIok Try.prog 67 ⟨1, 8, .fnc, [.nilFunc]⟩ := ⟨⟨Try.t67, _, rfl, rfl, rfl, rfl, rfl, rfl⟩, ⟨_, rfl, ⟨_, _, _, rfl⟩⟩⟩
theorem tt_68 : TIok Try.prog 68 ⟨1, 8, .fnc, [.nilFunc]⟩ := ⟨⟨Try.t68, _, rfl, rfl, rfl, rfl, rfl, rfl⟩, ⟨_, rfl, ⟨_, _, _, rfl⟩⟩⟩
theorem tt_69 : TIok Try.prog 69 ⟨1, 8, .fnc, [.nilFunc]⟩ := ⟨⟨Try.t69, _, rfl, rfl, rfl, rfl, rfl, rfl⟩, ⟨_, rfl, ⟨_, _, _, rfl⟩⟩⟩
theorem tt_70 : TIok Try.prog 70 ⟨1, 24, (.sl 9), [.slice none 0 0]⟩ := ⟨⟨Try.t70, _, rfl, rfl, rfl, rfl, rfl, rfl⟩, ⟨_, rfl, rfl⟩⟩
theorem tt_71 : TIok Try.prog 71 ⟨1, 8, .fnc, [.nilFunc]⟩ := ⟨⟨Try.t71, _, rfl, rfl, rfl, rfl, rfl, rfl⟩, ⟨_, rfl, ⟨_, _, _, rfl⟩⟩⟩
theorem tt_72 : TIok Try.prog 72 ⟨1, 8, (.ptr 108), [.pointer none]⟩ := ⟨⟨Try.t72, _, rfl, rfl, rfl, rfl, rfl, rfl⟩, ⟨_, rfl, rfl⟩⟩
theorem tt_73 : TIok Try.prog 73 ⟨1, 8, .fnc, [.nilFunc]⟩ := ⟨⟨Try.t73, _, rfl, rfl, rfl, rfl, rfl, rfl⟩, ⟨_, rfl, ⟨_, _, _, rfl⟩⟩⟩
theorem tt_74 : TIok Try.prog 74 ⟨1, 8, .fnc, [.nilFunc]⟩ := ⟨⟨Try.t74, _, rfl, rfl, rfl, rfl, rfl, rfl⟩, ⟨_, rfl, ⟨_, _, _, rfl⟩⟩⟩
theorem tt_75 : TIok Try.prog 75 ⟨1, 8, .fnc, [.nilFunc]⟩ := ⟨⟨Try.t75, _, rfl, rfl, rfl, rfl, rfl, rfl⟩, ⟨_, rfl, ⟨_, _, _, rfl⟩⟩⟩
theorem tt_76 : TIok Try.prog 76 ⟨1, 8, .fnc, [.nilFunc]⟩ := ⟨⟨Try.t76, _, rfl, rfl, rfl, rfl, rfl, rfl⟩, ⟨_, rfl, ⟨_, _, _, rfl⟩⟩⟩
theorem tt_77 : TIok Try.prog 77 ⟨1, 8, .fnc, [.nilFunc]⟩ := ⟨⟨Try.t77, _, rfl, rfl, rfl, rfl, rfl, rfl⟩, ⟨_, rfl, ⟨_, _, _, rfl⟩⟩⟩
theorem tt_78 : TIok Try.prog 78 ⟨1, 8, .fnc, [.nilFunc]⟩ := ⟨⟨Try.t78, _, rfl, rfl, rfl, rfl, rfl, rfl⟩, ⟨_, rfl, ⟨_, _, _, rfl⟩⟩⟩
theorem tt_79 : TIok Try.prog 79 ⟨1, 8, .fnc, [.nilFunc]⟩ := ⟨⟨Try.t79, _, rfl, rfl, rfl, rfl, rfl, rfl⟩, ⟨_, rfl, ⟨_, _, _, rfl⟩⟩⟩
theorem tt_80 : TIok Try.prog 80 ⟨1, 8, .fnc, [.nilFunc]⟩ := ⟨⟨Try.t80, _, rfl, rfl, rfl, rfl, rfl, rfl⟩, ⟨_, rfl, ⟨_, _, _, rfl⟩⟩⟩
theorem tt_81 : TIok Try.prog 81 ⟨1, 8, .fnc, [.nilFunc]⟩ := ⟨⟨Try.t81, _, rfl, rfl, rfl, rfl, rfl, rfl⟩, ⟨_, rfl, ⟨_, _, _, rfl⟩⟩⟩
theorem tt_82 : TIok Try.prog 82 ⟨1, 8, .fnc, [.nilFunc]⟩ := ⟨⟨Try.t82, _, rfl, rfl, rfl, rfl, rfl, rfl⟩, ⟨_, rfl, ⟨_, _, _, rfl⟩⟩⟩
theorem tt_83 : TIok Try.prog 83 ⟨1, 8, .fnc, [.nilFunc]⟩ := ⟨⟨Try.t83, _, rfl, rfl, rfl, rfl, rfl, rfl⟩, ⟨_, rfl, ⟨_, _, _, rfl⟩⟩⟩
theorem tt_84 : TIok Try.prog 84 ⟨1, 8, .fnc, [.nilFunc]⟩ := ⟨⟨Try.t84, _, rfl, rfl, rfl, rfl, rfl, rfl⟩, ⟨_, rfl, ⟨_, _, _, rfl⟩⟩⟩
theorem tt_85 : TIok Try.prog 85 ⟨1, 24, (.sl 92), [.slice none 0 0]⟩ := ⟨⟨Try.t85, _, rfl, rfl, rfl, rfl, rfl, rfl⟩, ⟨_, rfl, rfl⟩⟩
theorem tt_86 : TIok Try.prog 86 ⟨1, 24, (.st [(0, 85)]), [.slice none 0 0]⟩ := ⟨⟨Try.t86, _, rfl, rfl, rfl, rfl, rfl, rfl⟩, ⟨_, rfl, ⟨_, rfl, rfl⟩⟩⟩
theorem tt_87 : TIok Try.prog 87 ⟨1, 24, (.st [(0, 85)]), [.slice none 0 0]⟩ := ⟨⟨Try.t87, _, rfl, rfl, rfl, rfl, rfl, rfl⟩, ⟨_, rfl, ⟨_, rfl, rfl⟩⟩⟩
theorem tt_88 : TIok Try.prog 88 ⟨1, 24, (.sl 97), [.slice none 0 0]⟩ := ⟨⟨Try.t88, _, rfl, rfl, rfl, rfl, rfl, rfl⟩, ⟨_, rfl, rfl⟩⟩
theorem tt_89 : TIok Try.prog 89 ⟨1, 24, (.st [(0, 88)]), [.slice none 0 0]⟩ := ⟨⟨Try.t89, _, rfl, rfl, rfl, rfl, rfl, rfl⟩, ⟨_, rfl, ⟨_, rfl, rfl⟩⟩⟩
theorem tt_90 : TIok Try.prog 90 ⟨1, 24, (.st [(0, 88)]), [.slice none 0 0]⟩ := ⟨⟨Try.t90, _, rfl, rfl, rfl, rfl, rfl, rfl⟩, ⟨_, rfl, ⟨_, rfl, rfl⟩⟩⟩
theorem tt_91 : TIok Try.prog 91 ⟨2, 24, (.st [(0, 9), (1, 24)]), [.string ⟨#[]⟩, .pointer none]⟩ := ⟨⟨Try.t91, _, rfl, rfl, rfl, rfl, rfl, rfl⟩, ⟨_, rfl, ⟨_, rfl, rfl⟩⟩⟩
theorem tt_92 : TIok Try.prog 92 ⟨2, 24, (.st [(0, 9), (1, 24)]), [.string ⟨#[]⟩, .pointer none]⟩ := ⟨⟨Try.t92, _, rfl, rfl, rfl, rfl, rfl, rfl⟩, ⟨_, rfl, ⟨_, rfl, rfl⟩⟩⟩
theorem tt_93 : TIok Try.prog 93 ⟨1, 8, .fnc, [.nilFunc]⟩ := ⟨⟨Try.t93, _, rfl, rfl, rfl, rfl, rfl, rfl⟩, ⟨_, rfl, ⟨_, _, _, rfl⟩⟩⟩
theorem tt_94 : TIok Try.prog 94 ⟨1, 8, (.ptr 24), [.pointer none]⟩ := ⟨⟨Try.t94, _, rfl, rfl, rfl, rfl, rfl, rfl⟩, ⟨_, rfl, rfl⟩⟩
theorem tt_95 : TIok Try.prog 95 ⟨1, 8, .fnc, [.nilFunc]⟩ := ⟨⟨Try.t95, _, rfl, rfl, rfl, rfl, rfl, rfl⟩, ⟨_, rfl, ⟨_, _, _, rfl⟩⟩⟩
theorem tt_96 : TIok Try.prog 96 ⟨3, 48, (.st [(0, 9), (1, 29)]), [.string ⟨#[]⟩, .int .i64 0, .slice none 0 0]⟩ := ⟨⟨Try.t96, _, rfl, rfl, rfl, rfl, rfl, rfl⟩, ⟨_, rfl, ⟨_, rfl, rfl⟩⟩⟩
theorem tt_97 : TIok Try.prog 97 ⟨3, 48, (.st [(0, 9), (1, 29)]), [.string ⟨#[]⟩, .int .i64 0, .slice none 0 0]⟩ := ⟨⟨Try.t97, _, rfl, rfl, rfl, rfl, rfl, rfl⟩, ⟨_, rfl, ⟨_, rfl, rfl⟩⟩⟩
theorem tt_98 : TIok Try.prog 98 ⟨1, 8, .fnc, [.nilFunc]⟩ := ⟨⟨Try.t98, _, rfl, rfl, rfl, rfl, rfl, rfl⟩, ⟨_, rfl, ⟨_, _, _, rfl⟩⟩⟩
theorem tt_99 : TIok Try.prog 99 ⟨2, 24, (.st [(0, 9), (1, 3)]), [.string ⟨#[]⟩, .int .i64 0]⟩ := ⟨⟨Try.t99, _, rfl, rfl, rfl, rfl, rfl, rfl⟩, ⟨_, rfl, ⟨_, rfl, rfl⟩⟩⟩
theorem tt_100 : TIok Try.prog 100 ⟨2, 24, (.st [(0, 9), (1, 3)]), [.string ⟨#[]⟩, .int .i64 0]⟩ := ⟨⟨Try.t100, _, rfl, rfl, rfl, rfl, rfl, rfl⟩, ⟨_, rfl, ⟨_, rfl, rfl⟩⟩⟩
theorem tt_101 : TIok Try.prog 101 ⟨1, 8, .fnc, [.nilFunc]⟩ := ⟨⟨Try.t101, _, rfl, rfl, rfl, rfl, rfl, rfl⟩, ⟨_, rfl, ⟨_, _, _, rfl⟩⟩⟩
theorem tt_102 : TIok Try.prog 102 ⟨2, 24, (.st [(0, 9), (1, 3)]), [.string ⟨#[]⟩, .int .i64 0]⟩ := ⟨⟨Try.t102, _, rfl, rfl, rfl, rfl, rfl, rfl⟩, ⟨_, rfl, ⟨_, rfl, rfl⟩⟩⟩
theorem tt_103 : TIok Try.prog 103 ⟨2, 24, (.st [(0, 9), (1, 3)]), [.string ⟨#[]⟩, .int .i64 0]⟩ := ⟨⟨Try.t103, _, rfl, rfl, rfl, rfl, rfl, rfl⟩, ⟨_, rfl, ⟨_, rfl, rfl⟩⟩⟩
theorem tt_104 : TIok Try.prog 104 ⟨1, 8, .fnc, [.nilFunc]⟩ := ⟨⟨Try.t104, _, rfl, rfl, rfl, rfl, rfl, rfl⟩, ⟨_, rfl, ⟨_, _, _, rfl⟩⟩⟩
theorem tt_105 : TIok Try.prog 105 ⟨1, 8, (.ptr 3), [.pointer none]⟩ := ⟨⟨Try.t105, _, rfl, rfl, rfl, rfl, rfl, rfl⟩, ⟨_, rfl, rfl⟩⟩
theorem tt_106 : TIok Try.prog 106 ⟨1, 24, (.sl 110), [.slice none 0 0]⟩ := ⟨⟨Try.t106, _, rfl, rfl, rfl, rfl, rfl, rfl⟩, ⟨_, rfl, rfl⟩⟩
theorem tt_107 : TIok Try.prog 107 ⟨1, 24, (.st [(0, 106)]), [.slice none 0 0]⟩ := ⟨⟨Try.t107, _, rfl, rfl, rfl, rfl, rfl, rfl⟩, ⟨_, rfl, ⟨_, rfl, rfl⟩⟩⟩
theorem tt_108 : TIok Try.prog 108 ⟨1, 24, (.st [(0, 106)]), [.slice none 0 0]⟩ := ⟨⟨Try.t108, _, rfl, rfl, rfl, rfl, rfl, rfl⟩, ⟨_, rfl, ⟨_, rfl, rfl⟩⟩⟩
theorem tt_109 : TIok Try.prog 109 ⟨2, 32, (.st [(0, 9), (1, 9)]), [.string ⟨#[]⟩, .string ⟨#[]⟩]⟩ := ⟨⟨Try.t109, _, rfl, rfl, rfl, rfl, rfl, rfl⟩, ⟨_, rfl, ⟨_, rfl, rfl⟩⟩⟩
theorem tt_110 : TIok Try.prog 110 ⟨2, 32, (.st [(0, 9), (1, 9)]), [.string ⟨#[]⟩, .string ⟨#[]⟩]⟩ := ⟨⟨Try.t110, _, rfl, rfl, rfl, rfl, rfl, rfl⟩, ⟨_, rfl, ⟨_, rfl, rfl⟩⟩⟩
theorem tt_111 : TIok Try.prog 111 ⟨1, 8, .fnc, [.nilFunc]⟩ := ⟨⟨Try.t111, _, rfl, rfl, rfl, rfl, rfl, rfl⟩, ⟨_, rfl, ⟨_, _, _, rfl⟩⟩⟩
theorem tt_112 : TIok Try.prog 112 ⟨1, 8, (.ptr 9), [.pointer none]⟩ := ⟨⟨Try.t112, _, rfl, rfl, rfl, rfl, rfl, rfl⟩, ⟨_, rfl, rfl⟩⟩
theorem tt_113 : TIok Try.prog 113 ⟨1, 8, .fnc, [.nilFunc]⟩ := ⟨⟨Try.t113, _, rfl, rfl, rfl, rfl, rfl, rfl⟩, ⟨_, rfl, ⟨_, _, _, rfl⟩⟩⟩
theorem tt_114 : TIok Try.prog 114 ⟨1, 24, (.sl 5), [.slice none 0 0]⟩ := ⟨⟨Try.t114, _, rfl, rfl, rfl, rfl, rfl, rfl⟩, ⟨_, rfl, rfl⟩⟩
theorem tt_115 : TIok Try.prog 115 ⟨1, 8, .fnc, [.nilFunc]⟩ := ⟨⟨Try.t115, _, rfl, rfl, rfl, rfl, rfl, rfl⟩, ⟨_, rfl, ⟨_, _, _, rfl⟩⟩⟩
theorem tt_116 : TIok Try.prog 116 ⟨1, 8, .fnc, [.nilFunc]⟩ := ⟨⟨Try.t116, _, rfl, rfl, rfl, rfl, rfl, rfl⟩, ⟨_, rfl, ⟨_, _, _, rfl⟩⟩⟩
theorem tt_117 : TIok Try.prog 117 ⟨1, 8, .fnc, [.nilFunc]⟩ := ⟨⟨Try.t117, _, rfl, rfl, rfl, rfl, rfl, rfl⟩, ⟨_, rfl, ⟨_, _, _, rfl⟩⟩⟩
theorem tt_118 : TIok Try.prog 118 ⟨1, 8, .fnc, [.nilFunc]⟩ := ⟨⟨Try.t118, _, rfl, rfl, rfl, rfl, rfl, rfl⟩, ⟨_, rfl, ⟨_, _, _, rfl⟩⟩⟩
theorem tt_119 : TIok Try.prog 119 ⟨1, 8, .fnc, [.nilFunc]⟩ := ⟨⟨Try.t119, _, rfl, rfl, rfl, rfl, rfl, rfl⟩, ⟨_, rfl, ⟨_, _, _, rfl⟩⟩⟩
theorem tt_120 : TIok Try.prog 120 ⟨1, 8, .fnc, [.nilFunc]⟩ := ⟨⟨Try.t120, _, rfl, rfl, rfl, rfl, rfl, rfl⟩, ⟨_, rfl, ⟨_, _, _, rfl⟩⟩⟩
theorem tt_121 : TIok Try.prog 121 ⟨1, 8, .fnc, [.nilFunc]⟩ := ⟨⟨Try.t121, _, rfl, rfl, rfl, rfl, rfl, rfl⟩, ⟨_, rfl, ⟨_, _, _, rfl⟩⟩⟩
theorem tt_122 : TIok Try.prog 122 ⟨1, 8, .fnc, [.nilFunc]⟩ := ⟨⟨Try.t122, _, rfl, rfl, rfl, rfl, rfl, rfl⟩, ⟨_, rfl, ⟨_, _, _, rfl⟩⟩⟩
theorem tt_123 : TIok Try.prog 123 ⟨1, 8, .fnc, [.nilFunc]⟩ := ⟨⟨Try.t123, _, rfl, rfl, rfl, rfl, rfl, rfl⟩, ⟨_, rfl, ⟨_, _, _, rfl⟩⟩⟩
theorem tt_124 : TIok Try.prog 124 ⟨1, 8, .fnc, [.nilFunc]⟩ := ⟨⟨Try.t124, _, rfl, rfl, rfl, rfl, rfl, rfl⟩, ⟨_, rfl, ⟨_, _, _, rfl⟩⟩⟩
theorem tt_125 : TIok Try.prog 125 ⟨1, 8, .fnc, [.nilFunc]⟩ := ⟨⟨Try.t125, _, rfl, rfl, rfl, rfl, rfl, rfl⟩, ⟨_, rfl, ⟨_, _, _, rfl⟩⟩⟩
theorem tt_126 : TIok Try.prog 126 ⟨1, 8, .fnc, [.nilFunc]⟩ := ⟨⟨Try.t126, _, rfl, rfl, rfl, rfl, rfl, rfl⟩, ⟨_, rfl, ⟨_, _, _, rfl⟩⟩⟩
theorem tt_127 : TIok Try.prog 127 ⟨1, 8, .fnc, [.nilFunc]⟩ := ⟨⟨Try.t127, _, rfl, rfl, rfl, rfl, rfl, rfl⟩, ⟨_, rfl, ⟨_, _, _, rfl⟩⟩⟩
theorem tt_128 : TIok Try.prog 128 ⟨1, 8, .fnc, [.nilFunc]⟩ := ⟨⟨Try.t128, _, rfl, rfl, rfl, rfl, rfl, rfl⟩, ⟨_, rfl, ⟨_, _, _, rfl⟩⟩⟩
theorem tt_129 : TIok Try.prog 129 ⟨1, 8, .fnc, [.nilFunc]⟩ := ⟨⟨Try.t129, _, rfl, rfl, rfl, rfl, rfl, rfl⟩, ⟨_, rfl, ⟨_, _, _, rfl⟩⟩⟩
theorem tt_130 : TIok Try.prog 130 ⟨1, 8, .fnc, [.nilFunc]⟩ := ⟨⟨Try.t130, _, rfl, rfl, rfl, rfl, rfl, rfl⟩, ⟨_, rfl, ⟨_, _, _, rfl⟩⟩⟩
theorem tt_131 : TIok Try.prog 131 ⟨1, 8, .fnc, [.nilFunc]⟩ := ⟨⟨Try.t131, _, rfl, rfl, rfl, rfl, rfl, rfl⟩, ⟨_, rfl, ⟨_, _, _, rfl⟩⟩⟩
theorem tt_132 : TIok Try.prog 132 ⟨1, 8, (.int .u64), [.int .u64 0]⟩ := ⟨⟨Try.t132, _, rfl, rfl, rfl, rfl, rfl, rfl⟩, ⟨_, rfl, rfl⟩⟩
theorem tt_133 : TIok Try.prog 133 ⟨1, 8, .fnc, [.nilFunc]⟩ := ⟨⟨Try.t133, _, rfl, rfl, rfl, rfl, rfl, rfl⟩, ⟨_, rfl, ⟨_, _, _, rfl⟩⟩⟩
theorem tt_134 : TIok Try.prog 134 ⟨1, 8, .fnc, [.nilFunc]⟩ := ⟨⟨Try.t134, _, rfl, rfl, rfl, rfl, rfl, rfl⟩, ⟨_, rfl, ⟨_, _, _, rfl⟩⟩⟩
theorem tt_135 : TIok Try.prog 135 ⟨1, 8, .fnc, [.nilFunc]⟩ := ⟨⟨Try.t135, _, rfl, rfl, rfl, rfl, rfl, rfl⟩, ⟨_, rfl, ⟨_, _, _, rfl⟩⟩⟩
theorem tt_136 : TIok Try.prog 136 ⟨1, 8, .fnc, [.nilFunc]⟩ := ⟨⟨Try.t136, _, rfl, rfl, rfl, rfl, rfl, rfl⟩, ⟨_, rfl, ⟨_, _, _, rfl⟩⟩⟩
theorem tt_137 : TIok Try.prog 137 ⟨1, 8, .fnc, [.nilFunc]⟩ := ⟨⟨Try.t137, _, rfl, rfl, rfl, rfl, rfl, rfl⟩, ⟨_, rfl, ⟨_, _, _, rfl⟩⟩⟩
theorem tt_138 : TIok Try.prog 138 ⟨4, 40, (.st [(0, 17), (1, 17), (2, 17), (3, 9)]), [.pointer none, .pointer none, .pointer none, .string ⟨#[]⟩]⟩ := ⟨⟨Try.t138, _, rfl, rfl, rfl, rfl, rfl, rfl⟩, ⟨_, rfl, ⟨_, rfl, rfl⟩⟩⟩
theorem tt_139 : TIok Try.prog 139 ⟨4, 40, (.st [(0, 17), (1, 17), (2, 17), (3, 9)]), [.pointer none, .pointer none, .pointer none, .string ⟨#[]⟩]⟩ := ⟨⟨Try.t139, _, rfl, rfl, rfl, rfl, rfl, rfl⟩, ⟨_, rfl, ⟨_, rfl, rfl⟩⟩⟩
theorem tt_140 : TIok Try.prog 140 ⟨0, 0, (.arr 0 16), []⟩ := ⟨⟨Try.t140, _, rfl, rfl, rfl, rfl, rfl, rfl⟩, ⟨_, rfl, rfl⟩⟩
theorem tt_141 : TIok Try.prog 141 ⟨0, 0, (.st [(0, 140)]), []⟩ := ⟨⟨Try.t141, _, rfl, rfl, rfl, rfl, rfl, rfl⟩, ⟨_, rfl, ⟨_, rfl, rfl⟩⟩⟩
theorem tt_142 : TIok Try.prog 142 ⟨0, 0, (.st [(0, 140)]), []⟩ := ⟨⟨Try.t142, _, rfl, rfl, rfl, rfl, rfl, rfl⟩, ⟨_, rfl, ⟨_, rfl, rfl⟩⟩⟩
theorem tt_143 : TIok Try.prog 143 ⟨1, 4, (.int .u32), [.int .u32 0]⟩ := ⟨⟨Try.t143, _, rfl, rfl, rfl, rfl, rfl, rfl⟩, ⟨_, rfl, rfl⟩⟩
theorem tt_144 : TIok Try.prog 144 ⟨1, 1, (.int .u8), [.int .u8 0]⟩ := ⟨⟨Try.t144, _, rfl, rfl, rfl, rfl, rfl, rfl⟩, ⟨_, rfl, rfl⟩⟩
theorem tt_145 : TIok Try.prog 145 ⟨1, 1, (.int .u8), [.int .u8 0]⟩ := ⟨⟨Try.t145, _, rfl, rfl, rfl, rfl, rfl, rfl⟩, ⟨_, rfl, rfl⟩⟩
theorem tt_146 : TIok Try.prog 146 ⟨1, 8, .fnc, [.nilFunc]⟩ := ⟨⟨Try.t146, _, rfl, rfl, rfl, rfl, rfl, rfl⟩, ⟨_, rfl, ⟨_, _, _, rfl⟩⟩⟩
theorem tt_147 : TIok Try.prog 147 ⟨1, 8, (.ptr 5), [.pointer none]⟩ := ⟨⟨Try.t147, _, rfl, rfl, rfl, rfl, rfl, rfl⟩, ⟨_, rfl, rfl⟩⟩
theorem tt_148 : TIok Try.prog 148 ⟨1, 4, (.int .i32), [.int .i32 0]⟩ := ⟨⟨Try.t148, _, rfl, rfl, rfl, rfl, rfl, rfl⟩, ⟨_, rfl, rfl⟩⟩
theorem tt_149 : TIok Try.prog 149 ⟨1, 4, (.int .i32), [.int .i32 0]⟩ := ⟨⟨Try.t149, _, rfl, rfl, rfl, rfl, rfl, rfl⟩, ⟨_, rfl, rfl⟩⟩
theorem tt_150 : TIok Try.prog 150 ⟨11, 48, (.st [(0, 12), (1, 12), (2, 143), (3, 144), (4, 5), (5, 5), (6, 145), (7, 146), (8, 147), (9, 148), (10, 149)]), [.int .u64 0, .int .u64 0, .int .u32 0, .int .u8 0, .int .u8 0, .int .u8 0, .int .u8 0, .nilFunc, .pointer none, .int .i32 0, .int .i32 0]⟩ := ⟨⟨Try.t150, _, rfl, rfl, rfl, rfl, rfl, rfl⟩, ⟨_, rfl, ⟨_, rfl, rfl⟩⟩⟩
theorem tt_151 : TIok Try.prog 151 ⟨11, 48, (.st [(0, 12), (1, 12), (2, 143), (3, 144), (4, 5), (5, 5), (6, 145), (7, 146), (8, 147), (9, 148), (10, 149)]), [.int .u64 0, .int .u64 0, .int .u32 0, .int .u8 0, .int .u8 0, .int .u8 0, .int .u8 0, .nilFunc, .pointer none, .int .i32 0, .int .i32 0]⟩ := ⟨⟨Try.t151, _, rfl, rfl, rfl, rfl, rfl, rfl⟩, ⟨_, rfl, ⟨_, rfl, rfl⟩⟩⟩
theorem tt_152 : TIok Try.prog 152 ⟨1, 8, .fnc, [.nilFunc]⟩ := ⟨⟨Try.t152, _, rfl, rfl, rfl, rfl, rfl, rfl⟩, ⟨_, rfl, ⟨_, _, _, rfl⟩⟩⟩
theorem tt_153 : TIok Try.prog 153 ⟨1, 8, .fnc, [.nilFunc]⟩ := ⟨⟨Try.t153, _, rfl, rfl, rfl, rfl, rfl, rfl⟩, ⟨_, rfl, ⟨_, _, _, rfl⟩⟩⟩
theorem tt_154 : TIok Try.prog 154 ⟨1, 8, .oth, [.pointer none]⟩ := ⟨⟨Try.t154, _, rfl, rfl, rfl, rfl, rfl, rfl⟩, ⟨_, rfl, rfl⟩⟩
theorem tt_155 : TIok Try.prog 155 ⟨1, 8, .fnc, [.nilFunc]⟩ := ⟨⟨Try.t155, _, rfl, rfl, rfl, rfl, rfl, rfl⟩, ⟨_, rfl, ⟨_, _, _, rfl⟩⟩⟩
theorem tt_156 : TIok Try.prog 156 ⟨1, 8, .fnc, [.nilFunc]⟩ := ⟨⟨Try.t156, _, rfl, rfl, rfl, rfl, rfl, rfl⟩, ⟨_, rfl, ⟨_, _, _, rfl⟩⟩⟩
theorem tt_157 : TIok Try.prog 157 ⟨1, 8, .fnc, [.nilFunc]⟩ := ⟨⟨Try.t157, _, rfl, rfl, rfl, rfl, rfl, rfl⟩, ⟨_, rfl, ⟨_, _, _, rfl⟩⟩⟩
theorem tt_158 : TIok Try.prog 158 ⟨1, 8, .fnc, [.nilFunc]⟩ := ⟨⟨Try.t158, _, rfl, rfl, rfl, rfl, rfl, rfl⟩, ⟨_, rfl, ⟨_, _, _, rfl⟩⟩⟩
theorem tt_159 : TIok Try.prog 159 ⟨1, 8, .fnc, [.nilFunc]⟩ := ⟨⟨Try.t159, _, rfl, rfl, rfl, rfl, rfl, rfl⟩, ⟨_, rfl, ⟨_, _, _, rfl⟩⟩⟩
theorem tt_160 : TIok Try.prog 160 ⟨1, 8, .fnc, [.nilFunc]⟩ := ⟨⟨Try.t160, _, rfl, rfl, rfl, rfl, rfl, rfl⟩, ⟨_, rfl, ⟨_, _, _, rfl⟩⟩⟩
theorem ttok : TTok Try.prog tt :=
  TTok.cons tt_1 (TTok.cons tt_2 (TTok.cons tt_3 (TTok.cons tt_4 (TTok.cons tt_5 (TTok.cons tt_6 (TTok.cons tt_7 (TTok.cons tt_8 (TTok.cons tt_9 (TTok.cons tt_10 (TTok.cons tt_11 (TTok.cons tt_12 (TTok.cons tt_13 (TTok.cons tt_14 (TTok.cons tt_15 (TTok.cons tt_16 (TTok.cons tt_17 (TTok.cons tt_18 (TTok.cons tt_19 (TTok.cons tt_20 (TTok.cons tt_21 (TTok.cons tt_22 (TTok.cons tt_23 (TTok.cons tt_24 (TTok.cons tt_25 (TTok.cons tt_26 (TTok.cons tt_27 (TTok.cons tt_28 (TTok.cons tt_29 (TTok.cons tt_31 (TTok.cons tt_32 (TTok.cons tt_33 (TTok.cons tt_35 (TTok.cons tt_36 (TTok.cons tt_37 (TTok.cons tt_38 (TTok.cons tt_39 (TTok.cons tt_40 (TTok.cons tt_41 (TTok.cons tt_42 (TTok.cons tt_43 (TTok.cons tt_44 (TTok.cons tt_45 (TTok.cons tt_46 (TTok.cons tt_47 (TTok.cons tt_48 (TTok.cons tt_49 (TTok.cons tt_50 (TTok.cons tt_51 (TTok.cons tt_52 (TTok.cons tt_53 (TTok.cons tt_54 (TTok.cons tt_55 (TTok.cons tt_56 (TTok.cons tt_58 (TTok.cons tt_60 (TTok.cons tt_61 (TTok.cons tt_62 (TTok.cons tt_63 (TTok.cons tt_64 (TTok.cons tt_65 (TTok.cons tt_66 (TTok.cons tt_67 (TTok.cons tt_68 (TTok.cons tt_69 (TTok.cons tt_70 (TTok.cons tt_71 (TTok.cons tt_72 (TTok.cons tt_73 (TTok.cons tt_74 (TTok.cons tt_75 (TTok.cons tt_76 (TTok.cons tt_77 (TTok.cons tt_78 (TTok.cons tt_79 (TTok.cons tt_80 (TTok.cons tt_81 (TTok.cons tt_82 (TTok.cons tt_83 (TTok.cons tt_84 (TTok.cons tt_85 (TTok.cons tt_86 (TTok.cons tt_87 (TTok.cons tt_88 (TTok.cons tt_89 (TTok.cons tt_90 (TTok.cons tt_91 (TTok.cons tt_92 (TTok.cons tt_93 (TTok.cons tt_94 (TTok.cons tt_95 (TTok.cons tt_96 (TTok.cons tt_97 (TTok.cons tt_98 (TTok.cons tt_99 (TTok.cons tt_100 (TTok.cons tt_101 (TTok.cons tt_102 (TTok.cons tt_103 (TTok.cons tt_104 (TTok.cons tt_105 (TTok.cons tt_106 (TTok.cons tt_107 (TTok.cons tt_108 (TTok.cons tt_109 (TTok.cons tt_110 (TTok.cons tt_111 (TTok.cons tt_112 (TTok.cons tt_113 (TTok.cons tt_114 (TTok.cons tt_115 (TTok.cons tt_116 (TTok.cons tt_117 (TTok.cons tt_118 (TTok.cons tt_119 (TTok.cons tt_120 (TTok.cons tt_121 (TTok.cons tt_122 (TTok.cons tt_123 (TTok.cons tt_124 (TTok.cons tt_125 (TTok.cons tt_126 (TTok.cons tt_127 (TTok.cons tt_128 (TTok.cons tt_129 (TTok.cons tt_130 (TTok.cons tt_131 (TTok.cons tt_132 (TTok.cons tt_133 (TTok.cons tt_134 (TTok.cons tt_135 (TTok.cons tt_136 (TTok.cons tt_137 (TTok.cons tt_138 (TTok.cons tt_139 (TTok.cons tt_140 (TTok.cons tt_141 (TTok.cons tt_142 (TTok.cons tt_143 (TTok.cons tt_144 (TTok.cons tt_145 (TTok.cons tt_146 (TTok.cons tt_147 (TTok.cons tt_148 (TTok.cons tt_149 (TTok.cons tt_150 (TTok.cons tt_151 (TTok.cons tt_152 (TTok.cons tt_153 (TTok.cons tt_154 (TTok.cons tt_155 (TTok.cons tt_156 (TTok.cons tt_157 (TTok.cons tt_158 (TTok.cons tt_159 (TTok.cons tt_160 (TTok.nil _))))))))))))))))))))))))))))))))))))))))))))))))))))))))))))))))))))))))))))))))))))))))))))))))))))))))))))))))))))))))))))))))))))))))))))))))))))))))))))
end Go.Proofs.Ytlcojlcackkhpaa
