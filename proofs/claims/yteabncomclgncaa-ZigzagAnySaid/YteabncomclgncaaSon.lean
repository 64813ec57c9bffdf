/- Texts of the claim, merged: only what the theorem needs. -/
import Derived.Test.YteabncomclgncaaSom
import Derived.Test.YteabncomclgncaaProg
set_option maxRecDepth 100000
namespace Go.Proofs.Yteabncomclgncaa
def tt : List (Nat × TI) := [(1, ⟨1, 8, .fnc, [.nilFunc]⟩),
  (2, ⟨1, 8, (.int .i64), [.int .i64 0]⟩),
  (3, ⟨1, 8, (.int .i64), [.int .i64 0]⟩),
  (4, ⟨1, 1, .bool, [.bool false]⟩),
  (5, ⟨1, 1, (.int .u8), [.int .u8 0]⟩),
  (6, ⟨1, 1, (.int .u8), [.int .u8 0]⟩),
  (7, ⟨4, 24, (.st [(0, 2), (1, 3), (2, 4), (3, 6)]), [.int .i64 0, .int .i64 0, .bool false, .int .u8 0]⟩),
  (8, ⟨4, 24, (.st [(0, 2), (1, 3), (2, 4), (3, 6)]), [.int .i64 0, .int .i64 0, .bool false, .int .u8 0]⟩),
  (9, ⟨1, 16, .str, [.string ⟨#[]⟩]⟩),
  (10, ⟨1, 16, .str, [.string ⟨#[]⟩]⟩),
  (11, ⟨1, 16, .str, [.string ⟨#[]⟩]⟩),
  (12, ⟨1, 8, (.int .u64), [.int .u64 0]⟩),
  (13, ⟨2, 24, (.st [(0, 9), (1, 12)]), [.string ⟨#[]⟩, .int .u64 0]⟩),
  (14, ⟨2, 24, (.st [(0, 9), (1, 12)]), [.string ⟨#[]⟩, .int .u64 0]⟩),
  (15, ⟨1, 8, (.ptr 161), [.pointer none]⟩),
  (16, ⟨1, 8, (.ptr 164), [.pointer none]⟩),
  (17, ⟨1, 8, (.ptr 173), [.pointer none]⟩),
  (18, ⟨1, 8, (.st [(0, 17)]), [.pointer none]⟩),
  (19, ⟨1, 8, (.st [(0, 17)]), [.pointer none]⟩),
  (20, ⟨1, 16, .oth, [.nilIface]⟩),
  (21, ⟨1, 4, (.int .i32), [.int .i32 0]⟩),
  (22, ⟨1, 24, (.sl 9), [.slice none 0 0]⟩),
  (23, ⟨1, 24, (.sl 29), [.slice none 0 0]⟩),
  (24, ⟨1, 8, .fnc, [.nilFunc]⟩),
  (25, ⟨1, 8, (.ptr 88), [.pointer none]⟩),
  (26, ⟨1, 8, .fnc, [.nilFunc]⟩),
  (27, ⟨1, 24, (.sl 180), [.slice none 0 0]⟩),
  (28, ⟨3, 48, (.st [(0, 9), (1, 3), (2, 27)]), [.string ⟨#[]⟩, .int .i64 0, .slice none 0 0]⟩),
  (29, ⟨3, 48, (.st [(0, 9), (1, 3), (2, 27)]), [.string ⟨#[]⟩, .int .i64 0, .slice none 0 0]⟩),
  (30, ⟨1, 8, .fnc, [.nilFunc]⟩),
  (31, ⟨1, 8, (.int .i64), [.int .i64 0]⟩),
  (32, ⟨1, 8, .fnc, [.nilFunc]⟩),
  (34, ⟨1, 8, .fnc, [.nilFunc]⟩),
  (35, ⟨1, 8, .fnc, [.nilFunc]⟩),
  (36, ⟨1, 24, (.sl 42), [.slice none 0 0]⟩),
  (37, ⟨1, 8, .fnc, [.nilFunc]⟩),
  (38, ⟨1, 8, (.ptr 64), [.pointer none]⟩),
  (39, ⟨1, 8, .fnc, [.nilFunc]⟩),
  (40, ⟨1, 8, .fnc, [.nilFunc]⟩),
  (41, ⟨6, 72, (.st [(0, 3), (1, 3), (2, 3), (3, 9), (4, 9), (5, 9)]), [.int .i64 0, .int .i64 0, .int .i64 0, .string ⟨#[]⟩, .string ⟨#[]⟩, .string ⟨#[]⟩]⟩),
  (42, ⟨6, 72, (.st [(0, 3), (1, 3), (2, 3), (3, 9), (4, 9), (5, 9)]), [.int .i64 0, .int .i64 0, .int .i64 0, .string ⟨#[]⟩, .string ⟨#[]⟩, .string ⟨#[]⟩]⟩),
  (43, ⟨1, 8, .fnc, [.nilFunc]⟩),
  (44, ⟨1, 8, .fnc, [.nilFunc]⟩),
  (45, ⟨1, 8, .fnc, [.nilFunc]⟩),
  (46, ⟨1, 24, (.sl 3), [.slice none 0 0]⟩),
  (48, ⟨1, 8, .fnc, [.nilFunc]⟩),
  (50, ⟨1, 8, .fnc, [.nilFunc]⟩),
  (51, ⟨1, 8, .fnc, [.nilFunc]⟩),
  (52, ⟨1, 8, .fnc, [.nilFunc]⟩),
  (53, ⟨1, 8, .fnc, [.nilFunc]⟩),
  (54, ⟨1, 8, .fnc, [.nilFunc]⟩),
  (55, ⟨1, 8, .fnc, [.nilFunc]⟩),
  (56, ⟨1, 8, .fnc, [.nilFunc]⟩),
  (57, ⟨1, 24, (.sl 36), [.slice none 0 0]⟩),
  (58, ⟨1, 8, .fnc, [.nilFunc]⟩),
  (59, ⟨1, 8, .fnc, [.nilFunc]⟩),
  (60, ⟨1, 24, (.sl 136), [.slice none 0 0]⟩),
  (61, ⟨1, 24, (.st [(0, 60)]), [.slice none 0 0]⟩),
  (62, ⟨1, 24, (.st [(0, 60)]), [.slice none 0 0]⟩),
  (63, ⟨3, 40, (.st [(0, 62), (1, 3), (2, 4)]), [.slice none 0 0, .int .i64 0, .bool false]⟩),
  (64, ⟨3, 40, (.st [(0, 62), (1, 3), (2, 4)]), [.slice none 0 0, .int .i64 0, .bool false]⟩),
  (65, ⟨1, 24, (.sl 123), [.slice none 0 0]⟩),
  (66, ⟨2, 32, (.st [(0, 65), (1, 4)]), [.slice none 0 0, .bool false]⟩),
  (67, ⟨2, 32, (.st [(0, 65), (1, 4)]), [.slice none 0 0, .bool false]⟩),
  (69, ⟨1, 8, .fnc, [.nilFunc]⟩),
  (70, ⟨1, 8, .fnc, [.nilFunc]⟩),
  (71, ⟨1, 8, .fnc, [.nilFunc]⟩),
  (72, ⟨1, 8, .fnc, [.nilFunc]⟩),
  (73, ⟨1, 8, .fnc, [.nilFunc]⟩),
  (75, ⟨1, 8, .fnc, [.nilFunc]⟩),
  (76, ⟨2, 16, (.arr 2 3), [.int .i64 0, .int .i64 0]⟩),
  (77, ⟨2, 2, (.arr 2 4), [.bool false, .bool false]⟩),
  (78, ⟨6, 40, (.st [(0, 76), (2, 77), (4, 3), (5, 3)]), [.int .i64 0, .int .i64 0, .bool false, .bool false, .int .i64 0, .int .i64 0]⟩),
  (79, ⟨6, 40, (.st [(0, 76), (2, 77), (4, 3), (5, 3)]), [.int .i64 0, .int .i64 0, .bool false, .bool false, .int .i64 0, .int .i64 0]⟩),
  (81, ⟨1, 8, .fnc, [.nilFunc]⟩),
  (82, ⟨1, 8, .fnc, [.nilFunc]⟩),
  (83, ⟨1, 8, .fnc, [.nilFunc]⟩),
  (84, ⟨1, 24, (.sl 127), [.slice none 0 0]⟩),
  (85, ⟨1, 24, (.st [(0, 84)]), [.slice none 0 0]⟩),
  (86, ⟨1, 24, (.st [(0, 84)]), [.slice none 0 0]⟩),
  (87, ⟨3, 40, (.st [(0, 86), (1, 3), (2, 4)]), [.slice none 0 0, .int .i64 0, .bool false]⟩),
  (88, ⟨3, 40, (.st [(0, 86), (1, 3), (2, 4)]), [.slice none 0 0, .int .i64 0, .bool false]⟩),
  (89, ⟨1, 8, (.ptr 94), [.pointer none]⟩),
  (91, ⟨1, 8, .fnc, [.nilFunc]⟩),
  (92, ⟨6, 96, (.arr 2 29), [.string ⟨#[]⟩, .int .i64 0, .slice none 0 0, .string ⟨#[]⟩, .int .i64 0, .slice none 0 0]⟩),
  (93, ⟨10, 120, (.st [(0, 92), (6, 77), (8, 3), (9, 3)]), [.string ⟨#[]⟩, .int .i64 0, .slice none 0 0, .string ⟨#[]⟩, .int .i64 0, .slice none 0 0, .bool false, .bool false, .int .i64 0, .int .i64 0]⟩),
  (94, ⟨10, 120, (.st [(0, 92), (6, 77), (8, 3), (9, 3)]), [.string ⟨#[]⟩, .int .i64 0, .slice none 0 0, .string ⟨#[]⟩, .int .i64 0, .slice none 0 0, .bool false, .bool false, .int .i64 0, .int .i64 0]⟩),
  (95, ⟨1, 8, .fnc, [.nilFunc]⟩),
  (96, ⟨1, 8, .fnc, [.nilFunc]⟩),
  (97, ⟨1, 8, .fnc, [.nilFunc]⟩),
  (98, ⟨1, 8, .fnc, [.nilFunc]⟩),
  (99, ⟨1, 8, (.ptr 29), [.pointer none]⟩),
  (100, ⟨1, 8, .fnc, [.nilFunc]⟩),
  (101, ⟨1, 8, .fnc, [.nilFunc]⟩),
  (102, ⟨1, 8, .fnc, [.nilFunc]⟩),
  (103, ⟨1, 8, .fnc, [.nilFunc]⟩),
  (104, ⟨1, 8, (.ptr 79), [.pointer none]⟩),
  (105, ⟨1, 8, .fnc, [.nilFunc]⟩),
  (106, ⟨1, 8, (.ptr 3), [.pointer none]⟩),
  (108, ⟨1, 8, .fnc, [.nilFunc]⟩),
  (109, ⟨1, 8, .fnc, [.nilFunc]⟩),
  (110, ⟨1, 8, .fnc, [.nilFunc]⟩),
  (111, ⟨1, 8, .fnc, [.nilFunc]⟩),
  (112, ⟨1, 8, .fnc, [.nilFunc]⟩),
  (113, ⟨1, 8, .fnc, [.nilFunc]⟩),
  (115, ⟨1, 8, .fnc, [.nilFunc]⟩),
  (116, ⟨1, 8, .fnc, [.nilFunc]⟩),
  (117, ⟨1, 8, .fnc, [.nilFunc]⟩),
  (118, ⟨1, 8, .fnc, [.nilFunc]⟩),
  (119, ⟨1, 8, .fnc, [.nilFunc]⟩),
  (121, ⟨1, 8, .fnc, [.nilFunc]⟩),
  (122, ⟨7, 56, (.st [(0, 9), (1, 79)]), [.string ⟨#[]⟩, .int .i64 0, .int .i64 0, .bool false, .bool false, .int .i64 0, .int .i64 0]⟩),
  (123, ⟨7, 56, (.st [(0, 9), (1, 79)]), [.string ⟨#[]⟩, .int .i64 0, .int .i64 0, .bool false, .bool false, .int .i64 0, .int .i64 0]⟩),
  (124, ⟨1, 8, .fnc, [.nilFunc]⟩),
  (125, ⟨1, 8, (.ptr 86), [.pointer none]⟩),
  (126, ⟨2, 24, (.st [(0, 9), (1, 89)]), [.string ⟨#[]⟩, .pointer none]⟩),
  (127, ⟨2, 24, (.st [(0, 9), (1, 89)]), [.string ⟨#[]⟩, .pointer none]⟩),
  (128, ⟨1, 8, (.ptr 89), [.pointer none]⟩),
  (129, ⟨1, 8, .fnc, [.nilFunc]⟩),
  (130, ⟨1, 8, .fnc, [.nilFunc]⟩),
  (131, ⟨1, 8, .fnc, [.nilFunc]⟩),
  (132, ⟨1, 8, .fnc, [.nilFunc]⟩),
  (133, ⟨1, 8, (.ptr 62), [.pointer none]⟩),
  (134, ⟨1, 8, .fnc, [.nilFunc]⟩),
  (135, ⟨2, 24, (.st [(0, 9), (1, 104)]), [.string ⟨#[]⟩, .pointer none]⟩),
  (136, ⟨2, 24, (.st [(0, 9), (1, 104)]), [.string ⟨#[]⟩, .pointer none]⟩),
  (137, ⟨1, 8, .fnc, [.nilFunc]⟩),
  (138, ⟨1, 8, (.ptr 104), [.pointer none]⟩),
  (139, ⟨1, 8, .fnc, [.nilFunc]⟩),
  (140, ⟨1, 8, .fnc, [.nilFunc]⟩),
  (141, ⟨1, 8, .fnc, [.nilFunc]⟩),
  (142, ⟨1, 8, .fnc, [.nilFunc]⟩),
  (143, ⟨1, 8, .fnc, [.nilFunc]⟩),
  (144, ⟨1, 8, .fnc, [.nilFunc]⟩),
  (145, ⟨1, 8, .fnc, [.nilFunc]⟩),
  (146, ⟨1, 8, .fnc, [.nilFunc]⟩),
  (147, ⟨1, 8, .fnc, [.nilFunc]⟩),
  (148, ⟨1, 8, .fnc, [.nilFunc]⟩),
  (149, ⟨1, 8, .fnc, [.nilFunc]⟩),
  (150, ⟨1, 8, .fnc, [.nilFunc]⟩),
  (151, ⟨1, 8, .fnc, [.nilFunc]⟩),
  (152, ⟨1, 8, .fnc, [.nilFunc]⟩),
  (153, ⟨1, 8, .fnc, [.nilFunc]⟩),
  (154, ⟨1, 8, .fnc, [.nilFunc]⟩),
  (155, ⟨1, 8, .fnc, [.nilFunc]⟩),
  (156, ⟨1, 8, (.int .u64), [.int .u64 0]⟩),
  (157, ⟨1, 8, .fnc, [.nilFunc]⟩),
  (158, ⟨1, 8, .fnc, [.nilFunc]⟩),
  (159, ⟨1, 8, .fnc, [.nilFunc]⟩),
  (160, ⟨4, 40, (.st [(0, 17), (1, 17), (2, 17), (3, 9)]), [.pointer none, .pointer none, .pointer none, .string ⟨#[]⟩]⟩),
  (161, ⟨4, 40, (.st [(0, 17), (1, 17), (2, 17), (3, 9)]), [.pointer none, .pointer none, .pointer none, .string ⟨#[]⟩]⟩),
  (162, ⟨0, 0, (.arr 0 16), []⟩),
  (163, ⟨0, 0, (.st [(0, 162)]), []⟩),
  (164, ⟨0, 0, (.st [(0, 162)]), []⟩),
  (165, ⟨1, 4, (.int .u32), [.int .u32 0]⟩),
  (166, ⟨1, 1, (.int .u8), [.int .u8 0]⟩),
  (167, ⟨1, 1, (.int .u8), [.int .u8 0]⟩),
  (168, ⟨1, 8, .fnc, [.nilFunc]⟩),
  (169, ⟨1, 8, (.ptr 5), [.pointer none]⟩),
  (170, ⟨1, 4, (.int .i32), [.int .i32 0]⟩),
  (171, ⟨1, 4, (.int .i32), [.int .i32 0]⟩),
  (172, ⟨11, 48, (.st [(0, 12), (1, 12), (2, 165), (3, 166), (4, 5), (5, 5), (6, 167), (7, 168), (8, 169), (9, 170), (10, 171)]), [.int .u64 0, .int .u64 0, .int .u32 0, .int .u8 0, .int .u8 0, .int .u8 0, .int .u8 0, .nilFunc, .pointer none, .int .i32 0, .int .i32 0]⟩),
  (173, ⟨11, 48, (.st [(0, 12), (1, 12), (2, 165), (3, 166), (4, 5), (5, 5), (6, 167), (7, 168), (8, 169), (9, 170), (10, 171)]), [.int .u64 0, .int .u64 0, .int .u32 0, .int .u8 0, .int .u8 0, .int .u8 0, .int .u8 0, .nilFunc, .pointer none, .int .i32 0, .int .i32 0]⟩),
  (174, ⟨1, 8, .fnc, [.nilFunc]⟩),
  (175, ⟨1, 8, .fnc, [.nilFunc]⟩),
  (176, ⟨1, 8, .fnc, [.nilFunc]⟩),
  (177, ⟨3, 32, (.st [(0, 3), (1, 2), (2, 9)]), [.int .i64 0, .int .i64 0, .string ⟨#[]⟩]⟩),
  (178, ⟨3, 32, (.st [(0, 3), (1, 2), (2, 9)]), [.int .i64 0, .int .i64 0, .string ⟨#[]⟩]⟩),
  (179, ⟨8, 72, (.st [(0, 3), (1, 3), (2, 3), (3, 3), (4, 3), (5, 178)]), [.int .i64 0, .int .i64 0, .int .i64 0, .int .i64 0, .int .i64 0, .int .i64 0, .int .i64 0, .string ⟨#[]⟩]⟩),
  (180, ⟨8, 72, (.st [(0, 3), (1, 3), (2, 3), (3, 3), (4, 3), (5, 178)]), [.int .i64 0, .int .i64 0, .int .i64 0, .int .i64 0, .int .i64 0, .int .i64 0, .int .i64 0, .string ⟨#[]⟩]⟩),
  (181, ⟨1, 8, .oth, [.pointer none]⟩),
  (182, ⟨1, 8, .fnc, [.nilFunc]⟩),
  (183, ⟨1, 8, .fnc, [.nilFunc]⟩),
  (184, ⟨1, 8, .fnc, [.nilFunc]⟩)]
theorem tt_1 : TIok Try.prog 1 ⟨1, 8, .fnc, [.nilFunc]⟩ := ⟨⟨Try.t1, _, rfl, rfl, rfl, rfl, rfl, rfl⟩, ⟨_, rfl, ⟨_, _, _, rfl⟩⟩⟩
theorem tt_2 : TIok Try.prog 2 ⟨1, 8, (.int .i64), [.int .i64 0]⟩ := ⟨⟨Try.t2, _, rfl, rfl, rfl, rfl, rfl, rfl⟩, ⟨_, rfl, rfl⟩⟩
theorem tt_3 : TIok Try.prog 3 ⟨1, 8, (.int .i64), [.int .i64 0]⟩ := ⟨⟨Try.t3, _, rfl, rfl, rfl, rfl, rfl, rfl⟩, ⟨_, rfl, rfl⟩⟩
theorem tt_4 : TIok Try.prog 4 ⟨1, 1, .bool, [.bool false]⟩ := ⟨⟨Try.t4, _, rfl, rfl, rfl, rfl, rfl, rfl⟩, ⟨_, rfl, rfl⟩⟩
theorem tt_5 : TIok Try.prog 5 ⟨1, 1, (.int .u8), [.int .u8 0]⟩ := ⟨⟨Try.t5, _, rfl, rfl, rfl, rfl, rfl, rfl⟩, ⟨_, rfl, rfl⟩⟩
theorem tt_6 : TIok Try.prog 6 ⟨1, 1, (.int .u8), [.int .u8 0]⟩ := ⟨⟨Try.t6, _, rfl, rfl, rfl, rfl, rfl, rfl⟩, ⟨_, rfl, rfl⟩⟩
theorem tt_7 : TIok Try.prog 7 ⟨4, 24, (.st [(0, 2), (1, 3), (2, 4), (3, 6)]), [.int .i64 0, .int .i64 0, .bool false, .int .u8 0]⟩ := ⟨⟨Try.t7, _, rfl, rfl, rfl, rfl, rfl, rfl⟩, ⟨_, rfl, ⟨_, rfl, rfl⟩⟩⟩
theorem tt_8 : TIok Try.prog 8 ⟨4, 24, (.st [(0, 2), (1, 3), (2, 4), (3, 6)]), [.int .i64 0, .int .i64 0, .bool false, .int .u8 0]⟩ := ⟨⟨Try.t8, _, rfl, rfl, rfl, rfl, rfl, rfl⟩, ⟨_, rfl, ⟨_, rfl, rfl⟩⟩⟩
theorem tt_9 : TIok Try.prog 9 ⟨1, 16, .str, [.string ⟨#[]⟩]⟩ := ⟨⟨Try.t9, _, rfl, rfl, rfl, rfl, rfl, rfl⟩, ⟨_, rfl, rfl⟩⟩
theorem tt_10 : TIok Try.prog 10 ⟨1, 16, .str, [.string ⟨#[]⟩]⟩ := ⟨⟨Try.t10, _, rfl, rfl, rfl, rfl, rfl, rfl⟩, ⟨_, rfl, rfl⟩⟩
theorem tt_11 : TIok Try.prog 11 ⟨1, 16, .str, [.string ⟨#[]⟩]⟩ := ⟨⟨Try.t11, _, rfl, rfl, rfl, rfl, rfl, rfl⟩, ⟨_, rfl, rfl⟩⟩
theorem tt_12 : TIok Try.prog 12 ⟨1, 8, (.int .u64), [.int .u64 0]⟩ := ⟨⟨Try.t12, _, rfl, rfl, rfl, rfl, rfl, rfl⟩, ⟨_, rfl, rfl⟩⟩
theorem tt_13 : TIok Try.prog 13 ⟨2, 24, (.st [(0, 9), (1, 12)]), [.string ⟨#[]⟩, .int .u64 0]⟩ := ⟨⟨Try.t13, _, rfl, rfl, rfl, rfl, rfl, rfl⟩, ⟨_, rfl, ⟨_, rfl, rfl⟩⟩⟩
theorem tt_14 : TIok Try.prog 14 ⟨2, 24, (.st [(0, 9), (1, 12)]), [.string ⟨#[]⟩, .int .u64 0]⟩ := ⟨⟨Try.t14, _, rfl, rfl, rfl, rfl, rfl, rfl⟩, ⟨_, rfl, ⟨_, rfl, rfl⟩⟩⟩
theorem tt_15 : TIok Try.prog 15 ⟨1, 8, (.ptr 161), [.pointer none]⟩ := ⟨⟨Try.t15, _, rfl, rfl, rfl, rfl, rfl, rfl⟩, ⟨_, rfl, rfl⟩⟩
theorem tt_16 : TIok Try.prog 16 ⟨1, 8, (.ptr 164), [.pointer none]⟩ := ⟨⟨Try.t16, _, rfl, rfl, rfl, rfl, rfl, rfl⟩, ⟨_, rfl, rfl⟩⟩
theorem tt_17 : TIok Try.prog 17 ⟨1, 8, (.ptr 173), [.pointer none]⟩ := ⟨⟨Try.t17, _, rfl, rfl, rfl, rfl, rfl, rfl⟩, ⟨_, rfl, rfl⟩⟩
theorem tt_18 : TIok Try.prog 18 ⟨1, 8, (.st [(0, 17)]), [.pointer none]⟩ := ⟨⟨Try.t18, _, rfl, rfl, rfl, rfl, rfl, rfl⟩, ⟨_, rfl, ⟨_, rfl, rfl⟩⟩⟩
theorem tt_19 : TIok Try.prog 19 ⟨1, 8, (.st [(0, 17)]), [.pointer none]⟩ := ⟨⟨Try.t19, _, rfl, rfl, rfl, rfl, rfl, rfl⟩, ⟨_, rfl, ⟨_, rfl, rfl⟩⟩⟩
theorem tt_20 : TIok Try.prog 20 ⟨1, 16, .oth, [.nilIface]⟩ := ⟨⟨Try.t20, _, rfl, rfl, rfl, rfl, rfl, rfl⟩, ⟨_, rfl, rfl⟩⟩
theorem tt_21 : TIok Try.prog 21 ⟨1, 4, (.int .i32), [.int .i32 0]⟩ := ⟨⟨Try.t21, _, rfl, rfl, rfl, rfl, rfl, rfl⟩, ⟨_, rfl, rfl⟩⟩
theorem tt_22 : TIok Try.prog 22 ⟨1, 24, (.sl 9), [.slice none 0 0]⟩ := ⟨⟨Try.t22, _, rfl, rfl, rfl, rfl, rfl, rfl⟩, ⟨_, rfl, rfl⟩⟩
theorem tt_23 : TIok Try.prog 23 ⟨1, 24, (.sl 29), [.slice none 0 0]⟩ := ⟨⟨Try.t23, _, rfl, rfl, rfl, rfl, rfl, rfl⟩, ⟨_, rfl, rfl⟩⟩
theorem tt_24 : TIok Try.prog 24 ⟨1, 8, .fnc, [.nilFunc]⟩ := ⟨⟨Try.t24, _, rfl, rfl, rfl, rfl, rfl, rfl⟩, ⟨_, rfl, ⟨_, _, _, rfl⟩⟩⟩
theorem tt_25 : TIok Try.prog 25 ⟨1, 8, (.ptr 88), [.pointer none]⟩ := ⟨⟨Try.t25, _, rfl, rfl, rfl, rfl, rfl, rfl⟩, ⟨_, rfl, rfl⟩⟩
theorem tt_26 : TIok Try.prog 26 ⟨1, 8, .fnc, [.nilFunc]⟩ := ⟨⟨Try.t26, _, rfl, rfl, rfl, rfl, rfl, rfl⟩, ⟨_, rfl, ⟨_, _, _, rfl⟩⟩⟩
theorem tt_27 : TIok Try.prog 27 ⟨1, 24, (.sl 180), [.slice none 0 0]⟩ := ⟨⟨Try.t27, _, rfl, rfl, rfl, rfl, rfl, rfl⟩, ⟨_, rfl, rfl⟩⟩
theorem tt_28 : TIok Try.prog 28 ⟨3, 48, (.st [(0, 9), (1, 3), (2, 27)]), [.string ⟨#[]⟩, .int .i64 0, .slice none 0 0]⟩ := ⟨⟨Try.t28, _, rfl, rfl, rfl, rfl, rfl, rfl⟩, ⟨_, rfl, ⟨_, rfl, rfl⟩⟩⟩
theorem tt_29 : TIok Try.prog 29 ⟨3, 48, (.st [(0, 9), (1, 3), (2, 27)]), [.string ⟨#[]⟩, .int .i64 0, .slice none 0 0]⟩ := ⟨⟨Try.t29, _, rfl, rfl, rfl, rfl, rfl, rfl⟩, ⟨_, rfl, ⟨_, rfl, rfl⟩⟩⟩
theorem tt_30 : TIok Try.prog 30 ⟨1, 8, .fnc, [.nilFunc]⟩ := ⟨⟨Try.t30, _, rfl, rfl, rfl, rfl, rfl, rfl⟩, ⟨_, rfl, ⟨_, _, _, rfl⟩⟩⟩
theorem tt_31 : TIok Try.prog 31 ⟨1, 8, (.int .i64), [.int .i64 0]⟩ := ⟨⟨Try.t31, _, rfl, rfl, rfl, rfl, rfl, rfl⟩, ⟨_, rfl, rfl⟩⟩
theorem tt_32 : TIok Try.prog 32 ⟨1, 8, .fnc, [.nilFunc]⟩ := ⟨⟨Try.t32, _, rfl, rfl, rfl, rfl, rfl, rfl⟩, ⟨_, rfl, ⟨_, _, _, rfl⟩⟩⟩
theorem tt_34 : TIok Try.prog 34 ⟨1, 8, .fnc, [.nilFunc]⟩ := ⟨⟨Try.t34, _, rfl, rfl, rfl, rfl, rfl, rfl⟩, ⟨_, rfl, ⟨_, _, _, rfl⟩⟩⟩
theorem tt_35 : TIok Try.prog 35 ⟨1, 8, .fnc, [.nilFunc]⟩ := ⟨⟨Try.t35, _, rfl, rfl, rfl, rfl, rfl, rfl⟩, ⟨_, rfl, ⟨_, _, _, rfl⟩⟩⟩
theorem tt_36 : TIok Try.prog 36 ⟨1, 24, (.sl 42), [.slice none 0 0]⟩ := ⟨⟨Try.t36, _, rfl, rfl, rfl, rfl, rfl, rfl⟩, ⟨_, rfl, rfl⟩⟩
theorem tt_37 : TIok Try.prog 37 ⟨1, 8, .fnc, [.nilFunc]⟩ := ⟨⟨Try.t37, _, rfl, rfl, rfl, rfl, rfl, rfl⟩, ⟨_, rfl, ⟨_, _, _, rfl⟩⟩⟩
theorem tt_38 : TIok Try.prog 38 ⟨1, 8, (.ptr 64), [.pointer none]⟩ := ⟨⟨Try.t38, _, rfl, rfl, rfl, rfl, rfl, rfl⟩, ⟨_, rfl, rfl⟩⟩
theorem tt_39 : TIok Try.prog 39 ⟨1, 8, .fnc, [.nilFunc]⟩ := ⟨⟨Try.t39, _, rfl, rfl, rfl, rfl, rfl, rfl⟩, ⟨_, rfl, ⟨_, _, _, rfl⟩⟩⟩
theorem tt_40 : TIok Try.prog 40 ⟨1, 8, .fnc, [.nilFunc]⟩ := ⟨⟨Try.t40, _, rfl, rfl, rfl, rfl, rfl, rfl⟩, ⟨_, rfl, ⟨_, _, _, rfl⟩⟩⟩
theorem tt_41 : TIok Try.prog 41 ⟨6, 72, (.st [(0, 3), (1, 3), (2, 3), (3, 9), (4, 9), (5, 9)]), [.int .i64 0, .int .i64 0, .int .i64 0, .string ⟨#[]⟩, .string ⟨#[]⟩, .string ⟨#[]⟩]⟩ := ⟨⟨Try.t41, _, rfl, rfl, rfl, rfl, rfl, rfl⟩, ⟨_, rfl, ⟨_, rfl, rfl⟩⟩⟩
theorem tt_42 : TIok Try.prog 42 ⟨6, 72, (.st [(0, 3), (1, 3), (2, 3), (3, 9), (4, 9), (5, 9)]), [.int .i64 0, .int .i64 0, .int .i64 0, .string ⟨#[]⟩, .string ⟨#[]⟩, .string ⟨#[]⟩]⟩ := ⟨⟨Try.t42, _, rfl, rfl, rfl, rfl, rfl, rfl⟩, ⟨_, rfl, ⟨_, rfl, rfl⟩⟩⟩
theorem tt_43 : TIok Try.prog 43 ⟨1, 8, .fnc, [.nilFunc]⟩ := ⟨⟨Try.t43, _, rfl, rfl, rfl, rfl, rfl, rfl⟩, ⟨_, rfl, ⟨_, _, _, rfl⟩⟩⟩
theorem tt_44 : TIok Try.prog 44 ⟨1, 8, .fnc, [.nilFunc]⟩ := ⟨⟨Try.t44, _, rfl, rfl, rfl, rfl, rfl, rfl⟩, ⟨_, rfl, ⟨_, _, _, rfl⟩⟩⟩
theorem tt_45 : TIok Try.prog 45 ⟨1, 8, .fnc, [.nilFunc]⟩ := ⟨⟨Try.t45, _, rfl, rfl, rfl, rfl, rfl, rfl⟩, ⟨_, rfl, ⟨_, _, _, rfl⟩⟩⟩
theorem tt_46 : TIok Try.prog 46 ⟨1, 24, (.sl 3), [.slice none 0 0]⟩ := ⟨⟨Try.t46, _, rfl, rfl, rfl, rfl, rfl, rfl⟩, ⟨_, rfl, rfl⟩⟩
theorem tt_48 : TIok Try.prog 48 ⟨1, 8, .fnc, [.nilFunc]⟩ := ⟨⟨Try.t48, _, rfl, rfl, rfl, rfl, rfl, rfl⟩, ⟨_, rfl, ⟨_, _, _, rfl⟩⟩⟩
theorem tt_50 : TIok Try.prog 50 ⟨1, 8, .fnc, [.nilFunc]⟩ := ⟨⟨Try.t50, _, rfl, rfl, rfl, rfl, rfl, rfl⟩, ⟨_, rfl, ⟨_, _, _, rfl⟩⟩⟩
theorem tt_51 : TIok Try.prog 51 ⟨1, 8, .fnc, [.nilFunc]⟩ := ⟨⟨Try.t51, _, rfl, rfl, rfl, rfl, rfl, rfl⟩, ⟨_, rfl, ⟨_, _, _, rfl⟩⟩⟩
theorem tt_52 : TIok Try.prog 52 ⟨1, 8, .fnc, [.nilFunc]⟩ := ⟨⟨Try.t52, _, rfl, rfl, rfl, rfl, rfl, rfl⟩, ⟨_, rfl, ⟨_, _, _, rfl⟩⟩⟩
theorem tt_53 : TIok Try.prog 53 ⟨1, 8, .fnc, [.nilFunc]⟩ := ⟨⟨Try.t53, _, rfl, rfl, rfl, rfl, rfl, rfl⟩, ⟨_, rfl, ⟨_, _, _, rfl⟩⟩⟩
theorem tt_54 : TIok Try.prog 54 ⟨1, 8, .fnc, [.nilFunc]⟩ := ⟨⟨Try.t54, _, rfl, rfl, rfl, rfl, rfl, rfl⟩, ⟨_, rfl, ⟨_, _, _, rfl⟩⟩⟩
theorem tt_55 : TIok Try.prog 55 ⟨1, 8, .fnc, [.nilFunc]⟩ := ⟨⟨Try.t55, _, rfl, rfl, rfl, rfl, rfl, rfl⟩, ⟨_, rfl, ⟨_, _, _, rfl⟩⟩⟩
theorem tt_56 : TIok Try.prog 56 ⟨1, 8, .fnc, [.nilFunc]⟩ := ⟨⟨Try.t56, _, rfl, rfl, rfl, rfl, rfl, rfl⟩, ⟨_, rfl, ⟨_, _, _, rfl⟩⟩⟩
theorem tt_57 : TIok Try.prog 57 ⟨1, 24, (.sl 36), [.slice none 0 0]⟩ := ⟨⟨Try.t57, _, rfl, rfl, rfl, rfl, rfl, rfl⟩, ⟨_, rfl, rfl⟩⟩
theorem tt_58 : TIok Try.prog 58 ⟨1, 8, .fnc, [.nilFunc]⟩ := ⟨⟨Try.t58, _, rfl, rfl, rfl, rfl, rfl, rfl⟩, ⟨_, rfl, ⟨_, _, _, rfl⟩⟩⟩
theorem tt_59 : TIok Try.prog 59 ⟨1, 8, .fnc, [.nilFunc]⟩ := ⟨⟨Try.t59, _, rfl, rfl, rfl, rfl, rfl, rfl⟩, ⟨_, rfl, ⟨_, _, _, rfl⟩⟩⟩
theorem tt_60 : TIok Try.prog 60 ⟨1, 24, (.sl 136), [.slice none 0 0]⟩ := ⟨⟨Try.t60, _, rfl, rfl, rfl, rfl, rfl, rfl⟩, ⟨_, rfl, rfl⟩⟩
theorem tt_61 : TIok Try.prog 61 ⟨1, 24, (.st [(0, 60)]), [.slice none 0 0]⟩ := ⟨⟨Try.t61, _, rfl, rfl, rfl, rfl, rfl, rfl⟩, ⟨_, rfl, ⟨_, rfl, rfl⟩⟩⟩
theorem tt_62 : TIok Try.prog 62 ⟨1, 24, (.st [(0, 60)]), [.slice none 0 0]⟩ := ⟨⟨Try.t62, _, rfl, rfl, rfl, rfl, rfl, rfl⟩, ⟨_, rfl, ⟨_, rfl, rfl⟩⟩⟩
theorem tt_63 : TIok Try.prog 63 ⟨3, 40, (.st [(0, 62), (1, 3), (2, 4)]), [.slice none 0 0, .int .i64 0, .bool false]⟩ := ⟨⟨Try.t63, _, rfl, rfl, rfl, rfl, rfl, rfl⟩, ⟨_, rfl, ⟨_, rfl, rfl⟩⟩⟩
theorem tt_64 : TIok Try.prog 64 ⟨3, 40, (.st [(0, 62), (1, 3), (2, 4)]), [.slice none 0 0, .int .i64 0, .bool false]⟩ := ⟨⟨Try.t64, _, rfl, rfl, rfl, rfl, rfl, rfl⟩, ⟨_, rfl, ⟨_, rfl, rfl⟩⟩⟩
theorem tt_65 : TIok Try.prog 65 ⟨1, 24, (.sl 123), [.slice none 0 0]⟩ := ⟨⟨Try.t65, _, rfl, rfl, rfl, rfl, rfl, rfl⟩, ⟨_, rfl, rfl⟩⟩
theorem tt_66 : TIok Try.prog 66 ⟨2, 32, (.st [(0, 65), (1, 4)]), [.slice none 0 0, .bool false]⟩ := ⟨⟨Try.t66, _, rfl, rfl, rfl, rfl, rfl, rfl⟩, ⟨_, rfl, ⟨_, rfl, rfl⟩⟩⟩
theorem tt_67 : TIok Try.prog 67 ⟨2, 32, (.st [(0, 65), (1, 4)]), [.slice none 0 0, .bool false]⟩ := ⟨⟨Try.t67, _, rfl, rfl, rfl, rfl, rfl, rfl⟩, ⟨_, rfl, ⟨_, rfl, rfl⟩⟩⟩
theorem tt_69 : TIok Try.prog 69 ⟨1, 8, .fnc, [.nilFunc]⟩ := ⟨⟨Try.t69, _, rfl, rfl, rfl, rfl, rfl, rfl⟩, ⟨_, rfl, ⟨_, _, _, rfl⟩⟩⟩
theorem tt_70 : TIok Try.prog 70 ⟨1, 8, .fnc, [.nilFunc]⟩ := ⟨⟨Try.t70, _, rfl, rfl, rfl, rfl, rfl, rfl⟩, ⟨_, rfl, ⟨_, _, _, rfl⟩⟩⟩
theorem tt_71 : TIok Try.prog 71 ⟨1, 8, .fnc, [.nilFunc]⟩ := ⟨⟨Try.t71, _, rfl, rfl, rfl, rfl, rfl, rfl⟩, ⟨_, rfl, ⟨_, _, _, rfl⟩⟩⟩
theorem tt_72 : TIok Try.prog 72 ⟨1, 8, .fnc, [.nilFunc]⟩ := ⟨⟨Try.t72, _, rfl, rfl, rfl, rfl, rfl, rfl⟩, ⟨_, rfl, ⟨_, _, _, rfl⟩⟩⟩
theorem tt_73 : TIok Try.prog 73 ⟨1, 8, .fnc, [.nilFunc]⟩ := ⟨⟨Try.t73, _, rfl, rfl, rfl, rfl, rfl, rfl⟩, ⟨_, rfl, ⟨_, _, _, rfl⟩⟩⟩
theorem tt_75 : TIok Try.prog 75 ⟨1, 8, .fnc, [.nilFunc]⟩ := ⟨⟨Try.t75, _, rfl, rfl, rfl, rfl, rfl, rfl⟩, ⟨_, rfl, ⟨_, _, _, rfl⟩⟩⟩
theorem tt_76 : TIok Try.prog 76 ⟨2, 16, (.arr 2 3), [.int .i64 0, .int .i64 0]⟩ := ⟨⟨Try.t76, _, rfl, rfl, rfl, rfl, rfl, rfl⟩, ⟨_, rfl, rfl⟩⟩
theorem tt_77 : TIok Try.prog 77 ⟨2, 2, (.arr 2 4), [.bool false, .bool false]⟩ := ⟨⟨Try.t77, _, rfl, rfl, rfl, rfl, rfl, rfl⟩, ⟨_, rfl, rfl⟩⟩
theorem tt_78 : TIok Try.prog 78 ⟨6, 40, (.st [(0, 76), (2, 77), (4, 3), (5, 3)]), [.int .i64 0, .int .i64 0, .bool false, .bool false, .int .i64 0, .int .i64 0]⟩ := ⟨⟨Try.t78, _, rfl, rfl, rfl, rfl, rfl, rfl⟩, ⟨_, rfl, ⟨_, rfl, rfl⟩⟩⟩
theorem tt_79 : TIok Try.prog 79 ⟨6, 40, (.st [(0, 76), (2, 77), (4, 3), (5, 3)]), [.int .i64 0, .int .i64 0, .bool false, .bool false, .int .i64 0, .int .i64 0]⟩ := ⟨⟨Try.t79, _, rfl, rfl, rfl, rfl, rfl, rfl⟩, ⟨_, rfl, ⟨_, rfl, rfl⟩⟩⟩
theorem tt_81 : TIok Try.prog 81 ⟨1, 8, .fnc, [.nilFunc]⟩ := ⟨⟨Try.t81, _, rfl, rfl, rfl, rfl, rfl, rfl⟩, ⟨_, rfl, ⟨_, _, _, rfl⟩⟩⟩
theorem tt_82 : TIok Try.prog 82 ⟨1, 8, .fnc, [.nilFunc]⟩ := ⟨⟨Try.t82, _, rfl, rfl, rfl, rfl, rfl, rfl⟩, ⟨_, rfl, ⟨_, _, _, rfl⟩⟩⟩
theorem tt_83 : TIok Try.prog 83 ⟨1, 8, .fnc, [.nilFunc]⟩ := ⟨⟨Try.t83, _, rfl, rfl, rfl, rfl, rfl, rfl⟩, ⟨_, rfl, ⟨_, _, _, rfl⟩⟩⟩
theorem tt_84 : TIok Try.prog 84 ⟨1, 24, (.sl 127), [.slice none 0 0]⟩ := ⟨⟨Try.t84, _, rfl, rfl, rfl, rfl, rfl, rfl⟩, ⟨_, rfl, rfl⟩⟩
theorem tt_85 : TIok Try.prog 85 ⟨1, 24, (.st [(0, 84)]), [.slice none 0 0]⟩ := ⟨⟨Try.t85, _, rfl, rfl, rfl, rfl, rfl, rfl⟩, ⟨_, rfl, ⟨_, rfl, rfl⟩⟩⟩
theorem tt_86 : TIok Try.prog 86 ⟨1, 24, (.st [(0, 84)]), [.slice none 0 0]⟩ := ⟨⟨Try.t86, _, rfl, rfl, rfl, rfl, rfl, rfl⟩, ⟨_, rfl, ⟨_, rfl, rfl⟩⟩⟩
theorem tt_87 : TIok Try.prog 87 ⟨3, 40, (.st [(0, 86), (1, 3), (2, 4)]), [.slice none 0 0, .int .i64 0, .bool false]⟩ := ⟨⟨Try.t87, _, rfl, rfl, rfl, rfl, rfl, rfl⟩, ⟨_, rfl, ⟨_, rfl, rfl⟩⟩⟩
theorem tt_88 : TIok Try.prog 88 ⟨3, 40, (.st [(0, 86), (1, 3), (2, 4)]), [.slice none 0 0, .int .i64 0, .bool false]⟩ := ⟨⟨Try.t88, _, rfl, rfl, rfl, rfl, rfl, rfl⟩, ⟨_, rfl, ⟨_, rfl, rfl⟩⟩⟩
theorem tt_89 : TIok Try.prog 89 ⟨1, 8, (.ptr 94), [.pointer none]⟩ := ⟨⟨Try.t89, _, rfl, rfl, rfl, rfl, rfl, rfl⟩, ⟨_, rfl, rfl⟩⟩
theorem tt_91 : TIok Try.prog 91 ⟨1, 8, .fnc, [.nilFunc]⟩ := ⟨⟨Try.t91, _, rfl, rfl, rfl, rfl, rfl, rfl⟩, ⟨_, rfl, ⟨_, _, _, rfl⟩⟩⟩
theorem tt_92 : TIok Try.prog 92 ⟨6, 96, (.arr 2 29), [.string ⟨#[]⟩, .int .i64 0, .slice none 0 0, .string ⟨#[]⟩, .int .i64 0, .slice none 0 0]⟩ := ⟨⟨Try.t92, _, rfl, rfl, rfl, rfl, rfl, rfl⟩, ⟨_, rfl, rfl⟩⟩
theorem tt_93 : TIok Try.prog 93 ⟨10, 120, (.st [(0, 92), (6, 77), (8, 3), (9, 3)]), [.string ⟨#[]⟩, .int .i64 0, .slice none 0 0, .string ⟨#[]⟩, .int .i64 0, .slice none 0 0, .bool false, .bool false, .int .i64 0, .int .i64 0]⟩ := ⟨⟨Try.t93, _, rfl, rfl, rfl, rfl, rfl, rfl⟩, ⟨_, rfl, ⟨_, rfl, rfl⟩⟩⟩
theorem tt_94 : TIok Try.prog 94 ⟨10, 120, (.st [(0, 92), (6, 77), (8, 3), (9, 3)]), [.string ⟨#[]⟩, .int .i64 0, .slice none 0 0, .string ⟨#[]⟩, .int .i64 0, .slice none 0 0, .bool false, .bool false, .int .i64 0, .int .i64 0]⟩ := ⟨⟨Try.t94, _, rfl, rfl, rfl, rfl, rfl, rfl⟩, ⟨_, rfl, ⟨_, rfl, rfl⟩⟩⟩
theorem tt_95 : TIok Try.prog 95 ⟨1, 8, .fnc, [.nilFunc]⟩ := ⟨⟨Try.t95, _, rfl, rfl, rfl, rfl, rfl, rfl⟩, ⟨_, rfl, ⟨_, _, _, rfl⟩⟩⟩
theorem tt_96 : TIok Try.prog 96 ⟨1, 8, .fnc, [.nilFunc]⟩ := ⟨⟨Try.t96, _, rfl, rfl, rfl, rfl, rfl, rfl⟩, ⟨_, rfl, ⟨_, _, _, rfl⟩⟩⟩
theorem tt_97 : TIok Try.prog 97 ⟨1, 8, .fnc, [.nilFunc]⟩ := ⟨⟨Try.t97, _, rfl, rfl, rfl, rfl, rfl, rfl⟩, ⟨_, rfl, ⟨_, _, _, rfl⟩⟩⟩
theorem tt_98 : TIok Try.prog 98 ⟨1, 8, .fnc, [.nilFunc]⟩ := ⟨⟨Try.t98, _, rfl, rfl, rfl, rfl, rfl, rfl⟩, ⟨_, rfl, ⟨_, _, _, rfl⟩⟩⟩
theorem tt_99 : TIok Try.prog 99 ⟨1, 8, (.ptr 29), [.pointer none]⟩ := ⟨⟨Try.t99, _, rfl, rfl, rfl, rfl, rfl, rfl⟩, ⟨_, rfl, rfl⟩⟩
theorem tt_100 : TIok Try.prog 100 ⟨1, 8, .fnc, [.nilFunc]⟩ := ⟨⟨Try.t100, _, rfl, rfl, rfl, rfl, rfl, rfl⟩, ⟨_, rfl, ⟨_, _, _, rfl⟩⟩⟩
theorem tt_101 : TIok Try.prog 101 ⟨1, 8, .fnc, [.nilFunc]⟩ := ⟨⟨Try.t101, _, rfl, rfl, rfl, rfl, rfl, rfl⟩, ⟨_, rfl, ⟨_, _, _, rfl⟩⟩⟩
theorem tt_102 : TIok Try.prog 102 ⟨1, 8, .fnc, [.nilFunc]⟩ := ⟨⟨Try.t102, _, rfl, rfl, rfl, rfl, rfl, rfl⟩, ⟨_, rfl, ⟨_, _, _, rfl⟩⟩⟩
theorem tt_103 : TIok Try.prog 103 ⟨1, 8, .fnc, [.nilFunc]⟩ := ⟨⟨Try.t103, _, rfl, rfl, rfl, rfl, rfl, rfl⟩, ⟨_, rfl, ⟨_, _, _, rfl⟩⟩⟩
theorem tt_104 : TIok Try.prog 104 ⟨1, 8, (.ptr 79), [.pointer none]⟩ := ⟨⟨Try.t104, _, rfl, rfl, rfl, rfl, rfl, rfl⟩, ⟨_, rfl, rfl⟩⟩
theorem tt_105 : TIok Try.prog 105 ⟨1, 8, .fnc, [.nilFunc]⟩ := ⟨⟨Try.t105, _, rfl, rfl, rfl, rfl, rfl, rfl⟩, ⟨_, rfl, ⟨_, _, _, rfl⟩⟩⟩
theorem tt_106 : TIok Try.prog 106 ⟨1, 8, (.ptr 3), [.pointer none]⟩ := ⟨⟨Try.t106, _, rfl, rfl, rfl, rfl, rfl, rfl⟩, ⟨_, rfl, rfl⟩⟩
theorem tt_108 : TIok Try.prog 108 ⟨1, 8, .fnc, [.nilFunc]⟩ := ⟨⟨Try.t108, _, rfl, rfl, rfl, rfl, rfl, rfl⟩, ⟨_, rfl, ⟨_, _, _, rfl⟩⟩⟩
theorem tt_109 : TIok Try.prog 109 ⟨1, 8, .fnc, [.nilFunc]⟩ := ⟨⟨Try.t109, _, rfl, rfl, rfl, rfl, rfl, rfl⟩, ⟨_, rfl, ⟨_, _, _, rfl⟩⟩⟩
theorem tt_110 : TIok Try.prog 110 ⟨1, 8, .fnc, [.nilFunc]⟩ := ⟨⟨Try.t110, _, rfl, rfl, rfl, rfl, rfl, rfl⟩, ⟨_, rfl, ⟨_, _, _, rfl⟩⟩⟩
theorem tt_111 : TIok Try.prog 111 ⟨1, 8, .fnc, [.nilFunc]⟩ := ⟨⟨Try.t111, _, rfl, rfl, rfl, rfl, rfl, rfl⟩, ⟨_, rfl, ⟨_, _, _, rfl⟩⟩⟩
theorem tt_112 : TIok Try.prog 112 ⟨1, 8, .fnc, [.nilFunc]⟩ := ⟨⟨Try.t112, _, rfl, rfl, rfl, rfl, rfl, rfl⟩, ⟨_, rfl, ⟨_, _, _, rfl⟩⟩⟩
theorem tt_113 : TIok Try.prog 113 ⟨1, 8, .fnc, [.nilFunc]⟩ := ⟨⟨Try.t113, _, rfl, rfl, rfl, rfl, rfl, rfl⟩, ⟨_, rfl, ⟨_, _, _, rfl⟩⟩⟩
theorem tt_115 : TIok Try.prog 115 ⟨1, 8, .fnc, [.nilFunc]⟩ := ⟨⟨Try.t115, _, rfl, rfl, rfl, rfl, rfl, rfl⟩, ⟨_, rfl, ⟨_, _, _, rfl⟩⟩⟩
theorem tt_116 : TIok Try.prog 116 ⟨1, 8, .fnc, [.nilFunc]⟩ := ⟨⟨Try.t116, _, rfl, rfl, rfl, rfl, rfl, rfl⟩, ⟨_, rfl, ⟨_, _, _, rfl⟩⟩⟩
theorem tt_117 : TIok Try.prog 117 ⟨1, 8, .fnc, [.nilFunc]⟩ := ⟨⟨Try.t117, _, rfl, rfl, rfl, rfl, rfl, rfl⟩, ⟨_, rfl, ⟨_, _, _, rfl⟩⟩⟩
theorem tt_118 : TIok Try.prog 118 ⟨1, 8, .fnc, [.nilFunc]⟩ := ⟨⟨Try.t118, _, rfl, rfl, rfl, rfl, rfl, rfl⟩, ⟨_, rfl, ⟨_, _, _, rfl⟩⟩⟩
theorem tt_119 : TIok Try.prog 119 ⟨1, 8, .fnc, [.nilFunc]⟩ := ⟨⟨Try.t119, _, rfl, rfl, rfl, rfl, rfl, rfl⟩, ⟨_, rfl, ⟨_, _, _, rfl⟩⟩⟩
theorem tt_121 : TIok Try.prog 121 ⟨1, 8, .fnc, [.nilFunc]⟩ := ⟨⟨Try.t121, _, rfl, rfl, rfl, rfl, rfl, rfl⟩, ⟨_, rfl, ⟨_, _, _, rfl⟩⟩⟩
theorem tt_122 : TIok Try.prog 122 ⟨7, 56, (.st [(0, 9), (1, 79)]), [.string ⟨#[]⟩, .int .i64 0, .int .i64 0, .bool false, .bool false, .int .i64 0, .int .i64 0]⟩ := ⟨⟨Try.t122, _, rfl, rfl, rfl, rfl, rfl, rfl⟩, ⟨_, rfl, ⟨_, rfl, rfl⟩⟩⟩
theorem tt_123 : TIok Try.prog 123 ⟨7, 56, (.st [(0, 9), (1, 79)]), [.string ⟨#[]⟩, .int .i64 0, .int .i64 0, .bool false, .bool false, .int .i64 0, .int .i64 0]⟩ := ⟨⟨Try.t123, _, rfl, rfl, rfl, rfl, rfl, rfl⟩, ⟨_, rfl, ⟨_, rfl, rfl⟩⟩⟩
theorem tt_124 : TIok Try.prog 124 ⟨1, 8, .fnc, [.nilFunc]⟩ := ⟨⟨Try.t124, _, rfl, rfl, rfl, rfl, rfl, rfl⟩, ⟨_, rfl, ⟨_, _, _, rfl⟩⟩⟩
theorem tt_125 : TIok Try.prog 125 ⟨1, 8, (.ptr 86), [.pointer none]⟩ := ⟨⟨Try.t125, _, rfl, rfl, rfl, rfl, rfl, rfl⟩, ⟨_, rfl, rfl⟩⟩
theorem tt_126 : TIok Try.prog 126 ⟨2, 24, (.st [(0, 9), (1, 89)]), [.string ⟨#[]⟩, .pointer none]⟩ := ⟨⟨Try.t126, _, rfl, rfl, rfl, rfl, rfl, rfl⟩, ⟨_, rfl, ⟨_, rfl, rfl⟩⟩⟩
theorem tt_127 : TIok Try.prog 127 ⟨2, 24, (.st [(0, 9), (1, 89)]), [.string ⟨#[]⟩, .pointer none]⟩ := ⟨⟨Try.t127, _, rfl, rfl, rfl, rfl, rfl, rfl⟩, ⟨_, rfl, ⟨_, rfl, rfl⟩⟩⟩
theorem tt_128 : TIok Try.prog 128 ⟨1, 8, (.ptr 89), [.pointer none]⟩ := ⟨⟨Try.t128, _, rfl, rfl, rfl, rfl, rfl, rfl⟩, ⟨_, rfl, rfl⟩⟩
theorem tt_129 : TIok Try.prog 129 ⟨1, 8, .fnc, [.nilFunc]⟩ := ⟨⟨Try.t129, _, rfl, rfl, rfl, rfl, rfl, rfl⟩, ⟨_, rfl, ⟨_, _, _, rfl⟩⟩⟩
theorem tt_130 : TIok Try.prog 130 ⟨1, 8, .fnc, [.nilFunc]⟩ := ⟨⟨Try.t130, _, rfl, rfl, rfl, rfl, rfl, rfl⟩, ⟨_, rfl, ⟨_, _, _, rfl⟩⟩⟩
theorem tt_131 : TIok Try.prog 131 ⟨1, 8, .fnc, [.nilFunc]⟩ := ⟨⟨Try.t131, _, rfl, rfl, rfl, rfl, rfl, rfl⟩, ⟨_, rfl, ⟨_, _, _, rfl⟩⟩⟩
theorem tt_132 : TIok Try.prog 132 ⟨1, 8, .fnc, [.nilFunc]⟩ := ⟨⟨Try.t132, _, rfl, rfl, rfl, rfl, rfl, rfl⟩, ⟨_, rfl, ⟨_, _, _, rfl⟩⟩⟩
theorem tt_133 : TIok Try.prog 133 ⟨1, 8, (.ptr 62), [.pointer none]⟩ := ⟨⟨Try.t133, _, rfl, rfl, rfl, rfl, rfl, rfl⟩, ⟨_, rfl, rfl⟩⟩
theorem tt_134 : TIok Try.prog 134 ⟨1, 8, .fnc, [.nilFunc]⟩ := ⟨⟨Try.t134, _, rfl, rfl, rfl, rfl, rfl, rfl⟩, ⟨_, rfl, ⟨_, _, _, rfl⟩⟩⟩
theorem tt_135 : TIok Try.prog 135 ⟨2, 24, (.st [(0, 9), (1, 104)]), [.string ⟨#[]⟩, .pointer none]⟩ := ⟨⟨Try.t135, _, rfl, rfl, rfl, rfl, rfl, rfl⟩, ⟨_, rfl, ⟨_, rfl, rfl⟩⟩⟩
theorem tt_136 : TIok Try.prog 136 ⟨2, 24, (.st [(0, 9), (1, 104)]), [.string ⟨#[]⟩, .pointer none]⟩ := ⟨⟨Try.t136, _, rfl, rfl, rfl, rfl, rfl, rfl⟩, ⟨_, rfl, ⟨_, rfl, rfl⟩⟩⟩
theorem tt_137 : TIok Try.prog 137 ⟨1, 8, .fnc, [.nilFunc]⟩ := ⟨⟨Try.t137, _, rfl, rfl, rfl, rfl, rfl, rfl⟩, ⟨_, rfl, ⟨_, _, _, rfl⟩⟩⟩
theorem tt_138 : TIok Try.prog 138 ⟨1, 8, (.ptr 104), [.pointer none]⟩ := ⟨⟨Try.t138, _, rfl, rfl, rfl, rfl, rfl, rfl⟩, ⟨_, rfl, rfl⟩⟩
theorem tt_139 : TIok Try.prog 139 ⟨1, 8, .fnc, [.nilFunc]⟩ := ⟨⟨Try.t139, _, rfl, rfl, rfl, rfl, rfl, rfl⟩, ⟨_, rfl, ⟨_, _, _, rfl⟩⟩⟩
theorem tt_140 : TIok Try.prog 140 ⟨1, 8, .fnc, [.nilFunc]⟩ := ⟨⟨Try.t140, _, rfl, rfl, rfl, rfl, rfl, rfl⟩, ⟨_, rfl, ⟨_, _, _, rfl⟩⟩⟩
theorem tt_141 : TIok Try.prog 141 ⟨1, 8, .fnc, [.nilFunc]⟩ := ⟨⟨Try.t141, _, rfl, rfl, rfl, rfl, rfl, rfl⟩, ⟨_, rfl, ⟨_, _, _, rfl⟩⟩⟩
theorem tt_142 : TIok Try.prog 142 ⟨1, 8, .fnc, [.nilFunc]⟩ := ⟨⟨Try.t142, _, rfl, rfl, rfl, rfl, rfl, rfl⟩, ⟨_, rfl, ⟨_, _, _, rfl⟩⟩⟩
theorem tt_143 : TIok Try.prog 143 ⟨1, 8, .fnc, [.nilFunc]⟩ := ⟨⟨Try.t143, _, rfl, rfl, rfl, rfl, rfl, rfl⟩, ⟨_, rfl, ⟨_, _, _, rfl⟩⟩⟩
theorem tt_144 : TIok Try.prog 144 ⟨1, 8, .fnc, [.nilFunc]⟩ := ⟨⟨Try.t144, _, rfl, rfl, rfl, rfl, rfl, rfl⟩, ⟨_, rfl, ⟨_, _, _, rfl⟩⟩⟩
theorem tt_145 : TIok Try.prog 145 ⟨1, 8, .fnc, [.nilFunc]⟩ := ⟨⟨Try.t145, _, rfl, rfl, rfl, rfl, rfl, rfl⟩, ⟨_, rfl, ⟨_, _, _, rfl⟩⟩⟩
theorem tt_146 : TIok Try.prog 146 ⟨1, 8, .fnc, [.nilFunc]⟩ := ⟨⟨Try.t146, _, rfl, rfl, rfl, rfl, rfl, rfl⟩, ⟨_, rfl, ⟨_, _, _, rfl⟩⟩⟩
theorem tt_147 : TIok Try.prog 147 ⟨1, 8, .fnc, [.nilFunc]⟩ := ⟨⟨Try.t147, _, rfl, rfl, rfl, rfl, rfl, rfl⟩, ⟨_, rfl, ⟨_, _, _, rfl⟩⟩⟩
theorem tt_148 : TIok Try.prog 148 ⟨1, 8, .fnc, [.nilFunc]⟩ := ⟨⟨Try.t148, _, rfl, rfl, rfl, rfl, rfl, rfl⟩, ⟨_, rfl, ⟨_, _, _, rfl⟩⟩⟩
theorem tt_149 : TIok Try.prog 149 ⟨1, 8, .fnc, [.nilFunc]⟩ := ⟨⟨Try.t149, _, rfl, rfl, rfl, rfl, rfl, rfl⟩, ⟨_, rfl, ⟨_, _, _, rfl⟩⟩⟩
theorem tt_150 : TIok Try.prog 150 ⟨1, 8, .fnc, [.nilFunc]⟩ := ⟨⟨Try.t150, _, rfl, rfl, rfl, rfl, rfl, rfl⟩, ⟨_, rfl, ⟨_, _, _, rfl⟩⟩⟩
theorem tt_151 : TIok Try.prog 151 ⟨1, 8, .fnc, [.nilFunc]⟩ := ⟨⟨Try.t151, _, rfl, rfl, rfl, rfl, rfl, rfl⟩, ⟨_, rfl, ⟨_, _, _, rfl⟩⟩⟩
theorem tt_152 : TIok Try.prog 152 ⟨1, 8, .fnc, [.nilFunc]⟩ := ⟨⟨Try.t152, _, rfl, rfl, rfl, rfl, rfl, rfl⟩, ⟨_, rfl, ⟨_, _, _, rfl⟩⟩⟩
theorem tt_153 : TIok Try.prog 153 ⟨1, 8, .fnc, [.nilFunc]⟩ := ⟨⟨Try.t153, _, rfl, rfl, rfl, rfl, rfl, rfl⟩, ⟨_, rfl, ⟨_, _, _, rfl⟩⟩⟩
theorem tt_154 : TIok Try.prog 154 ⟨1, 8, .fnc, [.nilFunc]⟩ := ⟨⟨Try.t154, _, rfl, rfl, rfl, rfl, rfl, rfl⟩, ⟨_, rfl, ⟨_, _, _, rfl⟩⟩⟩
theorem tt_155 : TIok Try.prog 155 ⟨1, 8, .fnc, [.nilFunc]⟩ := ⟨⟨Try.t155, _, rfl, rfl, rfl, rfl, rfl, rfl⟩, ⟨_, rfl, ⟨_, _, _, rfl⟩⟩⟩
theorem tt_156 : TIok Try.prog 156 ⟨1, 8, (.int .u64), [.int .u64 0]⟩ := ⟨⟨Try.t156, _, rfl, rfl, rfl, rfl, rfl, rfl⟩, ⟨_, rfl, rfl⟩⟩
theorem tt_157 : TIok Try.prog 157 ⟨1, 8, .fnc, [.nilFunc]⟩ := ⟨⟨Try.t157, _, rfl, rfl, rfl, rfl, rfl, rfl⟩, ⟨_, rfl, ⟨_, _, _, rfl⟩⟩⟩
theorem tt_158 : TIok Try.prog 158 ⟨1, 8, .fnc, [.nilFunc]⟩ := ⟨⟨Try.t158, _, rfl, rfl, rfl, rfl, rfl, rfl⟩, ⟨_, rfl, ⟨_, _, _, rfl⟩⟩⟩
theorem tt_159 : TIok Try.prog 159 ⟨1, 8, .fnc, [.nilFunc]⟩ := ⟨⟨Try.t159, _, rfl, rfl, rfl, rfl, rfl, rfl⟩, ⟨_, rfl, ⟨_, _, _, rfl⟩⟩⟩
theorem tt_160 : TIok Try.prog 160 ⟨4, 40, (.st [(0, 17), (1, 17), (2, 17), (3, 9)]), [.pointer none, .pointer none, .pointer none, .string ⟨#[]⟩]⟩ := ⟨⟨Try.t160, _, rfl, rfl, rfl, rfl, rfl, rfl⟩, ⟨_, rfl, ⟨_, rfl, rfl⟩⟩⟩
theorem tt_161 : TIok Try.prog 161 ⟨4, 40, (.st [(0, 17), (1, 17), (2, 17), (3, 9)]), [.pointer none, .pointer none, .pointer none, .string ⟨#[]⟩]⟩ := ⟨⟨Try.t161, _, rfl, rfl, rfl, rfl, rfl, rfl⟩, ⟨_, rfl, ⟨_, rfl, rfl⟩⟩⟩
theorem tt_162 : TIok Try.prog 162 ⟨0, 0, (.arr 0 16), []⟩ := ⟨⟨Try.t162, _, rfl, rfl, rfl, rfl, rfl, rfl⟩, ⟨_, rfl, rfl⟩⟩
theorem tt_163 : TIok Try.prog 163 ⟨0, 0, (.st [(0, 162)]), []⟩ := ⟨⟨Try.t163, _, rfl, rfl, rfl, rfl, rfl, rfl⟩, ⟨_, rfl, ⟨_, rfl, rfl⟩⟩⟩
theorem tt_164 : TIok Try.prog 164 ⟨0, 0, (.st [(0, 162)]), []⟩ := ⟨⟨Try.t164, _, rfl, rfl, rfl, rfl, rfl, rfl⟩, ⟨_, rfl, ⟨_, rfl, rfl⟩⟩⟩
theorem tt_165 : TIok Try.prog 165 ⟨1, 4, (.int .u32), [.int .u32 0]⟩ := ⟨⟨Try.t165, _, rfl, rfl, rfl, rfl, rfl, rfl⟩, ⟨_, rfl, rfl⟩⟩
theorem tt_166 : TIok Try.prog 166 ⟨1, 1, (.int .u8), [.int .u8 0]⟩ := ⟨⟨Try.t166, _, rfl, rfl, rfl, rfl, rfl, rfl⟩, ⟨_, rfl, rfl⟩⟩
theorem tt_167 : TIok Try.prog 167 ⟨1, 1, (.int .u8), [.int .u8 0]⟩ := ⟨⟨Try.t167, _, rfl, rfl, rfl, rfl, rfl, rfl⟩, ⟨_, rfl, rfl⟩⟩
theorem tt_168 : TIok Try.prog 168 ⟨1, 8, .fnc, [.nilFunc]⟩ := ⟨⟨Try.t168, _, rfl, rfl, rfl, rfl, rfl, rfl⟩, ⟨_, rfl, ⟨_, _, _, rfl⟩⟩⟩
theorem tt_169 : TIok Try.prog 169 ⟨1, 8, (.ptr 5), [.pointer none]⟩ := ⟨⟨Try.t169, _, rfl, rfl, rfl, rfl, rfl, rfl⟩, ⟨_, rfl, rfl⟩⟩
theorem tt_170 : TIok Try.prog 170 ⟨1, 4, (.int .i32), [.int .i32 0]⟩ := ⟨⟨Try.t170, _, rfl, rfl, rfl, rfl, rfl, rfl⟩, ⟨_, rfl, rfl⟩⟩
theorem tt_171 : TIok Try.prog 171 ⟨1, 4, (.int .i32), [.int .i32 0]⟩ := ⟨⟨Try.t171, _, rfl, rfl, rfl, rfl, rfl, rfl⟩, ⟨_, rfl, rfl⟩⟩
theorem tt_172 : TIok Try.prog 172 ⟨11, 48, (.st [(0, 12), (1, 12), (2, 165), (3, 166), (4, 5), (5, 5), (6, 167), (7, 168), (8, 169), (9, 170), (10, 171)]), [.int .u64 0, .int .u64 0, .int .u32 0, .int .u8 0, .int .u8 0, .int .u8 0, .int .u8 0, .nilFunc, .pointer none, .int .i32 0, .int .i32 0]⟩ := ⟨⟨Try.t172, _, rfl, rfl, rfl, rfl, rfl, rfl⟩, ⟨_, rfl, ⟨_, rfl, rfl⟩⟩⟩
theorem tt_173 : TIok Try.prog 173 ⟨11, 48, (.st [(0, 12), (1, 12), (2, 165), (3, 166), (4, 5), (5, 5), (6, 167), (7, 168), (8, 169), (9, 170), (10, 171)]), [.int .u64 0, .int .u64 0, .int .u32 0, .int .u8 0, .int .u8 0, .int .u8 0, .int .u8 0, .nilFunc, .pointer none, .int .i32 0, .int .i32 0]⟩ := ⟨⟨Try.t173, _, rfl, rfl, rfl, rfl, rfl, rfl⟩, ⟨_, rfl, ⟨_, rfl, rfl⟩⟩⟩
theorem tt_174 : TIok Try.prog 174 ⟨1, 8, .fnc, [.nilFunc]⟩ := ⟨⟨Try.t174, _, rfl, rfl, rfl, rfl, rfl, rfl⟩, ⟨_, rfl, ⟨_, _, _, rfl⟩⟩⟩
theorem tt_175 : TIok Try.prog 175 ⟨1, 8, .fnc, [.nilFunc]⟩ := ⟨⟨Try.t175, _, rfl, rfl, rfl, rfl, rfl, rfl⟩, ⟨_, rfl, ⟨_, _, _, rfl⟩⟩⟩
theorem tt_176 : TIok Try.prog 176 ⟨1, 8, .fnc, [.nilFunc]⟩ := ⟨⟨Try.t176, _, rfl, rfl, rfl, rfl, rfl, rfl⟩, ⟨_, rfl, ⟨_, _, _, rfl⟩⟩⟩
theorem tt_177 : TIok Try.prog 177 ⟨3, 32, (.st [(0, 3), (1, 2), (2, 9)]), [.int .i64 0, .int .i64 0, .string ⟨#[]⟩]⟩ := ⟨⟨Try.t177, _, rfl, rfl, rfl, rfl, rfl, rfl⟩, ⟨_, rfl, ⟨_, rfl, rfl⟩⟩⟩
theorem tt_178 : TIok Try.prog 178 ⟨3, 32, (.st [(0, 3), (1, 2), (2, 9)]), [.int .i64 0, .int .i64 0, .string ⟨#[]⟩]⟩ := ⟨⟨Try.t178, _, rfl, rfl, rfl, rfl, rfl, rfl⟩, ⟨_, rfl, ⟨_, rfl, rfl⟩⟩⟩
theorem tt_179 : TIok Try.prog 179 ⟨8, 72, (.st [(0, 3), (1, 3), (2, 3), (3, 3), (4, 3), (5, 178)]), [.int .i64 0, .int .i64 0, .int .i64 0, .int .i64 0, .int .i64 0, .int .i64 0, .int .i64 0, .string ⟨#[]⟩]⟩ := ⟨⟨Try.t179, _, rfl, rfl, rfl, rfl, rfl, rfl⟩, ⟨_, rfl, ⟨_, rfl, rfl⟩⟩⟩
theorem tt_180 : TIok Try.prog 180 ⟨8, 72, (.st [(0, 3), (1, 3), (2, 3), (3, 3), (4, 3), (5, 178)]), [.int .i64 0, .int .i64 0, .int .i64 0, .int .i64 0, .int .i64 0, .int .i64 0, .int .i64 0, .string ⟨#[]⟩]⟩ := ⟨⟨Try.t180, _, rfl, rfl, rfl, rfl, rfl, rfl⟩, ⟨_, rfl, ⟨_, rfl, rfl⟩⟩⟩
theorem tt_181 : TIok Try.prog 181 ⟨1, 8, .oth, [.pointer none]⟩ := ⟨⟨Try.t181, _, rfl, rfl, rfl, rfl, rfl, rfl⟩, ⟨_, rfl, rfl⟩⟩
theorem tt_182 : TIok Try.prog 182 ⟨1, 8, .fnc, [.nilFunc]⟩ := ⟨⟨Try.t182, _, rfl, rfl, rfl, rfl, rfl, rfl⟩, ⟨_, rfl, ⟨_, _, _, rfl⟩⟩⟩
theorem tt_183 : TIok Try.prog 183 ⟨1, 8, .fnc, [.nilFunc]⟩ := ⟨⟨Try.t183, _, rfl, rfl, rfl, rfl, rfl, rfl⟩, ⟨_, rfl, ⟨_, _, _, rfl⟩⟩⟩
theorem tt_184 : TIok Try.prog 184 ⟨1, 8, .fnc, [.nilFunc]⟩ := ⟨⟨Try.t184, _, rfl, rfl, rfl, rfl, rfl, rfl⟩, ⟨_, rfl, ⟨_, _, _, rfl⟩⟩⟩
theorem ttok : TTok Try.prog tt :=
  TTok.cons tt_1 (TTok.cons tt_2 (TTok.cons tt_3 (TTok.cons tt_4 (TTok.cons tt_5 (TTok.cons tt_6 (TTok.cons tt_7 (TTok.cons tt_8 (TTok.cons tt_9 (TTok.cons tt_10 (TTok.cons tt_11 (TTok.cons tt_12 (TTok.cons tt_13 (TTok.cons tt_14 (TTok.cons tt_15 (TTok.cons tt_16 (TTok.cons tt_17 (TTok.cons tt_18 (TTok.cons tt_19 (TTok.cons tt_20 (TTok.cons tt_21 (TTok.cons tt_22 (TTok.cons tt_23 (TTok.cons tt_24 (TTok.cons tt_25 (TTok.cons tt_26 (TTok.cons tt_27 (TTok.cons tt_28 (TTok.cons tt_29 (TTok.cons tt_30 (TTok.cons tt_31 (TTok.cons tt_32 (TTok.cons tt_34 (TTok.cons tt_35 (TTok.cons tt_36 (TTok.cons tt_37 (TTok.cons tt_38 (TTok.cons tt_39 (TTok.cons tt_40 (TTok.cons tt_41 (TTok.cons tt_42 (TTok.cons tt_43 (TTok.cons tt_44 (TTok.cons tt_45 (TTok.cons tt_46 (TTok.cons tt_48 (TTok.cons tt_50 (TTok.cons tt_51 (TTok.cons tt_52 (TTok.cons tt_53 (TTok.cons tt_54 (TTok.cons tt_55 (TTok.cons tt_56 (TTok.cons tt_57 (TTok.cons tt_58 (TTok.cons tt_59 (TTok.cons tt_60 (TTok.cons tt_61 (TTok.cons tt_62 (TTok.cons tt_63 (TTok.cons tt_64 (TTok.cons tt_65 (TTok.cons tt_66 (TTok.cons tt_67 (TTok.cons tt_69 (TTok.cons tt_70 (TTok.cons tt_71 (TTok.cons tt_72 (TTok.cons tt_73 (TTok.cons tt_75 (TTok.cons tt_76 (TTok.cons tt_77 (TTok.cons tt_78 (TTok.cons tt_79 (TTok.cons tt_81 (TTok.cons tt_82 (TTok.cons tt_83 (TTok.cons tt_84 (TTok.cons tt_85 (TTok.cons tt_86 (TTok.cons tt_87 (TTok.cons tt_88 (TTok.cons tt_89 (TTok.cons tt_91 (TTok.cons tt_92 (TTok.cons tt_93 (TTok.cons tt_94 (TTok.cons tt_95 (TTok.cons tt_96 (TTok.cons tt_97 (TTok.cons tt_98 (TTok.cons tt_99 (TTok.cons tt_100 (TTok.cons tt_101 (TTok.cons tt_102 (TTok.cons tt_103 (TTok.cons tt_104 (TTok.cons tt_105 (TTok.cons tt_106 (TTok.cons tt_108 (TTok.cons tt_109 (TTok.cons tt_110 (TTok.cons tt_111 (TTok.cons tt_112 (TTok.cons tt_113 (TTok.cons tt_115 (TTok.cons tt_116 (TTok.cons tt_117 (TTok.cons tt_118 (TTok.cons tt_119 (TTok.cons tt_121 (TTok.cons tt_122 (TTok.cons tt_123 (TTok.cons tt_124 (TTok.cons tt_125 (TTok.cons tt_126 (TTok.cons tt_127 (TTok.cons tt_128 (TTok.cons tt_129 (TTok.cons tt_130 (TTok.cons tt_131 (TTok.cons tt_132 (TTok.cons tt_133 (TTok.cons tt_134 (TTok.cons tt_135 (TTok.cons tt_136 (TTok.cons tt_137 (TTok.cons tt_138 (TTok.cons tt_139 (TTok.cons tt_140 (TTok.cons tt_141 (TTok.cons tt_142 (TTok.cons tt_143 (TTok.cons tt_144 (TTok.cons tt_145 (TTok.cons tt_146 (TTok.cons tt_147 (TTok.cons tt_148 (TTok.cons tt_149 (TTok.cons tt_150 (TTok.cons tt_151 (TTok.cons tt_152 (TTok.cons tt_153 (TTok.cons tt_154 (TTok.cons tt_155 (TTok.cons tt_156 (TTok.cons tt_157 (TTok.cons tt_158 (TTok.cons tt_159 (TTok.cons tt_160 (TTok.cons tt_161 (TTok.cons tt_162 (TTok.cons tt_163 (TTok.cons tt_164 (TTok.cons tt_165 (TTok.cons tt_166 (TTok.cons tt_167 (TTok.cons tt_168 (TTok.cons tt_169 (TTok.cons tt_170 (TTok.cons tt_171 (TTok.cons tt_172 (TTok.cons tt_173 (TTok.cons tt_174 (TTok.cons tt_175 (TTok.cons tt_176 (TTok.cons tt_177 (TTok.cons tt_178 (TTok.cons tt_179 (TTok.cons tt_180 (TTok.cons tt_181 (TTok.cons tt_182 (TTok.cons tt_183 (TTok.cons tt_184 (TTok.nil _))))))))))))))))))))))))))))))))))))))))))))))))))))))))))))))))))))))))))))))))))))))))))))))))))))))))))))))))))))))))))))))))))))))))))))))))))))))))))))))))))))))))))))))
end Go.Proofs.Yteabncomclgncaa
namespace Go.Proofs.Yteabncomclgncaa
set_option linter.unusedVariables false
set_option linter.unusedSimpArgs false
set_option linter.unusedSectionVars false
open Go.RowKit
section
variable {P : Program} {ops : Array Oper} {Q : Exit → Act → World → Prop} {D : Option DD} {E : Base} {n L : Nat} {τ : List (Nat × AV)} {h : List (Nat × AO)} {F : World → Prop} {rest : List Oper}
  {d : Nat} {ty : TypeId} {ps : String} {af : Array Edge} {gd : Option (Nat × Bool)} {tt : List (Nat × TI)}
theorem R.ixa (htt : TTok P tt) {t e : TypeId} {x y : Operand} {l w i c m : Nat} {k0 : IntKind} {j : Int} {sz bt w0 : Nat} {z : List Value} (jn : Nat) (hx : evA τ x = some (.ptr l w i c)) (hy : evA τ y = some (.raw (.int k0 j))) (ht : lk t tt = some ⟨sz, bt, .arr m e, z⟩) (hs : szA tt e = some w0)
    (hg : wantA ops ⟨some d, .indexAddr t x y, ty, ps, af, gd⟩ τ = some true) (hb : (Nat.ble (d + 1) n && lookB D [] && Nat.ble (l + 1) L) = true) (hj : j = (jn : Int)) (hlt : jn < m)
    (k : R P ops Q (lookD D []) E n L ((d, .ptr l w i (c + jn * w0)) :: τ) h F rest) : R P ops Q D E n L τ h F (⟨some d, .indexAddr t x y, ty, ps, af, gd⟩ :: rest) := by
  rw [Bool.and_eq_true] at hb
  exact R.pure _ (fun ρ a w' g => by
    have hlL' : l + 1 ≤ L := by have := hb.2; simpa [Nat.ble_eq] using this
    refine ⟨fun ρ' he => by simp [AV.conc, he l (by omega)], fun W => ?_⟩
    have hu := und_arr (htt _ _ ht) rfl W
    obtain ⟨te, hte, hsz⟩ := Option.map_eq_some_iff.1 hs
    have hse := (htt _ _ hte).run_size W
    subst hj
    rw [hsz] at hse
    have h1 : (0 : Int) ≤ (jn : Int) ∧ (jn : Int) < (m : Int) := by omega
    simp only [execOp, (g.eval x _ hx).2, (g.eval y _ hy).2, AV.conc]
    simp [Instr.indexAt, asIntOf, Instr.sureAddr, hu, hlt, hse, Addr.add, Nat.add_assoc]) hg hb.1 k
end
end Go.Proofs.Yteabncomclgncaa
namespace Go.Proofs.Yteabncomclgncaa
set_option linter.unusedVariables false
set_option linter.unusedSimpArgs false
set_option linter.unusedSectionVars false
open Go.RowKit
theorem operW {P : Program} {o : Oper} {a : Act} {w : World} {next next' : Act → World → Prop} {Q Q' : Exit → Act → World → Prop} (hd : ∀ c, o.op ≠ .defer c) (hn : ∀ a w, next a w → next' a w) (hp : ∀ ch a w, Q (.panic ch) a w → Q' (.panic ch) a w) (hl : LetsOut Q → LetsOut Q') (h : o.wp P a w next Q) : o.wpIn Fence.wide 0 P a w next' Q' := by
  refine ⟨fun _ _ => trivial, ?_⟩
  rw [Oper.semAt_eq _ _ _ hd]
  unfold Oper.wp at h
  generalize (execOp a.eval o).run P w = r at h
  cases r with
  | ok x w' =>
    cases x <;> simp only [Oper.upon] at h <;> simp only [Oper.uponIn]
    case value v => exact hn _ _ h
    case skip => exact hn _ _ h
    case defer d => exact hn _ _ h
    case enter f args =>
      refine ⟨fun e => (by cases e), (callsIn_wide (n := 0)).2 (h.mono fun e w'' hq => ?_)⟩
      cases e with
      | returned v => exact hn _ _ hq
      | panicked ch => exact hp _ _ _ hq
      | outgrown => exact hl hq
    case row rw args =>
      refine ⟨fun e => (by cases e), fun c cs _ => ?_⟩
      obtain ⟨v, w'', h1, h2⟩ := h c cs
      exact ⟨v, w'', hn _ _ h1, stepsIn_wide.2 h2⟩
  | halt x w' => cases x <;> first | exact hp _ _ _ h | exact h.elim
/-- what is left of a region in which yield is called -/
structure RY (P : Program) (ops : Array Oper) (Q : Exit → Act → World → Prop) (E : Base) (n L : Nat) (τ : List (Nat × AV)) (h : List (Nat × AO)) (F : World → Prop) (rest : List Oper) : Prop where
  mk :: (out : ∀ ρ a w, Gam E ρ n L τ h F a w → wpListIn Fence.wide 0 P ops Q rest a w)
section
variable {P : Program} {ops : Array Oper} {Q : Exit → Act → World → Prop} {E : Base} {n L : Nat} {τ : List (Nat × AV)} {h : List (Nat × AO)} {F : World → Prop} {rest : List Oper}
theorem C.regionY {id : Nat} {l : List Oper} (k : RY P l.toArray Q E n L τ h F l) : C P (.region id l.toArray false) Q E n L τ h F := ⟨fun ρ a w g => (wpIn_wide (n := 0)).1 (wpIn_region_lit (k.out ρ a w g))⟩
theorem RY.done (k : X Q .normal E n L τ h F) : RY P ops Q E n L τ h F [] := ⟨fun ρ a w g => k.out ρ a w g⟩
theorem X.ry (k : RY P ops Q E n L τ h F rest) : X (Exit.then (wpListIn Fence.wide 0 P ops Q rest) Q) .normal E n L τ h F := ⟨fun ρ a w g => k.out ρ a w g⟩
theorem RY.one {o : Oper} (k : R P ops (Exit.then (wpListIn Fence.wide 0 P ops Q rest) Q) none E n L τ h F [o]) (hd : noDefer [o] = true := by kernel_rfl) (hQ : ¬ LetsOut Q := by first | assumption | (rintro ⟨_, _, ⟨_, h⟩, _⟩; cases h)) : RY P ops Q E n L τ h F (o :: rest) := ⟨fun ρ a w g => by
  have h := k.out ρ a w g
  have hd' := noDefer_get hd o List.mem_cons_self
  have h : wpList P ops (Exit.then (wpListIn Fence.wide 0 P ops Q rest) Q) [o] a w := h
  simp only [wpList] at h
  simp only [wpListIn]
  by_cases hw : Region.wanted o (yielded ops a.tmps) = true
  · rw [if_pos hw] at h ⊢
    rcases h with h | h
    · exact operW hd' (fun _ _ h => h) (fun _ _ _ h => h) (fun h => h) h
    · exact absurd h.2 hQ
  · rw [if_neg hw] at h ⊢
    exact ⟨fun _ _ => trivial, h⟩⟩
variable {d : Nat} {ty : TypeId} {ps : String} {af : Array Edge} {gd : Option (Nat × Bool)}
theorem RY.yield {lY : Nat} {x : Operand} {xs : Array Operand} {ats : Array TypeId} {vs : List AV} (hx : evA τ x = some (.raw (.func (.yield lY) #[] #[]))) (hxs : evList (evA τ) xs.toList = some vs) (hg : wantA ops ⟨some d, .call { callee := .value x, args := xs, argTypes := ats }, ty, ps, af, gd⟩ τ = some true)
    (hy : ∀ ρ a w, Gam E ρ n L τ h F a w → YieldAt Fence.wide 0 P lY (AV.concs ρ vs).toArray w fun e w' => ∃ v, e = .returned v ∧ wpListIn Fence.wide 0 P ops Q rest (a.put (some d) v) w') :
    RY P ops Q E n L τ h F (⟨some d, .call { callee := .value x, args := xs, argTypes := ats }, ty, ps, af, gd⟩ :: rest) := ⟨fun ρ a w g => by
  simp only [wpListIn]
  rw [if_pos (g.want hg)]
  refine ⟨fun _ _ => trivial, ?_⟩
  rw [Oper.semAt_eq _ _ _ (by intro c e; cases e)]
  obtain ⟨fn, tmps, assign, body, h1, h2⟩ := hy ρ a w g
  have hargs : xs.map a.eval = (AV.concs ρ vs).toArray := by
    have := evList_conc (evB g) _ _ hxs
    apply Array.ext'
    rw [Array.toList_map, this]
  have e : (execOp a.eval ⟨some d, .call { callee := .value x, args := xs, argTypes := ats }, ty, ps, af, gd⟩).run P w = .ok (.round lY fn tmps assign body) w := by
    unfold execOp
    simp only [resolve, (g.eval x _ hx).2, AV.conc, Deferred.ofValue, hargs, Sem.run_bind, Sem.run_pure, Result.andThen_ok, invoke, Array.append_empty, Array.empty_append]
    exact h1
  rw [e]
  refine ⟨fun e => (by cases e), RoundIn.mono h2 ?_⟩
  rintro e' w' ⟨v, rfl, hv⟩
  exact hv⟩
end
theorem YieldAt.mono {F : Fence} {m : Nat} {P : Program} {l : Nat} {args : Array Value} {W : World} {R R' : Ending → World → Prop} (h : YieldAt F m P l args W R) (hr : ∀ e w, R e w → R' e w) : YieldAt F m P l args W R' := by
  obtain ⟨fn, tmps, assign, body, h1, h2⟩ := h
  exact ⟨fn, tmps, assign, body, h1, RoundIn.mono h2 hr⟩
end Go.Proofs.Yteabncomclgncaa
namespace Go.Proofs.Yteabncomclgncaa
set_option linter.unusedVariables false
set_option linter.unusedSimpArgs false
set_option linter.unusedSectionVars false
open Go.RowKit
section
variable {E : Base} {ρ : Env} {n L : Nat} {τ : List (Nat × AV)} {h : List (Nat × AO)} {F : World → Prop} {a : Act} {w : World}
theorem gam_ro (hdf : a.defers = E.df) (hsz : a.tmps.size = n) (htm : ∀ t v, lk t τ = some v → v.bd L = true ∧ a.tmps[t]? = some (v.conc ρ)) (hro : (h.all fun p => p.2.isRo) = true) (hp : ∀ l o, hk l h = some o → l < L ∧ o.Bd L ∧ o.holds ρ (ρ l) w) (hF : ∀ w', Below w.heap.size w w' → F w') (hex : ∀ l, l < E.N → ρ l = E.ρ l) (hle : E.N ≤ L)
    (hal : ∀ l b, l < L → ρ l = some b → b < w.heap.size) : Gam E ρ n L τ h F a w := by
  have hw : ∀ l, ¬ wrA l h := fun l ⟨o, h1, h2⟩ => by
    have := List.all_eq_true.1 hro _ (lk_mem (hk_lk h1))
    simp only at this
    rw [this] at h2; cases h2
  exact ⟨hdf, hsz, fun t v hv => ⟨bdLow (htm t v hv).1 _, (htm t v hv).2⟩, fun l o hl => ⟨(hp l o hl).1, (hp l o hl).2.1.low _, (hp l o hl).2.2⟩, fun l l' b h1 => absurd h1 (hw l), fun w' hw' => hF w' (hw'.mono (D' := fun b => b < w.heap.size) (fun b _ _ l hl => absurd hl (hw l)) |>.below (Nat.le_refl _)), hex, hle, hal⟩
/-- where a label that may be written lies -/
theorem Gam.newB {W1 : World} (g : Gam E ρ n L τ h (fun w' => Below W1.heap.size W1 w') a w) {l b : Nat} (hl : wrA l h) (hb : ρ l = some b) : W1.heap.size ≤ b := by
  refine Nat.le_of_not_lt fun hlt => ?_
  have hw := g.lt hl.live hb
  have key : ∀ o : Obj, W1.heap[b]? = some o := fun o => by
    have h2 := (g.fr (putB w b o) (putB_ag w b o _ fun hd => hd l hl hb)).block b hlt
    rw [← h2, putB_same w o hw]
  have h4 := key (.cells #[] 0 (0, 0))
  have h5 := key (.cells #[] 0 (0, 1))
  rw [h4] at h5
  simp at h5
end
/-- here: the world of now is named -/
theorem C.here {P : Program} {c : Code} {Q : Exit → Act → World → Prop} {E : Base} {n L : Nat} {τ : List (Nat × AV)} {h : List (Nat × AO)} {F : World → Prop} (hro : (h.all fun p => p.2.isRo) = true) (k : ∀ W1, F W1 → C P c Q E n L τ h (fun w' => Below W1.heap.size W1 w')) : C P c Q E n L τ h F := ⟨fun ρ a w g => by
  have hw : ∀ l, ¬ wrA l h := fun l ⟨o, h1, h2⟩ => by
    have := List.all_eq_true.1 hro _ (lk_mem (hk_lk h1))
    simp only at this
    rw [this] at h2; cases h2
  exact (k w (g.fr w (Ag.refl _ _))).out ρ a w (g.strong fun w' hw' => (hw'.mono (D' := fun b => b < w.heap.size) (fun b _ _ l hl => absurd hl (hw l))).below (Nat.le_refl _))⟩
end Go.Proofs.Yteabncomclgncaa
