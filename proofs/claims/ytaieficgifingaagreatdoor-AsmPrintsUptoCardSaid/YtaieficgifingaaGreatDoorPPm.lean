/- Texts of the claim, merged: only what the theorem needs. -/
import Derived.Test.YtaieficgifingaaGreatDoorPPl
import Derived.Test.YtaieficgifingaaGreatDoorProg
set_option maxRecDepth 100000
namespace Go.Proofs.YtaieficgifingaaGreatDoor
def tt : List (Nat × TI) := [(1, ⟨1, 8, .fnc, [.nilFunc]⟩),
  (2, ⟨1, 8, (.int .i64), [.int .i64 0]⟩),
  (3, ⟨1, 8, (.int .i64), [.int .i64 0]⟩),
  (4, ⟨1, 1, .bool, [.bool false]⟩),
  (5, ⟨1, 1, (.int .u8), [.int .u8 0]⟩),
  (6, ⟨1, 1, (.int .u8), [.int .u8 0]⟩),
  (7, ⟨4, 24, (.st [(0, 2), (1, 3), (2, 4), (3, 6)]), [.int .i64 0, .int .i64 0, .bool false, .int .u8 0]⟩),
  (8, ⟨4, 24, (.st [(0, 2), (1, 3), (2, 4), (3, 6)]), [.int .i64 0, .int .i64 0, .bool false, .int .u8 0]⟩),
  (9, ⟨1, 16, .str, [.string ⟨#[]⟩]⟩),
  (10, ⟨1, 16, .str, [.string ⟨#[]⟩]⟩),
  (11, ⟨1, 16, .str, [.string ⟨#[]⟩]⟩),
  (12, ⟨1, 8, (.int .u64), [.int .u64 0]⟩),
  (13, ⟨2, 24, (.st [(0, 9), (1, 12)]), [.string ⟨#[]⟩, .int .u64 0]⟩),
  (14, ⟨2, 24, (.st [(0, 9), (1, 12)]), [.string ⟨#[]⟩, .int .u64 0]⟩),
  (15, ⟨1, 8, (.ptr 201), [.pointer none]⟩),
  (16, ⟨1, 8, (.ptr 204), [.pointer none]⟩),
  (17, ⟨1, 8, (.ptr 212), [.pointer none]⟩),
  (18, ⟨1, 8, (.st [(0, 17)]), [.pointer none]⟩),
  (19, ⟨1, 8, (.st [(0, 17)]), [.pointer none]⟩),
  (20, ⟨1, 16, .oth, [.nilIface]⟩),
  (21, ⟨1, 4, (.int .i32), [.int .i32 0]⟩),
  (22, ⟨1, 8, .fnc, [.nilFunc]⟩),
  (23, ⟨1, 24, (.sl 42), [.slice none 0 0]⟩),
  (24, ⟨3, 48, (.st [(0, 9), (1, 3), (2, 23)]), [.string ⟨#[]⟩, .int .i64 0, .slice none 0 0]⟩),
  (25, ⟨3, 48, (.st [(0, 9), (1, 3), (2, 23)]), [.string ⟨#[]⟩, .int .i64 0, .slice none 0 0]⟩),
  (26, ⟨1, 8, (.int .i64), [.int .i64 0]⟩),
  (28, ⟨1, 8, .fnc, [.nilFunc]⟩),
  (30, ⟨1, 8, .fnc, [.nilFunc]⟩),
  (31, ⟨1, 8, .fnc, [.nilFunc]⟩),
  (32, ⟨1, 8, .fnc, [.nilFunc]⟩),
  (33, ⟨1, 8, .fnc, [.nilFunc]⟩),
  (34, ⟨1, 8, .fnc, [.nilFunc]⟩),
  (36, ⟨1, 8, .fnc, [.nilFunc]⟩),
  (38, ⟨1, 8, .fnc, [.nilFunc]⟩),
  (39, ⟨3, 32, (.st [(0, 3), (1, 2), (2, 9)]), [.int .i64 0, .int .i64 0, .string ⟨#[]⟩]⟩),
  (40, ⟨3, 32, (.st [(0, 3), (1, 2), (2, 9)]), [.int .i64 0, .int .i64 0, .string ⟨#[]⟩]⟩),
  (41, ⟨8, 72, (.st [(0, 3), (1, 3), (2, 3), (3, 3), (4, 3), (5, 40)]), [.int .i64 0, .int .i64 0, .int .i64 0, .int .i64 0, .int .i64 0, .int .i64 0, .int .i64 0, .string ⟨#[]⟩]⟩),
  (42, ⟨8, 72, (.st [(0, 3), (1, 3), (2, 3), (3, 3), (4, 3), (5, 40)]), [.int .i64 0, .int .i64 0, .int .i64 0, .int .i64 0, .int .i64 0, .int .i64 0, .int .i64 0, .string ⟨#[]⟩]⟩),
  (44, ⟨1, 8, .fnc, [.nilFunc]⟩),
  (45, ⟨1, 8, .fnc, [.nilFunc]⟩),
  (46, ⟨1, 24, (.sl 105), [.slice none 0 0]⟩),
  (47, ⟨1, 8, .fnc, [.nilFunc]⟩),
  (48, ⟨1, 8, .fnc, [.nilFunc]⟩),
  (49, ⟨2, 16, (.st [(0, 3), (1, 26)]), [.int .i64 0, .int .i64 0]⟩),
  (50, ⟨2, 16, (.st [(0, 3), (1, 26)]), [.int .i64 0, .int .i64 0]⟩),
  (51, ⟨1, 24, (.sl 90), [.slice none 0 0]⟩),
  (52, ⟨1, 8, .fnc, [.nilFunc]⟩),
  (53, ⟨1, 24, (.sl 3), [.slice none 0 0]⟩),
  (54, ⟨1, 8, .fnc, [.nilFunc]⟩),
  (55, ⟨1, 8, .fnc, [.nilFunc]⟩),
  (56, ⟨1, 8, .fnc, [.nilFunc]⟩),
  (57, ⟨1, 24, (.sl 62), [.slice none 0 0]⟩),
  (59, ⟨1, 8, .fnc, [.nilFunc]⟩),
  (60, ⟨1, 8, .fnc, [.nilFunc]⟩),
  (61, ⟨2, 24, (.st [(0, 9), (1, 4)]), [.string ⟨#[]⟩, .bool false]⟩),
  (62, ⟨2, 24, (.st [(0, 9), (1, 4)]), [.string ⟨#[]⟩, .bool false]⟩),
  (64, ⟨1, 8, .fnc, [.nilFunc]⟩),
  (65, ⟨1, 8, .fnc, [.nilFunc]⟩),
  (67, ⟨1, 8, .fnc, [.nilFunc]⟩),
  (68, ⟨1, 24, (.sl 9), [.slice none 0 0]⟩),
  (69, ⟨1, 8, .fnc, [.nilFunc]⟩),
  (70, ⟨1, 24, (.sl 74), [.slice none 0 0]⟩),
  (72, ⟨1, 8, .fnc, [.nilFunc]⟩),
  (73, ⟨2, 24, (.st [(0, 4), (1, 9)]), [.bool false, .string ⟨#[]⟩]⟩),
  (74, ⟨2, 24, (.st [(0, 4), (1, 9)]), [.bool false, .string ⟨#[]⟩]⟩),
  (75, ⟨1, 8, .fnc, [.nilFunc]⟩),
  (76, ⟨1, 8, .fnc, [.nilFunc]⟩),
  (78, ⟨1, 8, .fnc, [.nilFunc]⟩),
  (79, ⟨1, 8, (.ptr 82), [.pointer none]⟩),
  (80, ⟨1, 24, (.sl 5), [.slice none 0 0]⟩),
  (81, ⟨2, 32, (.st [(0, 79), (1, 80)]), [.pointer none, .slice none 0 0]⟩),
  (82, ⟨2, 32, (.st [(0, 79), (1, 80)]), [.pointer none, .slice none 0 0]⟩),
  (83, ⟨1, 16, .oth, [.nilIface]⟩),
  (84, ⟨1, 16, .oth, [.nilIface]⟩),
  (86, ⟨1, 8, .fnc, [.nilFunc]⟩),
  (87, ⟨1, 8, .fnc, [.nilFunc]⟩),
  (88, ⟨1, 24, (.sl 94), [.slice none 0 0]⟩),
  (89, ⟨3, 48, (.st [(0, 9), (1, 3), (2, 88)]), [.string ⟨#[]⟩, .int .i64 0, .slice none 0 0]⟩),
  (90, ⟨3, 48, (.st [(0, 9), (1, 3), (2, 88)]), [.string ⟨#[]⟩, .int .i64 0, .slice none 0 0]⟩),
  (91, ⟨1, 8, .fnc, [.nilFunc]⟩),
  (92, ⟨1, 8, .fnc, [.nilFunc]⟩),
  (93, ⟨2, 16, (.st [(0, 91), (1, 92)]), [.nilFunc, .nilFunc]⟩),
  (94, ⟨2, 16, (.st [(0, 91), (1, 92)]), [.nilFunc, .nilFunc]⟩),
  (95, ⟨1, 8, .fnc, [.nilFunc]⟩),
  (96, ⟨1, 24, (.sl 132), [.slice none 0 0]⟩),
  (97, ⟨2, 32, (.st [(0, 96), (1, 4)]), [.slice none 0 0, .bool false]⟩),
  (98, ⟨2, 32, (.st [(0, 96), (1, 4)]), [.slice none 0 0, .bool false]⟩),
  (99, ⟨34, 544, (.arr 17 98), [.slice none 0 0, .bool false, .slice none 0 0, .bool false, .slice none 0 0, .bool false, .slice none 0 0, .bool false, .slice none 0 0, .bool false, .slice none 0 0, .bool false, .slice none 0 0, .bool false, .slice none 0 0, .bool false, .slice none 0 0, .bool false, .slice none 0 0, .bool false, .slice none 0 0, .bool false, .slice none 0 0, .bool false, .slice none 0 0, .bool false, .slice none 0 0, .bool false, .slice none 0 0, .bool false, .slice none 0 0, .bool false, .slice none 0 0, .bool false]⟩),
  (100, ⟨1, 8, .fnc, [.nilFunc]⟩),
  (101, ⟨1, 8, .fnc, [.nilFunc]⟩),
  (102, ⟨1, 8, (.ptr 99), [.pointer none]⟩),
  (103, ⟨1, 8, (.ptr 25), [.pointer none]⟩),
  (104, ⟨4, 32, (.st [(0, 3), (1, 3), (2, 3), (3, 3)]), [.int .i64 0, .int .i64 0, .int .i64 0, .int .i64 0]⟩),
  (105, ⟨4, 32, (.st [(0, 3), (1, 3), (2, 3), (3, 3)]), [.int .i64 0, .int .i64 0, .int .i64 0, .int .i64 0]⟩),
  (106, ⟨1, 8, .fnc, [.nilFunc]⟩),
  (107, ⟨1, 8, .fnc, [.nilFunc]⟩),
  (108, ⟨1, 8, (.ptr 42), [.pointer none]⟩),
  (109, ⟨1, 8, (.ptr 3), [.pointer none]⟩),
  (110, ⟨1, 8, .fnc, [.nilFunc]⟩),
  (111, ⟨1, 8, .fnc, [.nilFunc]⟩),
  (113, ⟨1, 8, .fnc, [.nilFunc]⟩),
  (114, ⟨1, 8, .fnc, [.nilFunc]⟩),
  (115, ⟨1, 8, .fnc, [.nilFunc]⟩),
  (117, ⟨1, 8, .fnc, [.nilFunc]⟩),
  (118, ⟨1, 8, .fnc, [.nilFunc]⟩),
  (119, ⟨1, 8, .fnc, [.nilFunc]⟩),
  (120, ⟨1, 8, .fnc, [.nilFunc]⟩),
  (121, ⟨1, 8, .fnc, [.nilFunc]⟩),
  (122, ⟨1, 8, .fnc, [.nilFunc]⟩),
  (123, ⟨1, 8, .fnc, [.nilFunc]⟩),
  (124, ⟨1, 8, .fnc, [.nilFunc]⟩),
  (125, ⟨1, 8, .fnc, [.nilFunc]⟩),
  (126, ⟨1, 8, (.ptr 5), [.pointer none]⟩),
  (127, ⟨1, 8, .fnc, [.nilFunc]⟩),
  (128, ⟨1, 8, .fnc, [.nilFunc]⟩),
  (129, ⟨1, 8, .fnc, [.nilFunc]⟩),
  (130, ⟨1, 8, .fnc, [.nilFunc]⟩),
  (131, ⟨3, 24, (.st [(0, 110), (1, 130), (2, 4)]), [.nilFunc, .nilFunc, .bool false]⟩),
  (132, ⟨3, 24, (.st [(0, 110), (1, 130), (2, 4)]), [.nilFunc, .nilFunc, .bool false]⟩),
  (133, ⟨1, 8, .fnc, [.nilFunc]⟩),
  (135, ⟨1, 8, .fnc, [.nilFunc]⟩),
  (137, ⟨1, 8, .fnc, [.nilFunc]⟩),
  (138, ⟨1, 8, (.int .u64), [.int .u64 0]⟩),
  (139, ⟨1, 8, .fnc, [.nilFunc]⟩),
  (143, ⟨1, 8, .fnc, [.nilFunc]⟩),
  (144, ⟨1, 8, .fnc, [.nilFunc]⟩),
  (145, ⟨1, 8, (.ptr 141), [.pointer none]⟩),
  (146, ⟨1, 8, .fnc, [.nilFunc]⟩),
  (148, ⟨1, 8, .fnc, [.nilFunc]⟩),
  (149, ⟨1, 8, .fnc, [.nilFunc]⟩),
  (150, ⟨1, 8, .fnc, [.nilFunc]⟩),
  (151, ⟨1, 8, .fnc, [.nilFunc]⟩),
  (152, ⟨1, 8, .fnc, [.nilFunc]⟩),
  (154, ⟨1, 8, .fnc, [.nilFunc]⟩),
  (155, ⟨1, 8, .fnc, [.nilFunc]⟩),
  (156, ⟨1, 8, .fnc, [.nilFunc]⟩),
  (157, ⟨1, 8, .fnc, [.nilFunc]⟩),
  (158, ⟨1, 8, .fnc, [.nilFunc]⟩),
  (159, ⟨1, 8, .oth, [.pointer none]⟩),
  (160, ⟨1, 8, .fnc, [.nilFunc]⟩),
  (161, ⟨24, 24, (.arr 24 5), [.int .u8 0, .int .u8 0, .int .u8 0, .int .u8 0, .int .u8 0, .int .u8 0, .int .u8 0, .int .u8 0, .int .u8 0, .int .u8 0, .int .u8 0, .int .u8 0, .int .u8 0, .int .u8 0, .int .u8 0, .int .u8 0, .int .u8 0, .int .u8 0, .int .u8 0, .int .u8 0, .int .u8 0, .int .u8 0, .int .u8 0, .int .u8 0]⟩),
  (162, ⟨1, 8, (.int .u64), [.int .u64 0]⟩),
  (163, ⟨1, 8, .fnc, [.nilFunc]⟩),
  (164, ⟨1, 8, .fnc, [.nilFunc]⟩),
  (166, ⟨1, 8, .fnc, [.nilFunc]⟩),
  (168, ⟨1, 8, .fnc, [.nilFunc]⟩),
  (169, ⟨1, 8, .fnc, [.nilFunc]⟩),
  (170, ⟨1, 8, .fnc, [.nilFunc]⟩),
  (171, ⟨1, 8, .fnc, [.nilFunc]⟩),
  (172, ⟨1, 8, (.int .i64), [.int .i64 0]⟩),
  (173, ⟨1, 8, (.ptr 185), [.pointer none]⟩),
  (174, ⟨1, 8, .fnc, [.nilFunc]⟩),
  (175, ⟨1, 8, .fnc, [.nilFunc]⟩),
  (176, ⟨1, 8, .fnc, [.nilFunc]⟩),
  (178, ⟨1, 8, .fnc, [.nilFunc]⟩),
  (179, ⟨1, 8, .fnc, [.nilFunc]⟩),
  (180, ⟨20, 160, (.arr 20 162), [.int .u64 0, .int .u64 0, .int .u64 0, .int .u64 0, .int .u64 0, .int .u64 0, .int .u64 0, .int .u64 0, .int .u64 0, .int .u64 0, .int .u64 0, .int .u64 0, .int .u64 0, .int .u64 0, .int .u64 0, .int .u64 0, .int .u64 0, .int .u64 0, .int .u64 0, .int .u64 0]⟩),
  (181, ⟨1, 4, (.int .u32), [.int .u32 0]⟩),
  (183, ⟨1, 8, .fnc, [.nilFunc]⟩),
  (184, ⟨3, 48, (.st [(0, 9), (1, 9), (2, 84)]), [.string ⟨#[]⟩, .string ⟨#[]⟩, .nilIface]⟩),
  (185, ⟨3, 48, (.st [(0, 9), (1, 9), (2, 84)]), [.string ⟨#[]⟩, .string ⟨#[]⟩, .nilIface]⟩),
  (186, ⟨1, 8, .fnc, [.nilFunc]⟩),
  (187, ⟨1, 8, .fnc, [.nilFunc]⟩),
  (188, ⟨1, 8, .fnc, [.nilFunc]⟩),
  (190, ⟨1, 8, .fnc, [.nilFunc]⟩),
  (192, ⟨2, 2, (.st [(0, 5), (1, 5)]), [.int .u8 0, .int .u8 0]⟩),
  (193, ⟨2, 2, (.st [(0, 5), (1, 5)]), [.int .u8 0, .int .u8 0]⟩),
  (194, ⟨32, 32, (.arr 16 193), [.int .u8 0, .int .u8 0, .int .u8 0, .int .u8 0, .int .u8 0, .int .u8 0, .int .u8 0, .int .u8 0, .int .u8 0, .int .u8 0, .int .u8 0, .int .u8 0, .int .u8 0, .int .u8 0, .int .u8 0, .int .u8 0, .int .u8 0, .int .u8 0, .int .u8 0, .int .u8 0, .int .u8 0, .int .u8 0, .int .u8 0, .int .u8 0, .int .u8 0, .int .u8 0, .int .u8 0, .int .u8 0, .int .u8 0, .int .u8 0, .int .u8 0, .int .u8 0]⟩),
  (195, ⟨1, 8, (.ptr 197), [.pointer none]⟩),
  (196, ⟨1, 16, (.st [(0, 9)]), [.string ⟨#[]⟩]⟩),
  (197, ⟨1, 16, (.st [(0, 9)]), [.string ⟨#[]⟩]⟩),
  (198, ⟨32, 32, (.arr 32 5), [.int .u8 0, .int .u8 0, .int .u8 0, .int .u8 0, .int .u8 0, .int .u8 0, .int .u8 0, .int .u8 0, .int .u8 0, .int .u8 0, .int .u8 0, .int .u8 0, .int .u8 0, .int .u8 0, .int .u8 0, .int .u8 0, .int .u8 0, .int .u8 0, .int .u8 0, .int .u8 0, .int .u8 0, .int .u8 0, .int .u8 0, .int .u8 0, .int .u8 0, .int .u8 0, .int .u8 0, .int .u8 0, .int .u8 0, .int .u8 0, .int .u8 0, .int .u8 0]⟩),
  (199, ⟨64, 64, (.arr 64 5), [.int .u8 0, .int .u8 0, .int .u8 0, .int .u8 0, .int .u8 0, .int .u8 0, .int .u8 0, .int .u8 0, .int .u8 0, .int .u8 0, .int .u8 0, .int .u8 0, .int .u8 0, .int .u8 0, .int .u8 0, .int .u8 0, .int .u8 0, .int .u8 0, .int .u8 0, .int .u8 0, .int .u8 0, .int .u8 0, .int .u8 0, .int .u8 0, .int .u8 0, .int .u8 0, .int .u8 0, .int .u8 0, .int .u8 0, .int .u8 0, .int .u8 0, .int .u8 0, .int .u8 0, .int .u8 0, .int .u8 0, .int .u8 0, .int .u8 0, .int .u8 0, .int .u8 0, .int .u8 0, .int .u8 0, .int .u8 0, .int .u8 0, .int .u8 0, .int .u8 0, .int .u8 0, .int .u8 0, .int .u8 0, .int .u8 0, .int .u8 0, .int .u8 0, .int .u8 0, .int .u8 0, .int .u8 0, .int .u8 0, .int .u8 0, .int .u8 0, .int .u8 0, .int .u8 0, .int .u8 0, .int .u8 0, .int .u8 0, .int .u8 0, .int .u8 0]⟩),
  (200, ⟨4, 40, (.st [(0, 17), (1, 17), (2, 17), (3, 9)]), [.pointer none, .pointer none, .pointer none, .string ⟨#[]⟩]⟩),
  (201, ⟨4, 40, (.st [(0, 17), (1, 17), (2, 17), (3, 9)]), [.pointer none, .pointer none, .pointer none, .string ⟨#[]⟩]⟩),
  (202, ⟨0, 0, (.arr 0 16), []⟩),
  (203, ⟨0, 0, (.st [(0, 202)]), []⟩),
  (204, ⟨0, 0, (.st [(0, 202)]), []⟩),
  (205, ⟨1, 8, .fnc, [.nilFunc]⟩),
  (206, ⟨1, 1, (.int .u8), [.int .u8 0]⟩),
  (207, ⟨1, 1, (.int .u8), [.int .u8 0]⟩),
  (208, ⟨1, 8, .fnc, [.nilFunc]⟩),
  (209, ⟨1, 4, (.int .i32), [.int .i32 0]⟩),
  (210, ⟨1, 4, (.int .i32), [.int .i32 0]⟩),
  (211, ⟨11, 48, (.st [(0, 12), (1, 12), (2, 181), (3, 206), (4, 5), (5, 5), (6, 207), (7, 208), (8, 126), (9, 209), (10, 210)]), [.int .u64 0, .int .u64 0, .int .u32 0, .int .u8 0, .int .u8 0, .int .u8 0, .int .u8 0, .nilFunc, .pointer none, .int .i32 0, .int .i32 0]⟩),
  (212, ⟨11, 48, (.st [(0, 12), (1, 12), (2, 181), (3, 206), (4, 5), (5, 5), (6, 207), (7, 208), (8, 126), (9, 209), (10, 210)]), [.int .u64 0, .int .u64 0, .int .u32 0, .int .u8 0, .int .u8 0, .int .u8 0, .int .u8 0, .nilFunc, .pointer none, .int .i32 0, .int .i32 0]⟩)]
theorem tt_1 : TIok Tryz.prog 1 ⟨1, 8, .fnc, [.nilFunc]⟩ := ⟨⟨Tryz.t1, _, rfl, rfl, rfl, rfl, rfl, rfl⟩, ⟨_, rfl, ⟨_, _, _, rfl⟩⟩⟩
theorem tt_2 : TIok Tryz.prog 2 ⟨1, 8, (.int .i64), [.int .i64 0]⟩ := ⟨⟨Tryz.t2, _, rfl, rfl, rfl, rfl, rfl, rfl⟩, ⟨_, rfl, rfl⟩⟩
theorem tt_3 : TIok Tryz.prog 3 ⟨1, 8, (.int .i64), [.int .i64 0]⟩ := ⟨⟨Tryz.t3, _, rfl, rfl, rfl, rfl, rfl, rfl⟩, ⟨_, rfl, rfl⟩⟩
theorem tt_4 : TIok Tryz.prog 4 ⟨1, 1, .bool, [.bool false]⟩ := ⟨⟨Tryz.t4, _, rfl, rfl, rfl, rfl, rfl, rfl⟩, ⟨_, rfl, rfl⟩⟩
theorem tt_5 : TIok Tryz.prog 5 ⟨1, 1, (.int .u8), [.int .u8 0]⟩ := ⟨⟨Tryz.t5, _, rfl, rfl, rfl, rfl, rfl, rfl⟩, ⟨_, rfl, rfl⟩⟩
theorem tt_6 : TIok Tryz.prog 6 ⟨1, 1, (.int .u8), [.int .u8 0]⟩ := ⟨⟨Tryz.t6, _, rfl, rfl, rfl, rfl, rfl, rfl⟩, ⟨_, rfl, rfl⟩⟩
theorem tt_7 : TIok Tryz.prog 7 ⟨4, 24, (.st [(0, 2), (1, 3), (2, 4), (3, 6)]), [.int .i64 0, .int .i64 0, .bool false, .int .u8 0]⟩ := ⟨⟨Tryz.t7, _, rfl, rfl, rfl, rfl, rfl, rfl⟩, ⟨_, rfl, ⟨_, rfl, rfl⟩⟩⟩
theorem tt_8 : TIok Tryz.prog 8 ⟨4, 24, (.st [(0, 2), (1, 3), (2, 4), (3, 6)]), [.int .i64 0, .int .i64 0, .bool false, .int .u8 0]⟩ := ⟨⟨Tryz.t8, _, rfl, rfl, rfl, rfl, rfl, rfl⟩, ⟨_, rfl, ⟨_, rfl, rfl⟩⟩⟩
theorem tt_9 : TIok Tryz.prog 9 ⟨1, 16, .str, [.string ⟨#[]⟩]⟩ := ⟨⟨Tryz.t9, _, rfl, rfl, rfl, rfl, rfl, rfl⟩, ⟨_, rfl, rfl⟩⟩
theorem tt_10 : TIok Tryz.prog 10 ⟨1, 16, .str, [.string ⟨#[]⟩]⟩ := ⟨⟨Tryz.t10, _, rfl, rfl, rfl, rfl, rfl, rfl⟩, ⟨_, rfl, rfl⟩⟩
theorem tt_11 : TIok Tryz.prog 11 ⟨1, 16, .str, [.string ⟨#[]⟩]⟩ := ⟨⟨Tryz.t11, _, rfl, rfl, rfl, rfl, rfl, rfl⟩, ⟨_, rfl, rfl⟩⟩
theorem tt_12 : TIok Tryz.prog 12 ⟨1, 8, (.int .u64), [.int .u64 0]⟩ := ⟨⟨Tryz.t12, _, rfl, rfl, rfl, rfl, rfl, rfl⟩, ⟨_, rfl, rfl⟩⟩
theorem tt_13 : TIok Tryz.prog 13 ⟨2, 24, (.st [(0, 9), (1, 12)]), [.string ⟨#[]⟩, .int .u64 0]⟩ := ⟨⟨Tryz.t13, _, rfl, rfl, rfl, rfl, rfl, rfl⟩, ⟨_, rfl, ⟨_, rfl, rfl⟩⟩⟩
theorem tt_14 : TIok Tryz.prog 14 ⟨2, 24, (.st [(0, 9), (1, 12)]), [.string ⟨#[]⟩, .int .u64 0]⟩ := ⟨⟨Tryz.t14, _, rfl, rfl, rfl, rfl, rfl, rfl⟩, ⟨_, rfl, ⟨_, rfl, rfl⟩⟩⟩
theorem tt_15 : TIok Tryz.prog 15 ⟨1, 8, (.ptr 201), [.pointer none]⟩ := ⟨⟨Tryz.t15, _, rfl, rfl, rfl, rfl, rfl, rfl⟩, ⟨_, rfl, rfl⟩⟩
theorem tt_16 : TIok Tryz.prog 16 ⟨1, 8, (.ptr 204), [.pointer none]⟩ := ⟨⟨Tryz.t16, _, rfl, rfl, rfl, rfl, rfl, rfl⟩, ⟨_, rfl, rfl⟩⟩
theorem tt_17 : TIok Tryz.prog 17 ⟨1, 8, (.ptr 212), [.pointer none]⟩ := ⟨⟨Tryz.t17, _, rfl, rfl, rfl, rfl, rfl, rfl⟩, ⟨_, rfl, rfl⟩⟩
theorem tt_18 : TIok Tryz.prog 18 ⟨1, 8, (.st [(0, 17)]), [.pointer none]⟩ := ⟨⟨Tryz.t18, _, rfl, rfl, rfl, rfl, rfl, rfl⟩, ⟨_, rfl, ⟨_, rfl, rfl⟩⟩⟩
theorem tt_19 : TIok Tryz.prog 19 ⟨1, 8, (.st [(0, 17)]), [.pointer none]⟩ := ⟨⟨Tryz.t19, _, rfl, rfl, rfl, rfl, rfl, rfl⟩, ⟨_, rfl, ⟨_, rfl, rfl⟩⟩⟩
theorem tt_20 : TIok Tryz.prog 20 ⟨1, 16, .oth, [.nilIface]⟩ := ⟨⟨Tryz.t20, _, rfl, rfl, rfl, rfl, rfl, rfl⟩, ⟨_, rfl, rfl⟩⟩
theorem tt_21 : TIok Tryz.prog 21 ⟨1, 4, (.int .i32), [.int .i32 0]⟩ := ⟨⟨Tryz.t21, _, rfl, rfl, rfl, rfl, rfl, rfl⟩, ⟨_, rfl, rfl⟩⟩
theorem tt_22 : TIok Tryz.prog 22 ⟨1, 8, .fnc, [.nilFunc]⟩ := ⟨⟨Tryz.t22, _, rfl, rfl, rfl, rfl, rfl, rfl⟩, ⟨_, rfl, ⟨_, _, _, rfl⟩⟩⟩
theorem tt_23 : TIok Tryz.prog 23 ⟨1, 24, (.sl 42), [.slice none 0 0]⟩ := ⟨⟨Tryz.t23, _, rfl, rfl, rfl, rfl, rfl, rfl⟩, ⟨_, rfl, rfl⟩⟩
theorem tt_24 : TIok Tryz.prog 24 ⟨3, 48, (.st [(0, 9), (1, 3), (2, 23)]), [.string ⟨#[]⟩, .int .i64 0, .slice none 0 0]⟩ := ⟨⟨Tryz.t24, _, rfl, rfl, rfl, rfl, rfl, rfl⟩, ⟨_, rfl, ⟨_, rfl, rfl⟩⟩⟩
theorem tt_25 : TIok Tryz.prog 25 ⟨3, 48, (.st [(0, 9), (1, 3), (2, 23)]), [.string ⟨#[]⟩, .int .i64 0, .slice none 0 0]⟩ := ⟨⟨Tryz.t25, _, rfl, rfl, rfl, rfl, rfl, rfl⟩, ⟨_, rfl, ⟨_, rfl, rfl⟩⟩⟩
theorem tt_26 : TIok Tryz.prog 26 ⟨1, 8, (.int .i64), [.int .i64 0]⟩ := ⟨⟨Tryz.t26, _, rfl, rfl, rfl, rfl, rfl, rfl⟩, ⟨_, rfl, rfl⟩⟩
theorem tt_28 : TIok Tryz.prog 28 ⟨1, 8, .fnc, [.nilFunc]⟩ := ⟨⟨Tryz.t28, _, rfl, rfl, rfl, rfl, rfl, rfl⟩, ⟨_, rfl, ⟨_, _, _, rfl⟩⟩⟩
theorem tt_30 : TIok Tryz.prog 30 ⟨1, 8, .fnc, [.nilFunc]⟩ := ⟨⟨Tryz.t30, _, rfl, rfl, rfl, rfl, rfl, rfl⟩, ⟨_, rfl, ⟨_, _, _, rfl⟩⟩⟩
theorem tt_31 : TIok Tryz.prog 31 ⟨1, 8, .fnc, [.nilFunc]⟩ := ⟨⟨Tryz.t31, _, rfl, rfl, rfl, rfl, rfl, rfl⟩, ⟨_, rfl, ⟨_, _, _, rfl⟩⟩⟩
theorem tt_32 : TIok Tryz.prog 32 ⟨1, 8, .fnc, [.nilFunc]⟩ := ⟨⟨Tryz.t32, _, rfl, rfl, rfl, rfl, rfl, rfl⟩, ⟨_, rfl, ⟨_, _, _, rfl⟩⟩⟩
theorem tt_33 : TIok Tryz.prog 33 ⟨1, 8, .fnc, [.nilFunc]⟩ := ⟨⟨Tryz.t33, _, rfl, rfl, rfl, rfl, rfl, rfl⟩, ⟨_, rfl, ⟨_, _, _, rfl⟩⟩⟩
theorem tt_34 : TIok Tryz.prog 34 ⟨1, 8, .fnc, [.nilFunc]⟩ := ⟨⟨Tryz.t34, _, rfl, rfl, rfl, rfl, rfl, rfl⟩, ⟨_, rfl, ⟨_, _, _, rfl⟩⟩⟩
theorem tt_36 : TIok Tryz.prog 36 ⟨1, 8, .fnc, [.nilFunc]⟩ := ⟨⟨Tryz.t36, _, rfl, rfl, rfl, rfl, rfl, rfl⟩, ⟨_, rfl, ⟨_, _, _, rfl⟩⟩⟩
theorem tt_38 : TIok Tryz.prog 38 ⟨1, 8, .fnc, [.nilFunc]⟩ := ⟨⟨Tryz.t38, _, rfl, rfl, rfl, rfl, rfl, rfl⟩, ⟨_, rfl, ⟨_, _, _, rfl⟩⟩⟩
theorem tt_39 : TIok Tryz.prog 39 ⟨3, 32, (.st [(0, 3), (1, 2), (2, 9)]), [.int .i64 0, .int .i64 0, .string ⟨#[]⟩]⟩ := ⟨⟨Tryz.t39, _, rfl, rfl, rfl, rfl, rfl, rfl⟩, ⟨_, rfl, ⟨_, rfl, rfl⟩⟩⟩
theorem tt_40 : TIok Tryz.prog 40 ⟨3, 32, (.st [(0, 3), (1, 2), (2, 9)]), [.int .i64 0, .int .i64 0, .string ⟨#[]⟩]⟩ := ⟨⟨Tryz.t40, _, rfl, rfl, rfl, rfl, rfl, rfl⟩, ⟨_, rfl, ⟨_, rfl, rfl⟩⟩⟩
theorem tt_41 : TIok Tryz.prog 41 ⟨8, 72, (.st [(0, 3), (1, 3), (2, 3), (3, 3), (4, 3), (5, 40)]), [.int .i64 0, .int .i64 0, .int .i64 0, .int .i64 0, .int .i64 0, .int .i64 0, .int .i64 0, .string ⟨#[]⟩]⟩ := ⟨⟨Tryz.t41, _, rfl, rfl, rfl, rfl, rfl, rfl⟩, ⟨_, rfl, ⟨_, rfl, rfl⟩⟩⟩
theorem tt_42 : TIok Tryz.prog 42 ⟨8, 72, (.st [(0, 3), (1, 3), (2, 3), (3, 3), (4, 3), (5, 40)]), [.int .i64 0, .int .i64 0, .int .i64 0, .int .i64 0, .int .i64 0, .int .i64 0, .int .i64 0, .string ⟨#[]⟩]⟩ := ⟨⟨Tryz.t42, _, rfl, rfl, rfl, rfl, rfl, rfl⟩, ⟨_, rfl, ⟨_, rfl, rfl⟩⟩⟩
theorem tt_44 : TIok Tryz.prog 44 ⟨1, 8, .fnc, [.nilFunc]⟩ := ⟨⟨Tryz.t44, _, rfl, rfl, rfl, rfl, rfl, rfl⟩, ⟨_, rfl, ⟨_, _, _, rfl⟩⟩⟩
theorem tt_45 : TIok Tryz.prog 45 ⟨1, 8, .fnc, [.nilFunc]⟩ := ⟨⟨Tryz.t45, _, rfl, rfl, rfl, rfl, rfl, rfl⟩, ⟨_, rfl, ⟨_, _, _, rfl⟩⟩⟩
theorem tt_46 : TIok Tryz.prog 46 ⟨1, 24, (.sl 105), [.slice none 0 0]⟩ := ⟨⟨Tryz.t46, _, rfl, rfl, rfl, rfl, rfl, rfl⟩, ⟨_, rfl, rfl⟩⟩
theorem tt_47 : TIok Tryz.prog 47 ⟨1, 8, .fnc, [.nilFunc]⟩ := ⟨⟨Tryz.t47, _, rfl, rfl, rfl, rfl, rfl, rfl⟩, ⟨_, rfl, ⟨_, _, _, rfl⟩⟩⟩
theorem tt_48 : TIok Tryz.prog 48 ⟨1, 8, .fnc, [.nilFunc]⟩ := ⟨⟨Tryz.t48, _, rfl, rfl, rfl, rfl, rfl, rfl⟩, ⟨_, rfl, ⟨_, _, _, rfl⟩⟩⟩
theorem tt_49 : TIok Tryz.prog 49 ⟨2, 16, (.st [(0, 3), (1, 26)]), [.int .i64 0, .int .i64 0]⟩ := ⟨⟨Tryz.t49, _, rfl, rfl, rfl, rfl, rfl, rfl⟩, ⟨_, rfl, ⟨_, rfl, rfl⟩⟩⟩
theorem tt_50 : TIok Tryz.prog 50 ⟨2, 16, (.st [(0, 3), (1, 26)]), [.int .i64 0, .int .i64 0]⟩ := ⟨⟨Tryz.t50, _, rfl, rfl, rfl, rfl, rfl, rfl⟩, ⟨_, rfl, ⟨_, rfl, rfl⟩⟩⟩
theorem tt_51 : TIok Tryz.prog 51 ⟨1, 24, (.sl 90), [.slice none 0 0]⟩ := ⟨⟨Tryz.t51, _, rfl, rfl, rfl, rfl, rfl, rfl⟩, ⟨_, rfl, rfl⟩⟩
theorem tt_52 : TIok Tryz.prog 52 ⟨1, 8, .fnc, [.nilFunc]⟩ := ⟨⟨Tryz.t52, _, rfl, rfl, rfl, rfl, rfl, rfl⟩, ⟨_, rfl, ⟨_, _, _, rfl⟩⟩⟩
theorem tt_53 : TIok Tryz.prog 53 ⟨1, 24, (.sl 3), [.slice none 0 0]⟩ := ⟨⟨Tryz.t53, _, rfl, rfl, rfl, rfl, rfl, rfl⟩, ⟨_, rfl, rfl⟩⟩
theorem tt_54 : TIok Tryz.prog 54 ⟨1, 8, .fnc, [.nilFunc]⟩ := ⟨⟨Tryz.t54, _, rfl, rfl, rfl, rfl, rfl, rfl⟩, ⟨_, rfl, ⟨_, _, _, rfl⟩⟩⟩
theorem tt_55 : TIok Tryz.prog 55 ⟨1, 8, .fnc, [.nilFunc]⟩ := ⟨⟨Tryz.t55, _, rfl, rfl, rfl, rfl, rfl, rfl⟩, ⟨_, rfl, ⟨_, _, _, rfl⟩⟩⟩
theorem tt_56 : TIok Tryz.prog 56 ⟨1, 8, .fnc, [.nilFunc]⟩ := ⟨⟨Tryz.t56, _, rfl, rfl, rfl, rfl, rfl, rfl⟩, ⟨_, rfl, ⟨_, _, _, rfl⟩⟩⟩
theorem tt_57 : TIok Tryz.prog 57 ⟨1, 24, (.sl 62), [.slice none 0 0]⟩ := ⟨⟨Tryz.t57, _, rfl, rfl, rfl, rfl, rfl, rfl⟩, ⟨_, rfl, rfl⟩⟩
theorem tt_59 : TIok Tryz.prog 59 ⟨1, 8, .fnc, [.nilFunc]⟩ := ⟨⟨Tryz.t59, _, rfl, rfl, rfl, rfl, rfl, rfl⟩, ⟨_, rfl, ⟨_, _, _, rfl⟩⟩⟩
theorem tt_60 : TIok Tryz.prog 60 ⟨1, 8, .fnc, [.nilFunc]⟩ := ⟨⟨Tryz.t60, _, rfl, rfl, rfl, rfl, rfl, rfl⟩, ⟨_, rfl, ⟨_, _, _, rfl⟩⟩⟩
theorem tt_61 : TIok Tryz.prog 61 ⟨2, 24, (.st [(0, 9), (1, 4)]), [.string ⟨#[]⟩, .bool false]⟩ := ⟨⟨Tryz.t61, _, rfl, rfl, rfl, rfl, rfl, rfl⟩, ⟨_, rfl, ⟨_, rfl, rfl⟩⟩⟩
theorem tt_62 : TIok Tryz.prog 62 ⟨2, 24, (.st [(0, 9), (1, 4)]), [.string ⟨#[]⟩, .bool false]⟩ := ⟨⟨Tryz.t62, _, rfl, rfl, rfl, rfl, rfl, rfl⟩, ⟨_, rfl, ⟨_, rfl, rfl⟩⟩⟩
theorem tt_64 : TIok Tryz.prog 64 ⟨1, 8, .fnc, [.nilFunc]⟩ := ⟨⟨Tryz.t64, _, rfl, rfl, rfl, rfl, rfl, rfl⟩, ⟨_, rfl, ⟨_, _, _, rfl⟩⟩⟩
theorem tt_65 : TIok Tryz.prog 65 ⟨1, 8, .fnc, [.nilFunc]⟩ := ⟨⟨Tryz.t65, _, rfl, rfl, rfl, rfl, rfl, rfl⟩, ⟨_, rfl, ⟨_, _, _, rfl⟩⟩⟩
theorem tt_67 : TIok Tryz.prog 67 ⟨1, 8, .fnc, [.nilFunc]⟩ := ⟨⟨Tryz.t67, _, rfl, rfl, rfl, rfl, rfl, rfl⟩, ⟨_, rfl, ⟨_, _, _, rfl⟩⟩⟩
theorem tt_68 : TIok Tryz.prog 68 ⟨1, 24, (.sl 9), [.slice none 0 0]⟩ := ⟨⟨Tryz.t68, _, rfl, rfl, rfl, rfl, rfl, rfl⟩, ⟨_, rfl, rfl⟩⟩
theorem tt_69 : TIok Tryz.prog 69 ⟨1, 8, .fnc, [.nilFunc]⟩ := ⟨⟨Tryz.t69, _, rfl, rfl, rfl, rfl, rfl, rfl⟩, ⟨_, rfl, ⟨_, _, _, rfl⟩⟩⟩
theorem tt_70 : TIok Tryz.prog 70 ⟨1, 24, (.sl 74), [.slice none 0 0]⟩ := ⟨⟨Tryz.t70, _, rfl, rfl, rfl, rfl, rfl, rfl⟩, ⟨_, rfl, rfl⟩⟩
theorem tt_72 : TIok Tryz.prog 72 ⟨1, 8, .fnc, [.nilFunc]⟩ := ⟨⟨Tryz.t72, _, rfl, rfl, rfl, rfl, rfl, rfl⟩, ⟨_, rfl, ⟨_, _, _, rfl⟩⟩⟩
theorem tt_73 : TIok Tryz.prog 73 ⟨2, 24, (.st [(0, 4), (1, 9)]), [.bool false, .string ⟨#[]⟩]⟩ := ⟨⟨Tryz.t73, _, rfl, rfl, rfl, rfl, rfl, rfl⟩, ⟨_, rfl, ⟨_, rfl, rfl⟩⟩⟩
theorem tt_74 : TIok Tryz.prog 74 ⟨2, 24, (.st [(0, 4), (1, 9)]), [.bool false, .string ⟨#[]⟩]⟩ := ⟨⟨Tryz.t74, _, rfl, rfl, rfl, rfl, rfl, rfl⟩, ⟨_, rfl, ⟨_, rfl, rfl⟩⟩⟩
theorem tt_75 : TIok Tryz.prog 75 ⟨1, 8, .fnc, [.nilFunc]⟩ := ⟨⟨Tryz.t75, _, rfl, rfl, rfl, rfl, rfl, rfl⟩, ⟨_, rfl, ⟨_, _, _, rfl⟩⟩⟩
theorem tt_76 : TIok Tryz.prog 76 ⟨1, 8, .fnc, [.nilFunc]⟩ := ⟨⟨Tryz.t76, _, rfl, rfl, rfl, rfl, rfl, rfl⟩, ⟨_, rfl, ⟨_, _, _, rfl⟩⟩⟩
theorem tt_78 : TIok Tryz.prog 78 ⟨1, 8, .fnc, [.nilFunc]⟩ := ⟨⟨Tryz.t78, _, rfl, rfl, rfl, rfl, rfl, rfl⟩, ⟨_, rfl, ⟨_, _, _, rfl⟩⟩⟩
theorem tt_79 : TIok Tryz.prog 79 ⟨1, 8, (.ptr 82), [.pointer none]⟩ := ⟨⟨Tryz.t79, _, rfl, rfl, rfl, rfl, rfl, rfl⟩, ⟨_, rfl, rfl⟩⟩
theorem tt_80 : TIok Tryz.prog 80 ⟨1, 24, (.sl 5), [.slice none 0 0]⟩ := ⟨⟨Tryz.t80, _, rfl, rfl, rfl, rfl, rfl, rfl⟩, ⟨_, rfl, rfl⟩⟩
theorem tt_81 : TIok Tryz.prog 81 ⟨2, 32, (.st [(0, 79), (1, 80)]), [.pointer none, .slice none 0 0]⟩ := ⟨⟨Tryz.t81, _, rfl, rfl, rfl, rfl, rfl, rfl⟩, ⟨_, rfl, ⟨_, rfl, rfl⟩⟩⟩
theorem tt_82 : TIok Tryz.prog 82 ⟨2, 32, (.st [(0, 79), (1, 80)]), [.pointer none, .slice none 0 0]⟩ := ⟨⟨Tryz.t82, _, rfl, rfl, rfl, rfl, rfl, rfl⟩, ⟨_, rfl, ⟨_, rfl, rfl⟩⟩⟩
theorem tt_83 : TIok Tryz.prog 83 ⟨1, 16, .oth, [.nilIface]⟩ := ⟨⟨Tryz.t83, _, rfl, rfl, rfl, rfl, rfl, rfl⟩, ⟨_, rfl, rfl⟩⟩
theorem tt_84 : TIok Tryz.prog 84 ⟨1, 16, .oth, [.nilIface]⟩ := ⟨⟨Tryz.t84, _, rfl, rfl, rfl, rfl, rfl, rfl⟩, ⟨_, rfl, rfl⟩⟩
theorem tt_86 : TIok Tryz.prog 86 ⟨1, 8, .fnc, [.nilFunc]⟩ := ⟨⟨Tryz.t86, _, rfl, rfl, rfl, rfl, rfl, rfl⟩, ⟨_, rfl, ⟨_, _, _, rfl⟩⟩⟩
theorem tt_87 : TIok Tryz.prog 87 ⟨1, 8, .fnc, [.nilFunc]⟩ := ⟨⟨Tryz.t87, _, rfl, rfl, rfl, rfl, rfl, rfl⟩, ⟨_, rfl, ⟨_, _, _, rfl⟩⟩⟩
theorem tt_88 : TIok Tryz.prog 88 ⟨1, 24, (.sl 94), [.slice none 0 0]⟩ := ⟨⟨Tryz.t88, _, rfl, rfl, rfl, rfl, rfl, rfl⟩, ⟨_, rfl, rfl⟩⟩
theorem tt_89 : TIok Tryz.prog 89 ⟨3, 48, (.st [(0, 9), (1, 3), (2, 88)]), [.string ⟨#[]⟩, .int .i64 0, .slice none 0 0]⟩ := ⟨⟨Tryz.t89, _, rfl, rfl, rfl, rfl, rfl, rfl⟩, ⟨_, rfl, ⟨_, rfl, rfl⟩⟩⟩
theorem tt_90 : TIok Tryz.prog 90 ⟨3, 48, (.st [(0, 9), (1, 3), (2, 88)]), [.string ⟨#[]⟩, .int .i64 0, .slice none 0 0]⟩ := ⟨⟨Tryz.t90, _, rfl, rfl, rfl, rfl, rfl, rfl⟩, ⟨_, rfl, ⟨_, rfl, rfl⟩⟩⟩
theorem tt_91 : TIok Tryz.prog 91 ⟨1, 8, .fnc, [.nilFunc]⟩ := ⟨⟨Tryz.t91, _, rfl, rfl, rfl, rfl, rfl, rfl⟩, ⟨_, rfl, ⟨_, _, _, rfl⟩⟩⟩
theorem tt_92 : TIok Tryz.prog 92 ⟨1, 8, .fnc, [.nilFunc]⟩ := ⟨⟨Tryz.t92, _, rfl, rfl, rfl, rfl, rfl, rfl⟩, ⟨_, rfl, ⟨_, _, _, rfl⟩⟩⟩
theorem tt_93 : TIok Tryz.prog 93 ⟨2, 16, (.st [(0, 91), (1, 92)]), [.nilFunc, .nilFunc]⟩ := ⟨⟨Tryz.t93, _, rfl, rfl, rfl, rfl, rfl, rfl⟩, ⟨_, rfl, ⟨_, rfl, rfl⟩⟩⟩
theorem tt_94 : TIok Tryz.prog 94 ⟨2, 16, (.st [(0, 91), (1, 92)]), [.nilFunc, .nilFunc]⟩ := ⟨⟨Tryz.t94, _, rfl, rfl, rfl, rfl, rfl, rfl⟩, ⟨_, rfl, ⟨_, rfl, rfl⟩⟩⟩
theorem tt_95 : TIok Tryz.prog 95 ⟨1, 8, .fnc, [.nilFunc]⟩ := ⟨⟨Tryz.t95, _, rfl, rfl, rfl, rfl, rfl, rfl⟩, ⟨_, rfl, ⟨_, _, _, rfl⟩⟩⟩
theorem tt_96 : TIok Tryz.prog 96 ⟨1, 24, (.sl 132), [.slice none 0 0]⟩ := ⟨⟨Tryz.t96, _, rfl, rfl, rfl, rfl, rfl, rfl⟩, ⟨_, rfl, rfl⟩⟩
theorem tt_97 : TIok Tryz.prog 97 ⟨2, 32, (.st [(0, 96), (1, 4)]), [.slice none 0 0, .bool false]⟩ := ⟨⟨Tryz.t97, _, rfl, rfl, rfl, rfl, rfl, rfl⟩, ⟨_, rfl, ⟨_, rfl, rfl⟩⟩⟩
theorem tt_98 : TIok Tryz.prog 98 ⟨2, 32, (.st [(0, 96), (1, 4)]), [.slice none 0 0, .bool false]⟩ := ⟨⟨Tryz.t98, _, rfl, rfl, rfl, rfl, rfl, rfl⟩, ⟨_, rfl, ⟨_, rfl, rfl⟩⟩⟩
theorem tt_99 : TIok Tryz.prog 99 ⟨34, 544, (.arr 17 98), [.slice none 0 0, .bool false, .slice none 0 0, .bool false, .slice none 0 0, .bool false, .slice none 0 0, .bool false, .slice none 0 0, .bool false, .slice none 0 0, .bool false, .slice none 0 0, .bool false, .slice none 0 0, .bool false, .slice none 0 0, .bool false, .slice none 0 0, .bool false, .slice none 0 0, .bool false, .slice none 0 0, .bool false, .slice none 0 0, .bool false, .slice none 0 0, .bool false, .slice none 0 0, .bool false, .slice none 0 0, .bool false, .slice none 0 0, .bool false]⟩ := ⟨⟨Tryz.t99, _, rfl, rfl, rfl, rfl, rfl, rfl⟩, ⟨_, rfl, rfl⟩⟩
theorem tt_100 : TIok Tryz.prog 100 ⟨1, 8, .fnc, [.nilFunc]⟩ := ⟨⟨Tryz.t100, _, rfl, rfl, rfl, rfl, rfl, rfl⟩, ⟨_, rfl, ⟨_, _, _, rfl⟩⟩⟩
theorem tt_101 : TIok Tryz.prog 101 ⟨1, 8, .fnc, [.nilFunc]⟩ := ⟨⟨Tryz.t101, _, rfl, rfl, rfl, rfl, rfl, rfl⟩, ⟨_, rfl, ⟨_, _, _, rfl⟩⟩⟩
theorem tt_102 : TIok Tryz.prog 102 ⟨1, 8, (.ptr 99), [.pointer none]⟩ := ⟨⟨Tryz.t102, _, rfl, rfl, rfl, rfl, rfl, rfl⟩, ⟨_, rfl, rfl⟩⟩
theorem tt_103 : TIok Tryz.prog 103 ⟨1, 8, (.ptr 25), [.pointer none]⟩ := ⟨⟨Tryz.t103, _, rfl, rfl, rfl, rfl, rfl, rfl⟩, ⟨_, rfl, rfl⟩⟩
theorem tt_104 : TIok Tryz.prog 104 ⟨4, 32, (.st [(0, 3), (1, 3), (2, 3), (3, 3)]), [.int .i64 0, .int .i64 0, .int .i64 0, .int .i64 0]⟩ := ⟨⟨Tryz.t104, _, rfl, rfl, rfl, rfl, rfl, rfl⟩, ⟨_, rfl, ⟨_, rfl, rfl⟩⟩⟩
theorem tt_105 : TIok Tryz.prog 105 ⟨4, 32, (.st [(0, 3), (1, 3), (2, 3), (3, 3)]), [.int .i64 0, .int .i64 0, .int .i64 0, .int .i64 0]⟩ := ⟨⟨Tryz.t105, _, rfl, rfl, rfl, rfl, rfl, rfl⟩, ⟨_, rfl, ⟨_, rfl, rfl⟩⟩⟩
theorem tt_106 : TIok Tryz.prog 106 ⟨1, 8, .fnc, [.nilFunc]⟩ := ⟨⟨Tryz.t106, _, rfl, rfl, rfl, rfl, rfl, rfl⟩, ⟨_, rfl, ⟨_, _, _, rfl⟩⟩⟩
theorem tt_107 : TIok Tryz.prog 107 ⟨1, 8, .fnc, [.nilFunc]⟩ := ⟨⟨Tryz.t107, _, rfl, rfl, rfl, rfl, rfl, rfl⟩, ⟨_, rfl, ⟨_, _, _, rfl⟩⟩⟩
theorem tt_108 : TIok Tryz.prog 108 ⟨1, 8, (.ptr 42), [.pointer none]⟩ := ⟨⟨Tryz.t108, _, rfl, rfl, rfl, rfl, rfl, rfl⟩, ⟨_, rfl, rfl⟩⟩
theorem tt_109 : TIok Tryz.prog 109 ⟨1, 8, (.ptr 3), [.pointer none]⟩ := ⟨⟨Tryz.t109, _, rfl, rfl, rfl, rfl, rfl, rfl⟩, ⟨_, rfl, rfl⟩⟩
theorem tt_110 : TIok Tryz.prog 110 ⟨1, 8, .fnc, [.nilFunc]⟩ := ⟨⟨Tryz.t110, _, rfl, rfl, rfl, rfl, rfl, rfl⟩, ⟨_, rfl, ⟨_, _, _, rfl⟩⟩⟩
theorem tt_111 : TIok Tryz.prog 111 ⟨1, 8, .fnc, [.nilFunc]⟩ := ⟨⟨Tryz.t111, _, rfl, rfl, rfl, rfl, rfl, rfl⟩, ⟨_, rfl, ⟨_, _, _, rfl⟩⟩⟩
theorem tt_113 : TIok Tryz.prog 113 ⟨1, 8, .fnc, [.nilFunc]⟩ := ⟨⟨Tryz.t113, _, rfl, rfl, rfl, rfl, rfl, rfl⟩, ⟨_, rfl, ⟨_, _, _, rfl⟩⟩⟩
theorem tt_114 : TIok Tryz.prog 114 ⟨1, 8, .fnc, [.nilFunc]⟩ := ⟨⟨Tryz.t114, _, rfl, rfl, rfl, rfl, rfl, rfl⟩, ⟨_, rfl, ⟨_, _, _, rfl⟩⟩⟩
theorem tt_115 : TIok Tryz.prog 115 ⟨1, 8, .fnc, [.nilFunc]⟩ := ⟨⟨Tryz.t115, _, rfl, rfl, rfl, rfl, rfl, rfl⟩, ⟨_, rfl, ⟨_, _, _, rfl⟩⟩⟩
theorem tt_117 : TIok Tryz.prog 117 ⟨1, 8, .fnc, [.nilFunc]⟩ := ⟨⟨Tryz.t117, _, rfl, rfl, rfl, rfl, rfl, rfl⟩, ⟨_, rfl, ⟨_, _, _, rfl⟩⟩⟩
theorem tt_118 : TIok Tryz.prog 118 ⟨1, 8, .fnc, [.nilFunc]⟩ := ⟨⟨Tryz.t118, _, rfl, rfl, rfl, rfl, rfl, rfl⟩, ⟨_, rfl, ⟨_, _, _, rfl⟩⟩⟩
theorem tt_119 : TIok Tryz.prog 119 ⟨1, 8, .fnc, [.nilFunc]⟩ := ⟨⟨Tryz.t119, _, rfl, rfl, rfl, rfl, rfl, rfl⟩, ⟨_, rfl, ⟨_, _, _, rfl⟩⟩⟩
theorem tt_120 : TIok Tryz.prog 120 ⟨1, 8, .fnc, [.nilFunc]⟩ := ⟨⟨Tryz.t120, _, rfl, rfl, rfl, rfl, rfl, rfl⟩, ⟨_, rfl, ⟨_, _, _, rfl⟩⟩⟩
theorem tt_121 : TIok Tryz.prog 121 ⟨1, 8, .fnc, [.nilFunc]⟩ := ⟨⟨Tryz.t121, _, rfl, rfl, rfl, rfl, rfl, rfl⟩, ⟨_, rfl, ⟨_, _, _, rfl⟩⟩⟩
theorem tt_122 : TIok Tryz.prog 122 ⟨1, 8, .fnc, [.nilFunc]⟩ := ⟨⟨Tryz.t122, _, rfl, rfl, rfl, rfl, rfl, rfl⟩, ⟨_, rfl, ⟨_, _, _, rfl⟩⟩⟩
theorem tt_123 : TIok Tryz.prog 123 ⟨1, 8, .fnc, [.nilFunc]⟩ := ⟨⟨Tryz.t123, _, rfl, rfl, rfl, rfl, rfl, rfl⟩, ⟨_, rfl, ⟨_, _, _, rfl⟩⟩⟩
theorem tt_124 : TIok Tryz.prog 124 ⟨1, 8, .fnc, [.nilFunc]⟩ := ⟨⟨Tryz.t124, _, rfl, rfl, rfl, rfl, rfl, rfl⟩, ⟨_, rfl, ⟨_, _, _, rfl⟩⟩⟩
theorem tt_125 : TIok Tryz.prog 125 ⟨1, 8, .fnc, [.nilFunc]⟩ := ⟨⟨Tryz.t125, _, rfl, rfl, rfl, rfl, rfl, rfl⟩, ⟨_, rfl, ⟨_, _, _, rfl⟩⟩⟩
theorem tt_126 : TIok Tryz.prog 126 ⟨1, 8, (.ptr 5), [.pointer none]⟩ := ⟨⟨Tryz.t126, _, rfl, rfl, rfl, rfl, rfl, rfl⟩, ⟨_, rfl, rfl⟩⟩
theorem tt_127 : TIok Tryz.prog 127 ⟨1, 8, .fnc, [.nilFunc]⟩ := ⟨⟨Tryz.t127, _, rfl, rfl, rfl, rfl, rfl, rfl⟩, ⟨_, rfl, ⟨_, _, _, rfl⟩⟩⟩
theorem tt_128 : TIok Tryz.prog 128 ⟨1, 8, .fnc, [.nilFunc]⟩ := ⟨⟨Tryz.t128, _, rfl, rfl, rfl, rfl, rfl, rfl⟩, ⟨_, rfl, ⟨_, _, _, rfl⟩⟩⟩
theorem tt_129 : TIok Tryz.prog 129 ⟨1, 8, .fnc, [.nilFunc]⟩ := ⟨⟨Tryz.t129, _, rfl, rfl, rfl, rfl, rfl, rfl⟩, ⟨_, rfl, ⟨_, _, _, rfl⟩⟩⟩
theorem tt_130 : TIok Tryz.prog 130 ⟨1, 8, .fnc, [.nilFunc]⟩ := ⟨⟨Tryz.t130, _, rfl, rfl, rfl, rfl, rfl, rfl⟩, ⟨_, rfl, ⟨_, _, _, rfl⟩⟩⟩
theorem tt_131 : TIok Tryz.prog 131 ⟨3, 24, (.st [(0, 110), (1, 130), (2, 4)]), [.nilFunc, .nilFunc, .bool false]⟩ := ⟨⟨Tryz.t131, _, rfl, rfl, rfl, rfl, rfl, rfl⟩, ⟨_, rfl, ⟨_, rfl, rfl⟩⟩⟩
theorem tt_132 : TIok Tryz.prog 132 ⟨3, 24, (.st [(0, 110), (1, 130), (2, 4)]), [.nilFunc, .nilFunc, .bool false]⟩ := ⟨⟨Tryz.t132, _, rfl, rfl, rfl, rfl, rfl, rfl⟩, ⟨_, rfl, ⟨_, rfl, rfl⟩⟩⟩
theorem tt_133 : TIok Tryz.prog 133 ⟨1, 8, .fnc, [.nilFunc]⟩ := ⟨⟨Tryz.t133, _, rfl, rfl, rfl, rfl, rfl, rfl⟩, ⟨_, rfl, ⟨_, _, _, rfl⟩⟩⟩
theorem tt_135 : TIok Tryz.prog 135 ⟨1, 8, .fnc, [.nilFunc]⟩ := ⟨⟨Tryz.t135, _, rfl, rfl, rfl, rfl, rfl, rfl⟩, ⟨_, rfl, ⟨_, _, _, rfl⟩⟩⟩
theorem tt_137 : TIok Tryz.prog 137 ⟨1, 8, .fnc, [.nilFunc]⟩ := ⟨⟨Tryz.t137, _, rfl, rfl, rfl, rfl, rfl, rfl⟩, ⟨_, rfl, ⟨_, _, _, rfl⟩⟩⟩
theorem tt_138 : TIok Tryz.prog 138 ⟨1, 8, (.int .u64), [.int .u64 0]⟩ := ⟨⟨Tryz.t138, _, rfl, rfl, rfl, rfl, rfl, rfl⟩, ⟨_, rfl, rfl⟩⟩
theorem tt_139 : TIok Tryz.prog 139 ⟨1, 8, .fnc, [.nilFunc]⟩ := ⟨⟨Tryz.t139, _, rfl, rfl, rfl, rfl, rfl, rfl⟩, ⟨_, rfl, ⟨_, _, _, rfl⟩⟩⟩
theorem tt_143 : TIok Tryz.prog 143 ⟨1, 8, .fnc, [.nilFunc]⟩ := ⟨⟨Tryz.t143, _, rfl, rfl, rfl, rfl, rfl, rfl⟩, ⟨_, rfl, ⟨_, _, _, rfl⟩⟩⟩
theorem tt_144 : TIok Tryz.prog 144 ⟨1, 8, .fnc, [.nilFunc]⟩ := ⟨⟨Tryz.t144, _, rfl, rfl, rfl, rfl, rfl, rfl⟩, ⟨_, rfl, ⟨_, _, _, rfl⟩⟩⟩
theorem tt_145 : TIok Tryz.prog 145 ⟨1, 8, (.ptr 141), [.pointer none]⟩ := ⟨⟨Tryz.t145, _, rfl, rfl, rfl, rfl, rfl, rfl⟩, ⟨_, rfl, rfl⟩⟩
theorem tt_146 : TIok Tryz.prog 146 ⟨1, 8, .fnc, [.nilFunc]⟩ := ⟨⟨Tryz.t146, _, rfl, rfl, rfl, rfl, rfl, rfl⟩, ⟨_, rfl, ⟨_, _, _, rfl⟩⟩⟩
theorem tt_148 : TIok Tryz.prog 148 ⟨1, 8, .fnc, [.nilFunc]⟩ := ⟨⟨Tryz.t148, _, rfl, rfl, rfl, rfl, rfl, rfl⟩, ⟨_, rfl, ⟨_, _, _, rfl⟩⟩⟩
theorem tt_149 : TIok Tryz.prog 149 ⟨1, 8, .fnc, [.nilFunc]⟩ := ⟨⟨Tryz.t149, _, rfl, rfl, rfl, rfl, rfl, rfl⟩, ⟨_, rfl, ⟨_, _, _, rfl⟩⟩⟩
theorem tt_150 : TIok Tryz.prog 150 ⟨1, 8, .fnc, [.nilFunc]⟩ := ⟨⟨Tryz.t150, _, rfl, rfl, rfl, rfl, rfl, rfl⟩, ⟨_, rfl, ⟨_, _, _, rfl⟩⟩⟩
theorem tt_151 : TIok Tryz.prog 151 ⟨1, 8, .fnc, [.nilFunc]⟩ := ⟨⟨Tryz.t151, _, rfl, rfl, rfl, rfl, rfl, rfl⟩, ⟨_, rfl, ⟨_, _, _, rfl⟩⟩⟩
theorem tt_152 : TIok Tryz.prog 152 ⟨1, 8, .fnc, [.nilFunc]⟩ := ⟨⟨Tryz.t152, _, rfl, rfl, rfl, rfl, rfl, rfl⟩, ⟨_, rfl, ⟨_, _, _, rfl⟩⟩⟩
theorem tt_154 : TIok Tryz.prog 154 ⟨1, 8, .fnc, [.nilFunc]⟩ := ⟨⟨Tryz.t154, _, rfl, rfl, rfl, rfl, rfl, rfl⟩, ⟨_, rfl, ⟨_, _, _, rfl⟩⟩⟩
theorem tt_155 : TIok Tryz.prog 155 ⟨1, 8, .fnc, [.nilFunc]⟩ := ⟨⟨Tryz.t155, _, rfl, rfl, rfl, rfl, rfl, rfl⟩, ⟨_, rfl, ⟨_, _, _, rfl⟩⟩⟩
theorem tt_156 : TIok Tryz.prog 156 ⟨1, 8, .fnc, [.nilFunc]⟩ := ⟨⟨Tryz.t156, _, rfl, rfl, rfl, rfl, rfl, rfl⟩, ⟨_, rfl, ⟨_, _, _, rfl⟩⟩⟩
theorem tt_157 : TIok Tryz.prog 157 ⟨1, 8, .fnc, [.nilFunc]⟩ := ⟨⟨Tryz.t157, _, rfl, rfl, rfl, rfl, rfl, rfl⟩, ⟨_, rfl, ⟨_, _, _, rfl⟩⟩⟩
theorem tt_158 : TIok Tryz.prog 158 ⟨1, 8, .fnc, [.nilFunc]⟩ := ⟨⟨Tryz.t158, _, rfl, rfl, rfl, rfl, rfl, rfl⟩, ⟨_, rfl, ⟨_, _, _, rfl⟩⟩⟩
theorem tt_159 : TIok Tryz.prog 159 ⟨1, 8, .oth, [.pointer none]⟩ := ⟨⟨Tryz.t159, _, rfl, rfl, rfl, rfl, rfl, rfl⟩, ⟨_, rfl, rfl⟩⟩
theorem tt_160 : TIok Tryz.prog 160 ⟨1, 8, .fnc, [.nilFunc]⟩ := ⟨⟨Tryz.t160, _, rfl, rfl, rfl, rfl, rfl, rfl⟩, ⟨_, rfl, ⟨_, _, _, rfl⟩⟩⟩
theorem tt_161 : TIok Tryz.prog 161 ⟨24, 24, (.arr 24 5), [.int .u8 0, .int .u8 0, .int .u8 0, .int .u8 0, .int .u8 0, .int .u8 0, .int .u8 0, .int .u8 0, .int .u8 0, .int .u8 0, .int .u8 0, .int .u8 0, .int .u8 0, .int .u8 0, .int .u8 0, .int .u8 0, .int .u8 0, .int .u8 0, .int .u8 0, .int .u8 0, .int .u8 0, .int .u8 0, .int .u8 0, .int .u8 0]⟩ := ⟨⟨Tryz.t161, _, rfl, rfl, rfl, rfl, rfl, rfl⟩, ⟨_, rfl, rfl⟩⟩
theorem tt_162 : TIok Tryz.prog 162 ⟨1, 8, (.int .u64), [.int .u64 0]⟩ := ⟨⟨Tryz.t162, _, rfl, rfl, rfl, rfl, rfl, rfl⟩, ⟨_, rfl, rfl⟩⟩
theorem tt_163 : TIok Tryz.prog 163 ⟨1, 8, .fnc, [.nilFunc]⟩ := ⟨⟨Tryz.t163, _, rfl, rfl, rfl, rfl, rfl, rfl⟩, ⟨_, rfl, ⟨_, _, _, rfl⟩⟩⟩
theorem tt_164 : TIok Tryz.prog 164 ⟨1, 8, .fnc, [.nilFunc]⟩ := ⟨⟨Tryz.t164, _, rfl, rfl, rfl, rfl, rfl, rfl⟩, ⟨_, rfl, ⟨_, _, _, rfl⟩⟩⟩
theorem tt_166 : TIok Tryz.prog 166 ⟨1, 8, .fnc, [.nilFunc]⟩ := ⟨⟨Tryz.t166, _, rfl, rfl, rfl, rfl, rfl, rfl⟩, ⟨_, rfl, ⟨_, _, _, rfl⟩⟩⟩
theorem tt_168 : TIok Tryz.prog 168 ⟨1, 8, .fnc, [.nilFunc]⟩ := ⟨⟨Tryz.t168, _, rfl, rfl, rfl, rfl, rfl, rfl⟩, ⟨_, rfl, ⟨_, _, _, rfl⟩⟩⟩
theorem tt_169 : TIok Tryz.prog 169 ⟨1, 8, .fnc, [.nilFunc]⟩ := ⟨⟨Tryz.t169, _, rfl, rfl, rfl, rfl, rfl, rfl⟩, ⟨_, rfl, ⟨_, _, _, rfl⟩⟩⟩
theorem tt_170 : TIok Tryz.prog 170 ⟨1, 8, .fnc, [.nilFunc]⟩ := ⟨⟨Tryz.t170, _, rfl, rfl, rfl, rfl, rfl, rfl⟩, ⟨_, rfl, ⟨_, _, _, rfl⟩⟩⟩
theorem tt_171 : TIok Tryz.prog 171 ⟨1, 8, .fnc, [.nilFunc]⟩ := ⟨⟨Tryz.t171, _, rfl, rfl, rfl, rfl, rfl, rfl⟩, ⟨_, rfl, ⟨_, _, _, rfl⟩⟩⟩
theorem tt_172 : TIok Tryz.prog 172 ⟨1, 8, (.int .i64), [.int .i64 0]⟩ := ⟨⟨Tryz.t172, _, rfl, rfl, rfl, rfl, rfl, rfl⟩, ⟨_, rfl, rfl⟩⟩
theorem tt_173 : TIok Tryz.prog 173 ⟨1, 8, (.ptr 185), [.pointer none]⟩ := ⟨⟨Tryz.t173, _, rfl, rfl, rfl, rfl, rfl, rfl⟩, ⟨_, rfl, rfl⟩⟩
theorem tt_174 : TIok Tryz.prog 174 ⟨1, 8, .fnc, [.nilFunc]⟩ := ⟨⟨Tryz.t174, _, rfl, rfl, rfl, rfl, rfl, rfl⟩, ⟨_, rfl, ⟨_, _, _, rfl⟩⟩⟩
theorem tt_175 : TIok Tryz.prog 175 ⟨1, 8, .fnc, [.nilFunc]⟩ := ⟨⟨Tryz.t175, _, rfl, rfl, rfl, rfl, rfl, rfl⟩, ⟨_, rfl, ⟨_, _, _, rfl⟩⟩⟩
theorem tt_176 : TIok Tryz.prog 176 ⟨1, 8, .fnc, [.nilFunc]⟩ := ⟨⟨Tryz.t176, _, rfl, rfl, rfl, rfl, rfl, rfl⟩, ⟨_, rfl, ⟨_, _, _, rfl⟩⟩⟩
theorem tt_178 : TIok Tryz.prog 178 ⟨1, 8, .fnc, [.nilFunc]⟩ := ⟨⟨Tryz.t178, _, rfl, rfl, rfl, rfl, rfl, rfl⟩, ⟨_, rfl, ⟨_, _, _, rfl⟩⟩⟩
theorem tt_179 : TIok Tryz.prog 179 ⟨1, 8, .fnc, [.nilFunc]⟩ := ⟨⟨Tryz.t179, _, rfl, rfl, rfl, rfl, rfl, rfl⟩, ⟨_, rfl, ⟨_, _, _, rfl⟩⟩⟩
theorem tt_180 : TIok Tryz.prog 180 ⟨20, 160, (.arr 20 162), [.int .u64 0, .int .u64 0, .int .u64 0, .int .u64 0, .int .u64 0, .int .u64 0, .int .u64 0, .int .u64 0, .int .u64 0, .int .u64 0, .int .u64 0, .int .u64 0, .int .u64 0, .int .u64 0, .int .u64 0, .int .u64 0, .int .u64 0, .int .u64 0, .int .u64 0, .int .u64 0]⟩ := ⟨⟨Tryz.t180, _, rfl, rfl, rfl, rfl, rfl, rfl⟩, ⟨_, rfl, rfl⟩⟩
theorem tt_181 : TIok Tryz.prog 181 ⟨1, 4, (.int .u32), [.int .u32 0]⟩ := ⟨⟨Tryz.t181, _, rfl, rfl, rfl, rfl, rfl, rfl⟩, ⟨_, rfl, rfl⟩⟩
theorem tt_183 : TIok Tryz.prog 183 ⟨1, 8, .fnc, [.nilFunc]⟩ := ⟨⟨Tryz.t183, _, rfl, rfl, rfl, rfl, rfl, rfl⟩, ⟨_, rfl, ⟨_, _, _, rfl⟩⟩⟩
theorem tt_184 : TIok Tryz.prog 184 ⟨3, 48, (.st [(0, 9), (1, 9), (2, 84)]), [.string ⟨#[]⟩, .string ⟨#[]⟩, .nilIface]⟩ := ⟨⟨Tryz.t184, _, rfl, rfl, rfl, rfl, rfl, rfl⟩, ⟨_, rfl, ⟨_, rfl, rfl⟩⟩⟩
theorem tt_185 : TIok Tryz.prog 185 ⟨3, 48, (.st [(0, 9), (1, 9), (2, 84)]), [.string ⟨#[]⟩, .string ⟨#[]⟩, .nilIface]⟩ := ⟨⟨Tryz.t185, _, rfl, rfl, rfl, rfl, rfl, rfl⟩, ⟨_, rfl, ⟨_, rfl, rfl⟩⟩⟩
theorem tt_186 : TIok Tryz.prog 186 ⟨1, 8, .fnc, [.nilFunc]⟩ := ⟨⟨Tryz.t186, _, rfl, rfl, rfl, rfl, rfl, rfl⟩, ⟨_, rfl, ⟨_, _, _, rfl⟩⟩⟩
theorem tt_187 : TIok Tryz.prog 187 ⟨1, 8, .fnc, [.nilFunc]⟩ := ⟨⟨Tryz.t187, _, rfl, rfl, rfl, rfl, rfl, rfl⟩, ⟨_, rfl, ⟨_, _, _, rfl⟩⟩⟩
theorem tt_188 : TIok Tryz.prog 188 ⟨1, 8, .fnc, [.nilFunc]⟩ := ⟨⟨Tryz.t188, _, rfl, rfl, rfl, rfl, rfl, rfl⟩, ⟨_, rfl, ⟨_, _, _, rfl⟩⟩⟩
theorem tt_190 : TIok Tryz.prog 190 ⟨1, 8, .fnc, [.nilFunc]⟩ := ⟨⟨Tryz.t190, _, rfl, rfl, rfl, rfl, rfl, rfl⟩, ⟨_, rfl, ⟨_, _, _, rfl⟩⟩⟩
theorem tt_192 : TIok Tryz.prog 192 ⟨2, 2, (.st [(0, 5), (1, 5)]), [.int .u8 0, .int .u8 0]⟩ := ⟨⟨Tryz.t192, _, rfl, rfl, rfl, rfl, rfl, rfl⟩, ⟨_, rfl, ⟨_, rfl, rfl⟩⟩⟩
theorem tt_193 : TIok Tryz.prog 193 ⟨2, 2, (.st [(0, 5), (1, 5)]), [.int .u8 0, .int .u8 0]⟩ := ⟨⟨Tryz.t193, _, rfl, rfl, rfl, rfl, rfl, rfl⟩, ⟨_, rfl, ⟨_, rfl, rfl⟩⟩⟩
theorem tt_194 : TIok Tryz.prog 194 ⟨32, 32, (.arr 16 193), [.int .u8 0, .int .u8 0, .int .u8 0, .int .u8 0, .int .u8 0, .int .u8 0, .int .u8 0, .int .u8 0, .int .u8 0, .int .u8 0, .int .u8 0, .int .u8 0, .int .u8 0, .int .u8 0, .int .u8 0, .int .u8 0, .int .u8 0, .int .u8 0, .int .u8 0, .int .u8 0, .int .u8 0, .int .u8 0, .int .u8 0, .int .u8 0, .int .u8 0, .int .u8 0, .int .u8 0, .int .u8 0, .int .u8 0, .int .u8 0, .int .u8 0, .int .u8 0]⟩ := ⟨⟨Tryz.t194, _, rfl, rfl, rfl, rfl, rfl, rfl⟩, ⟨_, rfl, rfl⟩⟩
theorem tt_195 : TIok Tryz.prog 195 ⟨1, 8, (.ptr 197), [.pointer none]⟩ := ⟨⟨Tryz.t195, _, rfl, rfl, rfl, rfl, rfl, rfl⟩, ⟨_, rfl, rfl⟩⟩
theorem tt_196 : TIok Tryz.prog 196 ⟨1, 16, (.st [(0, 9)]), [.string ⟨#[]⟩]⟩ := ⟨⟨Tryz.t196, _, rfl, rfl, rfl, rfl, rfl, rfl⟩, ⟨_, rfl, ⟨_, rfl, rfl⟩⟩⟩
theorem tt_197 : TIok Tryz.prog 197 ⟨1, 16, (.st [(0, 9)]), [.string ⟨#[]⟩]⟩ := ⟨⟨Tryz.t197, _, rfl, rfl, rfl, rfl, rfl, rfl⟩, ⟨_, rfl, ⟨_, rfl, rfl⟩⟩⟩
theorem tt_198 : TIok Tryz.prog 198 ⟨32, 32, (.arr 32 5), [.int .u8 0, .int .u8 0, .int .u8 0, .int .u8 0, .int .u8 0, .int .u8 0, .int .u8 0, .int .u8 0, .int .u8 0, .int .u8 0, .int .u8 0, .int .u8 0, .int .u8 0, .int .u8 0, .int .u8 0, .int .u8 0, .int .u8 0, .int .u8 0, .int .u8 0, .int .u8 0, .int .u8 0, .int .u8 0, .int .u8 0, .int .u8 0, .int .u8 0, .int .u8 0, .int .u8 0, .int .u8 0, .int .u8 0, .int .u8 0, .int .u8 0, .int .u8 0]⟩ := ⟨⟨Tryz.t198, _, rfl, rfl, rfl, rfl, rfl, rfl⟩, ⟨_, rfl, rfl⟩⟩
theorem tt_199 : TIok Tryz.prog 199 ⟨64, 64, (.arr 64 5), [.int .u8 0, .int .u8 0, .int .u8 0, .int .u8 0, .int .u8 0, .int .u8 0, .int .u8 0, .int .u8 0, .int .u8 0, .int .u8 0, .int .u8 0, .int .u8 0, .int .u8 0, .int .u8 0, .int .u8 0, .int .u8 0, .int .u8 0, .int .u8 0, .int .u8 0, .int .u8 0, .int .u8 0, .int .u8 0, .int .u8 0, .int .u8 0, .int .u8 0, .int .u8 0, .int .u8 0, .int .u8 0, .int .u8 0, .int .u8 0, .int .u8 0, .int .u8 0, .int .u8 0, .int .u8 0, .int .u8 0, .int .u8 0, .int .u8 0, .int .u8 0, .int .u8 0, .int .u8 0, .int .u8 0, .int .u8 0, .int .u8 0, .int .u8 0, .int .u8 0, .int .u8 0, .int .u8 0, .int .u8 0, .int .u8 0, .int .u8 0, .int .u8 0, .int .u8 0, .int .u8 0, .int .u8 0, .int .u8 0, .int .u8 0, .int .u8 0, .int .u8 0, .int .u8 0, .int .u8 0, .int .u8 0, .int .u8 0, .int .u8 0, .int .u8 0]⟩ := ⟨⟨Tryz.t199, _, rfl, rfl, rfl, rfl, rfl, rfl⟩, ⟨_, rfl, rfl⟩⟩
theorem tt_200 : TIok Tryz.prog 200 ⟨4, 40, (.st [(0, 17), (1, 17), (2, 17), (3, 9)]), [.pointer none, .pointer none, .pointer none, .string ⟨#[]⟩]⟩ := ⟨⟨Tryz.t200, _, rfl, rfl, rfl, rfl, rfl, rfl⟩, ⟨_, rfl, ⟨_, rfl, rfl⟩⟩⟩
theorem tt_201 : TIok Tryz.prog 201 ⟨4, 40, (.st [(0, 17), (1, 17), (2, 17), (3, 9)]), [.pointer none, .pointer none, .pointer none, .string ⟨#[]⟩]⟩ := ⟨⟨Tryz.t201, _, rfl, rfl, rfl, rfl, rfl, rfl⟩, ⟨_, rfl, ⟨_, rfl, rfl⟩⟩⟩
theorem tt_202 : TIok Tryz.prog 202 ⟨0, 0, (.arr 0 16), []⟩ := ⟨⟨Tryz.t202, _, rfl, rfl, rfl, rfl, rfl, rfl⟩, ⟨_, rfl, rfl⟩⟩
theorem tt_203 : TIok Tryz.prog 203 ⟨0, 0, (.st [(0, 202)]), []⟩ := ⟨⟨Tryz.t203, _, rfl, rfl, rfl, rfl, rfl, rfl⟩, ⟨_, rfl, ⟨_, rfl, rfl⟩⟩⟩
theorem tt_204 : TIok Tryz.prog 204 ⟨0, 0, (.st [(0, 202)]), []⟩ := ⟨⟨Tryz.t204, _, rfl, rfl, rfl, rfl, rfl, rfl⟩, ⟨_, rfl, ⟨_, rfl, rfl⟩⟩⟩
theorem tt_205 : TIok Tryz.prog 205 ⟨1, 8, .fnc, [.nilFunc]⟩ := ⟨⟨Tryz.t205, _, rfl, rfl, rfl, rfl, rfl, rfl⟩, ⟨_, rfl, ⟨_, _, _, rfl⟩⟩⟩
theorem tt_206 : TIok Tryz.prog 206 ⟨1, 1, (.int .u8), [.int .u8 0]⟩ := ⟨⟨Tryz.t206, _, rfl, rfl, rfl, rfl, rfl, rfl⟩, ⟨_, rfl, rfl⟩⟩
theorem tt_207 : TIok Tryz.prog 207 ⟨1, 1, (.int .u8), [.int .u8 0]⟩ := ⟨⟨Tryz.t207, _, rfl, rfl, rfl, rfl, rfl, rfl⟩, ⟨_, rfl, rfl⟩⟩
theorem tt_208 : TIok Tryz.prog 208 ⟨1, 8, .fnc, [.nilFunc]⟩ := ⟨⟨Tryz.t208, _, rfl, rfl, rfl, rfl, rfl, rfl⟩, ⟨_, rfl, ⟨_, _, _, rfl⟩⟩⟩
theorem tt_209 : TIok Tryz.prog 209 ⟨1, 4, (.int .i32), [.int .i32 0]⟩ := ⟨⟨Tryz.t209, _, rfl, rfl, rfl, rfl, rfl, rfl⟩, ⟨_, rfl, rfl⟩⟩
theorem tt_210 : TIok Tryz.prog 210 ⟨1, 4, (.int .i32), [.int .i32 0]⟩ := ⟨⟨Tryz.t210, _, rfl, rfl, rfl, rfl, rfl, rfl⟩, ⟨_, rfl, rfl⟩⟩
theorem tt_211 : TIok Tryz.prog 211 ⟨11, 48, (.st [(0, 12), (1, 12), (2, 181), (3, 206), (4, 5), (5, 5), (6, 207), (7, 208), (8, 126), (9, 209), (10, 210)]), [.int .u64 0, .int .u64 0, .int .u32 0, .int .u8 0, .int .u8 0, .int .u8 0, .int .u8 0, .nilFunc, .pointer none, .int .i32 0, .int .i32 0]⟩ := ⟨⟨Tryz.t211, _, rfl, rfl, rfl, rfl, rfl, rfl⟩, ⟨_, rfl, ⟨_, rfl, rfl⟩⟩⟩
theorem tt_212 : TIok Tryz.prog 212 ⟨11, 48, (.st [(0, 12), (1, 12), (2, 181), (3, 206), (4, 5), (5, 5), (6, 207), (7, 208), (8, 126), (9, 209), (10, 210)]), [.int .u64 0, .int .u64 0, .int .u32 0, .int .u8 0, .int .u8 0, .int .u8 0, .int .u8 0, .nilFunc, .pointer none, .int .i32 0, .int .i32 0]⟩ := ⟨⟨Tryz.t212, _, rfl, rfl, rfl, rfl, rfl, rfl⟩, ⟨_, rfl, ⟨_, rfl, rfl⟩⟩⟩
theorem ttok : TTok Tryz.prog tt :=
  TTok.cons tt_1 (TTok.cons tt_2 (TTok.cons tt_3 (TTok.cons tt_4 (TTok.cons tt_5 (TTok.cons tt_6 (TTok.cons tt_7 (TTok.cons tt_8 (TTok.cons tt_9 (TTok.cons tt_10 (TTok.cons tt_11 (TTok.cons tt_12 (TTok.cons tt_13 (TTok.cons tt_14 (TTok.cons tt_15 (TTok.cons tt_16 (TTok.cons tt_17 (TTok.cons tt_18 (TTok.cons tt_19 (TTok.cons tt_20 (TTok.cons tt_21 (TTok.cons tt_22 (TTok.cons tt_23 (TTok.cons tt_24 (TTok.cons tt_25 (TTok.cons tt_26 (TTok.cons tt_28 (TTok.cons tt_30 (TTok.cons tt_31 (TTok.cons tt_32 (TTok.cons tt_33 (TTok.cons tt_34 (TTok.cons tt_36 (TTok.cons tt_38 (TTok.cons tt_39 (TTok.cons tt_40 (TTok.cons tt_41 (TTok.cons tt_42 (TTok.cons tt_44 (TTok.cons tt_45 (TTok.cons tt_46 (TTok.cons tt_47 (TTok.cons tt_48 (TTok.cons tt_49 (TTok.cons tt_50 (TTok.cons tt_51 (TTok.cons tt_52 (TTok.cons tt_53 (TTok.cons tt_54 (TTok.cons tt_55 (TTok.cons tt_56 (TTok.cons tt_57 (TTok.cons tt_59 (TTok.cons tt_60 (TTok.cons tt_61 (TTok.cons tt_62 (TTok.cons tt_64 (TTok.cons tt_65 (TTok.cons tt_67 (TTok.cons tt_68 (TTok.cons tt_69 (TTok.cons tt_70 (TTok.cons tt_72 (TTok.cons tt_73 (TTok.cons tt_74 (TTok.cons tt_75 (TTok.cons tt_76 (TTok.cons tt_78 (TTok.cons tt_79 (TTok.cons tt_80 (TTok.cons tt_81 (TTok.cons tt_82 (TTok.cons tt_83 (TTok.cons tt_84 (TTok.cons tt_86 (TTok.cons tt_87 (TTok.cons tt_88 (TTok.cons tt_89 (TTok.cons tt_90 (TTok.cons tt_91 (TTok.cons tt_92 (TTok.cons tt_93 (TTok.cons tt_94 (TTok.cons tt_95 (TTok.cons tt_96 (TTok.cons tt_97 (TTok.cons tt_98 (TTok.cons tt_99 (TTok.cons tt_100 (TTok.cons tt_101 (TTok.cons tt_102 (TTok.cons tt_103 (TTok.cons tt_104 (TTok.cons tt_105 (TTok.cons tt_106 (TTok.cons tt_107 (TTok.cons tt_108 (TTok.cons tt_109 (TTok.cons tt_110 (TTok.cons tt_111 (TTok.cons tt_113 (TTok.cons tt_114 (TTok.cons tt_115 (TTok.cons tt_117 (TTok.cons tt_118 (TTok.cons tt_119 (TTok.cons tt_120 (TTok.cons tt_121 (TTok.cons tt_122 (TTok.cons tt_123 (TTok.cons tt_124 (TTok.cons tt_125 (TTok.cons tt_126 (TTok.cons tt_127 (TTok.cons tt_128 (TTok.cons tt_129 (TTok.cons tt_130 (TTok.cons tt_131 (TTok.cons tt_132 (TTok.cons tt_133 (TTok.cons tt_135 (TTok.cons tt_137 (TTok.cons tt_138 (TTok.cons tt_139 (TTok.cons tt_143 (TTok.cons tt_144 (TTok.cons tt_145 (TTok.cons tt_146 (TTok.cons tt_148 (TTok.cons tt_149 (TTok.cons tt_150 (TTok.cons tt_151 (TTok.cons tt_152 (TTok.cons tt_154 (TTok.cons tt_155 (TTok.cons tt_156 (TTok.cons tt_157 (TTok.cons tt_158 (TTok.cons tt_159 (TTok.cons tt_160 (TTok.cons tt_161 (TTok.cons tt_162 (TTok.cons tt_163 (TTok.cons tt_164 (TTok.cons tt_166 (TTok.cons tt_168 (TTok.cons tt_169 (TTok.cons tt_170 (TTok.cons tt_171 (TTok.cons tt_172 (TTok.cons tt_173 (TTok.cons tt_174 (TTok.cons tt_175 (TTok.cons tt_176 (TTok.cons tt_178 (TTok.cons tt_179 (TTok.cons tt_180 (TTok.cons tt_181 (TTok.cons tt_183 (TTok.cons tt_184 (TTok.cons tt_185 (TTok.cons tt_186 (TTok.cons tt_187 (TTok.cons tt_188 (TTok.cons tt_190 (TTok.cons tt_192 (TTok.cons tt_193 (TTok.cons tt_194 (TTok.cons tt_195 (TTok.cons tt_196 (TTok.cons tt_197 (TTok.cons tt_198 (TTok.cons tt_199 (TTok.cons tt_200 (TTok.cons tt_201 (TTok.cons tt_202 (TTok.cons tt_203 (TTok.cons tt_204 (TTok.cons tt_205 (TTok.cons tt_206 (TTok.cons tt_207 (TTok.cons tt_208 (TTok.cons tt_209 (TTok.cons tt_210 (TTok.cons tt_211 (TTok.cons tt_212 (TTok.nil _))))))))))))))))))))))))))))))))))))))))))))))))))))))))))))))))))))))))))))))))))))))))))))))))))))))))))))))))))))))))))))))))))))))))))))))))))))))))))))))))))))))))))))))))))))))))))
end Go.Proofs.YtaieficgifingaaGreatDoor
namespace Go.Proofs.YtaieficgifingaaGreatDoor
set_option linter.unusedVariables false
set_option linter.unusedSimpArgs false
open Go.RowKit
set_option maxRecDepth 100000
set_option maxHeartbeats 4000000
def digB (c : UInt8) : Bool := 48 ≤ c.toNat && c.toNat ≤ 57
def digS (l : List UInt8) : Bool := l.all digB && !l.isEmpty && (decide (l.getD 0 0 ≠ 48) || decide (l = [48]))
/-- the value of a digit; is it one? -/
def hexV (c : UInt8) : Nat := if 48 ≤ c.toNat ∧ c.toNat ≤ 57 then c.toNat - 48 else if 97 ≤ c.toNat ∧ c.toNat ≤ 102 then c.toNat - 87 else 0
def hexB (c : UInt8) : Bool := decide (48 ≤ c.toNat ∧ c.toNat ≤ 57) || decide (97 ≤ c.toNat ∧ c.toNat ≤ 102)
structure Hq_ (Q : Prop) : Prop where
  out : Q
theorem sS_ {P Q : Prop} (k : Q) (h : Hq_ Q → P := by intro k; (repeat (first | refine C.seq ?_ | refine C.region ?_ | refine R.zb ttok ?_ | refine R.zu ttok ?_ | refine R.zc ttok ?_ | refine R.za ttok ?_ | refine R.zx ?_ | refine R.zl ttok ?_ | refine R.zs ttok ?_ | refine R.z ttok ?_ | refine R.zk ?_ | refine R.zn ?_ | refine R.done ?_ | refine X.then ?_ | refine C.block ?_ | refine C.ret ?_ | refine C.skip ?_ | refine C.exit ?_ | refine X.pass_ret ?_ | refine X.pass_exit ?_ | refine X.block_normal ?_ | refine X.block_ret ?_ | refine X.block_exit ?_ | refine C.zt ?_ | refine C.zf ?_ | refine X.zo ?_)); exact k.out) : P := h ⟨k⟩
theorem hS5_ {P : Prop} (h : P := by repeat (first | exact HasH.nil | refine HasH.same rfl rfl rfl trivial ?_ | refine HasH.same rfl rfl rfl rfl ?_ | refine HasH.same rfl rfl rfl (fun _ _ => rfl) ?_ | refine HasH.ros rfl rfl ?_)) : P := h
theorem hex_spec (c : UInt8) : Spec Tryz.prog 99 [.raw (byteV c)] [] 0 (σ := Unit) (fun _ => True) (fun _ => .tup [.raw (.int .u8 (hexV c : Nat)), .raw (.bool (hexB c))]) (fun _ => []) := by
  refine Spec.of Tryz.func99 rfl Tryz.ntmps99 rfl (bdl_nil _) fun ρ w => ?_
  have hc : c.toNat < 256 := c.toNat_lt
  unfold byteV hexV hexB
  generalize c.toNat = m at hc ⊢
  refine sS_ ?_
  by_cases h1 : 48 ≤ m
  · rw [decide_eq_true (show (48 : Int) ≤ (m : Nat) by omega)]
    refine sS_ ?_
    by_cases h2 : m ≤ 57
    · rw [decide_eq_true (show ((m : Nat) : Int) ≤ 57 by omega)]
      refine sS_ ?_
      rw [if_pos (show 48 ≤ m ∧ m ≤ 57 from ⟨h1, h2⟩), decide_eq_true (show 48 ≤ m ∧ m ≤ 57 from ⟨h1, h2⟩), show (((m - 48 : Nat)) : Int) = (m : Int) - 48 by omega]
      refine X.fin ttok () [] trivial rfl rfl rfl hS5_ _ (by first | exact .inl rfl | exact .inr rfl)
    · rw [decide_eq_false (show ¬ ((m : Nat) : Int) ≤ 57 by omega)]
      have hn : ¬ (48 ≤ m ∧ m ≤ 57) := by omega
      rw [if_neg hn, decide_eq_false hn]
      refine sS_ ?_
      by_cases h3 : 97 ≤ m
      · rw [decide_eq_true (show (97 : Int) ≤ (m : Nat) by omega)]
        refine sS_ ?_
        by_cases h4 : m ≤ 102
        · rw [decide_eq_true (show ((m : Nat) : Int) ≤ 102 by omega)]
          refine sS_ ?_
          rw [if_pos (show 97 ≤ m ∧ m ≤ 102 from ⟨h3, h4⟩), decide_eq_true (show 97 ≤ m ∧ m ≤ 102 from ⟨h3, h4⟩), show (((m - 87 : Nat)) : Int) = (m : Int) - 97 + 10 by omega]
          refine X.fin ttok () [] trivial rfl rfl rfl hS5_ _ (by first | exact .inl rfl | exact .inr rfl)
        · rw [decide_eq_false (show ¬ ((m : Nat) : Int) ≤ 102 by omega)]
          refine sS_ ?_
          rw [if_neg (show ¬ (97 ≤ m ∧ m ≤ 102) by omega), decide_eq_false (show ¬ (97 ≤ m ∧ m ≤ 102) by omega)]
          refine X.fin ttok () [] trivial rfl rfl rfl hS5_ _ (by first | exact .inl rfl | exact .inr rfl)
      · rw [decide_eq_false (show ¬ (97 : Int) ≤ (m : Nat) by omega)]
        refine sS_ ?_
        rw [if_neg (show ¬ (97 ≤ m ∧ m ≤ 102) by omega), decide_eq_false (show ¬ (97 ≤ m ∧ m ≤ 102) by omega)]
        refine X.fin ttok () [] trivial rfl rfl rfl hS5_ _ (by first | exact .inl rfl | exact .inr rfl)
  · rw [decide_eq_false (show ¬ (48 : Int) ≤ (m : Nat) by omega)]
    have hn : ¬ (48 ≤ m ∧ m ≤ 57) := by omega
    rw [if_neg hn, decide_eq_false hn]
    refine sS_ ?_
    by_cases h3 : 97 ≤ m
    · rw [decide_eq_true (show (97 : Int) ≤ (m : Nat) by omega)]
      refine sS_ ?_
      by_cases h4 : m ≤ 102
      · rw [decide_eq_true (show ((m : Nat) : Int) ≤ 102 by omega)]
        refine sS_ ?_
        rw [if_pos (show 97 ≤ m ∧ m ≤ 102 from ⟨h3, h4⟩), decide_eq_true (show 97 ≤ m ∧ m ≤ 102 from ⟨h3, h4⟩), show (((m - 87 : Nat)) : Int) = (m : Int) - 97 + 10 by omega]
        refine X.fin ttok () [] trivial rfl rfl rfl hS5_ _ (by first | exact .inl rfl | exact .inr rfl)
      · rw [decide_eq_false (show ¬ ((m : Nat) : Int) ≤ 102 by omega)]
        refine sS_ ?_
        rw [if_neg (show ¬ (97 ≤ m ∧ m ≤ 102) by omega), decide_eq_false (show ¬ (97 ≤ m ∧ m ≤ 102) by omega)]
        refine X.fin ttok () [] trivial rfl rfl rfl hS5_ _ (by first | exact .inl rfl | exact .inr rfl)
    · rw [decide_eq_false (show ¬ (97 : Int) ≤ (m : Nat) by omega)]
      refine sS_ ?_
      rw [if_neg (show ¬ (97 ≤ m ∧ m ≤ 102) by omega), decide_eq_false (show ¬ (97 ≤ m ∧ m ≤ 102) by omega)]
      refine X.fin ttok () [] trivial rfl rfl rfl hS5_ _ (by first | exact .inl rfl | exact .inr rfl)
theorem all_take {l : List UInt8} {i : Nat} (hi : l.length ≤ i) (h : ∀ j, j < i → digB (l.getD j 0) = true) : l.all digB = true := by
  rw [List.all_eq_true]
  intro x hx
  obtain ⟨j, hj, rfl⟩ := List.mem_iff_getElem.1 hx
  have := h j (by omega)
  rwa [List.getD_eq_getElem?_getD, List.getElem?_eq_getElem hj] at this
theorem not_all {l : List UInt8} {i : Nat} (hi : i < l.length) (h : digB (l.getD i 0) = false) : digS l = false := by
  have : l.all digB = false := by
    cases hh : l.all digB with
    | false => rfl
    | true =>
      have := List.all_eq_true.1 hh _ (List.getElem_mem hi)
      rw [List.getD_eq_getElem?_getD, List.getElem?_eq_getElem hi] at h
      rw [← h]; exact this.symm
  unfold digS
  rw [this]; rfl
theorem decode_ascii {s : ByteArray} {i : Nat} (hlt : i < s.size) (h : ((strB s).getD i 0).toNat < 128) : Utf8.decode s i = (((strB s).getD i 0).toNat, 1) := by
  have e : (s.get! (i + 0)) = (strB s).getD i 0 := by
    rw [Nat.add_zero]
    show s.data[i]! = _
    unfold strB
    have h2 : i < s.data.size := hlt
    rw [List.getD_eq_getElem?_getD, getElem!_pos s.data i h2]
    simp only [Array.getElem?_toList]
    rw [Array.getElem?_eq_getElem h2]
    rfl
  unfold Utf8.decode
  dsimp only
  rw [if_pos (show (s.get! (i + 0)).toNat < 128 by rw [e]; exact h), e]
theorem neE (s : ByteArray) : decide (s.toList ≠ (⟨#[]⟩ : ByteArray).toList) = !(strB s).isEmpty := by
  rw [ByteArray.toList_eq, ByteArray.toList_eq]
  show decide (strB s ≠ []) = _
  cases strB s <;> simp
theorem eqE (s : ByteArray) : decide (s.toList = (⟨#[]⟩ : ByteArray).toList) = (strB s).isEmpty := by
  rw [ByteArray.toList_eq, ByteArray.toList_eq]
  show decide (strB s = []) = _
  cases strB s <;> simp
theorem eqL (s : ByteArray) (a : Array UInt8) : decide (s.toList = (⟨a⟩ : ByteArray).toList) = decide (strB s = a.toList) := by
  rw [ByteArray.toList_eq, ByteArray.toList_eq]
  rfl
theorem eqS (s t : ByteArray) : decide (s.toList = t.toList) = decide (strB s = strB t) := by
  rw [ByteArray.toList_eq, ByteArray.toList_eq]
  rfl
theorem neS (s t : ByteArray) : decide (s.toList ≠ t.toList) = decide (strB s ≠ strB t) := by
  rw [ByteArray.toList_eq, ByteArray.toList_eq]
  rfl
theorem hS7_ {P : Prop} (h : P := by repeat (first | exact HasH.nil | refine HasH.same rfl rfl rfl trivial ?_ | refine HasH.same rfl rfl rfl rfl ?_ | refine HasH.same rfl rfl rfl (fun _ _ => rfl) ?_)) : P := h
theorem hS9_ {P : Prop} (h : P := by repeat (first | exact HasT.nil | refine HasT.cons rfl rfl rfl ?_)) : P := h
theorem digits_spec (s : ByteArray) (hs : s.size ≤ 9223372036854775807) : Spec Tryz.prog 59 [.raw (.string s)] [] 0 (σ := Unit) (fun _ => True) (fun _ => .raw (.bool (digS (strB s)))) (fun _ => []) := by
  refine Spec.ofF Tryz.func59 rfl Tryz.ntmps59 rfl (bdl_nil _) fun ρ w => ?_
  have hlen := strB_size s
  refine sS_ ?_
  refine R.rngS ttok rfl rfl rfl rfl rfl fun b hW hfs => ?_
  refine sS_ ?_
  refine C.loopG (σ := Nat) (L2 := 0) (fun i => i ≤ s.size ∧ ∀ j, j < i → digB ((strB s).getD j 0) = true) (fun _ => [(0, .raw (.string s)), (5, .raw (.pointer (some ⟨b, 0, none⟩)))]) (fun _ => []) (fun i => FF [] ρ w [] [⟨false, b, .stringIter s i⟩]) (fun i => s.size - i) [] 0 ⟨Nat.zero_le _, fun j h => absurd h (Nat.not_lt_zero j)⟩ rfl hS9_ hS7_ rfl (fun _ h => h) ?_
  rintro i ⟨hi, hd⟩
  refine sS_ ?_
  by_cases hlt : i < s.size
  · have hlt' : i < (strB s).length := by omega
    refine R.nxtS rfl hlt hfs hW rfl rfl ?_
    refine sS_ ?_
    refine R.sx ttok i rfl rfl rfl rfl rfl rfl hlt' ?_
    refine sS_ ?_
    have hdc : ((strB s).getD i 0).toNat < 128 → Utf8.decode s i = _ := decode_ascii hlt
    by_cases h1 : ((strB s).getD i 0).toNat < 48
    · have hno : digS (strB s) = false := not_all hlt' (by unfold digB; rw [decide_eq_false (by omega)]; rfl)
      rw [decide_eq_true (show (((s.data.toList.getD i 0).toNat : Nat) : Int) < 48 by have : (s.data.toList.getD i 0).toNat < 48 := h1; omega)]
      refine sS_ ?_
      rw [hno]
      refine X.finS ttok () [] trivial rfl rfl rfl hS5_ _ (by first | exact .inl rfl | exact .inr rfl)
    · rw [decide_eq_false (show ¬ (((s.data.toList.getD i 0).toNat : Nat) : Int) < 48 by have : ¬ (s.data.toList.getD i 0).toNat < 48 := h1; omega)]
      refine sS_ ?_
      refine R.sx ttok i rfl rfl rfl rfl rfl rfl hlt' ?_
      refine sS_ ?_
      by_cases h2 : ((strB s).getD i 0).toNat ≤ 57
      · rw [decide_eq_false (show ¬ (((s.data.toList.getD i 0).toNat : Nat) : Int) > 57 by have : (s.data.toList.getD i 0).toNat ≤ 57 := h2; omega)]
        rw [hdc (by omega)]
        refine sS_ ?_
        exact X.backG [] (i + 1) ⟨by omega, fun j hj => (by
          rcases Nat.lt_or_ge j i with h | h
          · exact hd j h
          · obtain rfl : j = i := by omega
            unfold digB
            rw [decide_eq_true h2, decide_eq_true (show 48 ≤ ((strB s).getD j 0).toNat by omega)]; rfl)⟩ (by omega) rfl hS9_ hS7_ rfl (fun _ h => h)
      · have hno : digS (strB s) = false := not_all hlt' (by unfold digB; rw [decide_eq_false h2, Bool.and_false])
        rw [decide_eq_true (show (((s.data.toList.getD i 0).toNat : Nat) : Int) > 57 by have : ¬ (s.data.toList.getD i 0).toNat ≤ 57 := h2; omega)]
        refine sS_ ?_
        rw [hno]
        refine X.finS ttok () [] trivial rfl rfl rfl hS5_ _ (by first | exact .inl rfl | exact .inr rfl)
  · refine R.nxtE rfl hlt rfl rfl ?_
    have hall := all_take (l := strB s) (by omega) hd
    refine sS_ ?_
    rw [neE]
    cases hl : strB s with
    | nil =>
      refine sS_ ?_
      refine X.finS ttok () [] trivial rfl rfl rfl hS5_ _ (by first | exact .inl rfl | exact .inr rfl)
    | cons x r =>
      have hgo : digS (x :: r) = (decide (x ≠ 48) || decide (x :: r = [48])) := by
        unfold digS
        rw [← hl, hall, hl]
        simp
      rw [hgo]
      refine sS_ ?_
      refine R.sx ttok 0 rfl rfl rfl rfl rfl rfl (by show 0 < (strB s).length; rw [hl]; simp) ?_
      rw [show s.data.toList.getD 0 0 = x by show (strB s).getD 0 0 = x; rw [hl]; rfl]
      refine sS_ ?_
      by_cases h48 : x = 48
      · subst h48
        rw [show decide ((((48 : UInt8).toNat : Nat) : Int) ≠ 48) = false from rfl, decide_eq_false (show ¬ ((48 : UInt8) ≠ 48) from fun h => h rfl)]
        rw [Bool.false_or]
        refine sS_ ?_
        rw [eqL, hl]
        refine sS_ ?_
        refine X.finS ttok () [] trivial rfl rfl rfl hS5_ _ (by first | exact .inl rfl | exact .inr rfl)
      · have hx48 : (((x.toNat : Nat) : Int) ≠ 48) := fun h => h48 (UInt8.toNat_inj.1 (show x.toNat = 48 by omega))
        rw [decide_eq_true hx48, decide_eq_true (show x ≠ 48 from h48), Bool.true_or]
        refine sS_ ?_
        refine X.finS ttok () [] trivial rfl rfl rfl hS5_ _ (by first | exact .inl rfl | exact .inr rfl)
end Go.Proofs.YtaieficgifingaaGreatDoor
