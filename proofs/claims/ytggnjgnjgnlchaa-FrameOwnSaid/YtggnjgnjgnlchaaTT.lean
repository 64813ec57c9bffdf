/- What the kernel has to know of the types: sizes, kinds, zero values. Written by a program (wip/gentt.py). -/
import Derived.Test.YtggnjgnjgnlchaaProg
import Derived.Test.YtggnjgnjgnlchaaK1
set_option maxRecDepth 100000
namespace Go.Proofs.Ytggnjgnjgnlchaa
def tt : List (Nat × TI) := [(1, ⟨1, 8, .fnc, [.nilFunc]⟩),
  (2, ⟨1, 8, (.int .i64), [.int .i64 0]⟩),
  (3, ⟨1, 8, (.int .i64), [.int .i64 0]⟩),
  (4, ⟨1, 1, .bool, [.bool false]⟩),
  (5, ⟨1, 1, (.int .u8), [.int .u8 0]⟩),
  (6, ⟨1, 1, (.int .u8), [.int .u8 0]⟩),
  (7, ⟨4, 24, (.st [(0, 2), (1, 3), (2, 4), (3, 6)]), [.int .i64 0, .int .i64 0, .bool false, .int .u8 0]⟩),
  (8, ⟨4, 24, (.st [(0, 2), (1, 3), (2, 4), (3, 6)]), [.int .i64 0, .int .i64 0, .bool false, .int .u8 0]⟩),
  (9, ⟨1, 16, .str, [.string ⟨#[]⟩]⟩),
  (10, ⟨1, 16, .str, [.string ⟨#[]⟩]⟩),
  (11, ⟨1, 16, .str, [.string ⟨#[]⟩]⟩),
  (12, ⟨1, 8, (.int .u64), [.int .u64 0]⟩),
  (13, ⟨2, 24, (.st [(0, 9), (1, 12)]), [.string ⟨#[]⟩, .int .u64 0]⟩),
  (14, ⟨2, 24, (.st [(0, 9), (1, 12)]), [.string ⟨#[]⟩, .int .u64 0]⟩),
  (15, ⟨1, 8, (.ptr 72), [.pointer none]⟩),
  (16, ⟨1, 8, (.ptr 75), [.pointer none]⟩),
  (17, ⟨1, 8, (.ptr 84), [.pointer none]⟩),
  (18, ⟨1, 8, (.st [(0, 17)]), [.pointer none]⟩),
  (19, ⟨1, 8, (.st [(0, 17)]), [.pointer none]⟩),
  (20, ⟨1, 16, .oth, [.nilIface]⟩),
  (21, ⟨1, 4, (.int .i32), [.int .i32 0]⟩),
  (22, ⟨1, 24, (.sl 5), [.slice none 0 0]⟩),
  (23, ⟨1, 8, .fnc, [.nilFunc]⟩),
  (24, ⟨1, 8, (.int .i64), [.int .i64 0]⟩),
  (26, ⟨1, 8, .fnc, [.nilFunc]⟩),
  (27, ⟨1, 8, .fnc, [.nilFunc]⟩),
  (29, ⟨1, 8, .fnc, [.nilFunc]⟩),
  (30, ⟨1, 8, .fnc, [.nilFunc]⟩),
  (31, ⟨1, 8, .fnc, [.nilFunc]⟩),
  (33, ⟨1, 8, .fnc, [.nilFunc]⟩),
  (34, ⟨1, 8, .fnc, [.nilFunc]⟩),
  (35, ⟨1, 24, (.sl 42), [.slice none 0 0]⟩),
  (36, ⟨1, 8, .fnc, [.nilFunc]⟩),
  (37, ⟨1, 8, .fnc, [.nilFunc]⟩),
  (38, ⟨1, 8, .fnc, [.nilFunc]⟩),
  (39, ⟨1, 8, .fnc, [.nilFunc]⟩),
  (40, ⟨1, 8, .fnc, [.nilFunc]⟩),
  (41, ⟨2, 32, (.st [(0, 3), (1, 22)]), [.int .i64 0, .slice none 0 0]⟩),
  (42, ⟨2, 32, (.st [(0, 3), (1, 22)]), [.int .i64 0, .slice none 0 0]⟩),
  (43, ⟨1, 8, .fnc, [.nilFunc]⟩),
  (45, ⟨1, 8, .fnc, [.nilFunc]⟩),
  (46, ⟨1, 8, .fnc, [.nilFunc]⟩),
  (47, ⟨1, 24, (.sl 22), [.slice none 0 0]⟩),
  (48, ⟨1, 8, .fnc, [.nilFunc]⟩),
  (49, ⟨1, 24, (.sl 3), [.slice none 0 0]⟩),
  (51, ⟨1, 8, .fnc, [.nilFunc]⟩),
  (52, ⟨1, 8, .fnc, [.nilFunc]⟩),
  (53, ⟨8, 8, (.arr 8 5), [.int .u8 0, .int .u8 0, .int .u8 0, .int .u8 0, .int .u8 0, .int .u8 0, .int .u8 0, .int .u8 0]⟩),
  (54, ⟨8, 8, (.arr 8 5), [.int .u8 0, .int .u8 0, .int .u8 0, .int .u8 0, .int .u8 0, .int .u8 0, .int .u8 0, .int .u8 0]⟩),
  (55, ⟨1, 8, .fnc, [.nilFunc]⟩),
  (56, ⟨1, 8, .fnc, [.nilFunc]⟩),
  (57, ⟨1, 8, .fnc, [.nilFunc]⟩),
  (58, ⟨1, 8, .fnc, [.nilFunc]⟩),
  (59, ⟨1, 8, .fnc, [.nilFunc]⟩),
  (60, ⟨1, 4, (.int .u32), [.int .u32 0]⟩),
  (61, ⟨1, 8, .fnc, [.nilFunc]⟩),
  (62, ⟨1, 8, .fnc, [.nilFunc]⟩),
  (63, ⟨1, 8, .fnc, [.nilFunc]⟩),
  (64, ⟨16, 64, (.arr 16 60), [.int .u32 0, .int .u32 0, .int .u32 0, .int .u32 0, .int .u32 0, .int .u32 0, .int .u32 0, .int .u32 0, .int .u32 0, .int .u32 0, .int .u32 0, .int .u32 0, .int .u32 0, .int .u32 0, .int .u32 0, .int .u32 0]⟩),
  (65, ⟨1, 8, .fnc, [.nilFunc]⟩),
  (66, ⟨1, 8, .fnc, [.nilFunc]⟩),
  (67, ⟨1, 8, (.ptr 64), [.pointer none]⟩),
  (68, ⟨1, 8, .fnc, [.nilFunc]⟩),
  (69, ⟨1, 8, (.int .u64), [.int .u64 0]⟩),
  (70, ⟨1, 8, .fnc, [.nilFunc]⟩),
  (71, ⟨4, 40, (.st [(0, 17), (1, 17), (2, 17), (3, 9)]), [.pointer none, .pointer none, .pointer none, .string ⟨#[]⟩]⟩),
  (72, ⟨4, 40, (.st [(0, 17), (1, 17), (2, 17), (3, 9)]), [.pointer none, .pointer none, .pointer none, .string ⟨#[]⟩]⟩),
  (73, ⟨0, 0, (.arr 0 16), []⟩),
  (74, ⟨0, 0, (.st [(0, 73)]), []⟩),
  (75, ⟨0, 0, (.st [(0, 73)]), []⟩),
  (76, ⟨1, 8, .fnc, [.nilFunc]⟩),
  (77, ⟨1, 1, (.int .u8), [.int .u8 0]⟩),
  (78, ⟨1, 1, (.int .u8), [.int .u8 0]⟩),
  (79, ⟨1, 8, .fnc, [.nilFunc]⟩),
  (80, ⟨1, 8, (.ptr 5), [.pointer none]⟩),
  (81, ⟨1, 4, (.int .i32), [.int .i32 0]⟩),
  (82, ⟨1, 4, (.int .i32), [.int .i32 0]⟩),
  (83, ⟨11, 48, (.st [(0, 12), (1, 12), (2, 60), (3, 77), (4, 5), (5, 5), (6, 78), (7, 79), (8, 80), (9, 81), (10, 82)]), [.int .u64 0, .int .u64 0, .int .u32 0, .int .u8 0, .int .u8 0, .int .u8 0, .int .u8 0, .nilFunc, .pointer none, .int .i32 0, .int .i32 0]⟩),
  (84, ⟨11, 48, (.st [(0, 12), (1, 12), (2, 60), (3, 77), (4, 5), (5, 5), (6, 78), (7, 79), (8, 80), (9, 81), (10, 82)]), [.int .u64 0, .int .u64 0, .int .u32 0, .int .u8 0, .int .u8 0, .int .u8 0, .int .u8 0, .nilFunc, .pointer none, .int .i32 0, .int .i32 0]⟩),
  (85, ⟨1, 8, .oth, [.pointer none]⟩)]
theorem tt_1 : TIok Try.prog 1 ⟨1, 8, .fnc, [.nilFunc]⟩ := ⟨⟨Try.t1, _, rfl, rfl, rfl, rfl, rfl, rfl⟩, ⟨_, rfl, ⟨_, _, _, rfl⟩⟩⟩
theorem tt_2 : TIok Try.prog 2 ⟨1, 8, (.int .i64), [.int .i64 0]⟩ := ⟨⟨Try.t2, _, rfl, rfl, rfl, rfl, rfl, rfl⟩, ⟨_, rfl, rfl⟩⟩
theorem tt_3 : TIok Try.prog 3 ⟨1, 8, (.int .i64), [.int .i64 0]⟩ := ⟨⟨Try.t3, _, rfl, rfl, rfl, rfl, rfl, rfl⟩, ⟨_, rfl, rfl⟩⟩
theorem tt_4 : TIok Try.prog 4 ⟨1, 1, .bool, [.bool false]⟩ := ⟨⟨Try.t4, _, rfl, rfl, rfl, rfl, rfl, rfl⟩, ⟨_, rfl, rfl⟩⟩
theorem tt_5 : TIok Try.prog 5 ⟨1, 1, (.int .u8), [.int .u8 0]⟩ := ⟨⟨Try.t5, _, rfl, rfl, rfl, rfl, rfl, rfl⟩, ⟨_, rfl, rfl⟩⟩
theorem tt_6 : TIok Try.prog 6 ⟨1, 1, (.int .u8), [.int .u8 0]⟩ := ⟨⟨Try.t6, _, rfl, rfl, rfl, rfl, rfl, rfl⟩, ⟨_, rfl, rfl⟩⟩
theorem tt_7 : TIok Try.prog 7 ⟨4, 24, (.st [(0, 2), (1, 3), (2, 4), (3, 6)]), [.int .i64 0, .int .i64 0, .bool false, .int .u8 0]⟩ := ⟨⟨Try.t7, _, rfl, rfl, rfl, rfl, rfl, rfl⟩, ⟨_, rfl, ⟨_, rfl, rfl⟩⟩⟩
theorem tt_8 : TIok Try.prog 8 ⟨4, 24, (.st [(0, 2), (1, 3), (2, 4), (3, 6)]), [.int .i64 0, .int .i64 0, .bool false, .int .u8 0]⟩ := ⟨⟨Try.t8, _, rfl, rfl, rfl, rfl, rfl, rfl⟩, ⟨_, rfl, ⟨_, rfl, rfl⟩⟩⟩
theorem tt_9 : TIok Try.prog 9 ⟨1, 16, .str, [.string ⟨#[]⟩]⟩ := ⟨⟨Try.t9, _, rfl, rfl, rfl, rfl, rfl, rfl⟩, ⟨_, rfl, rfl⟩⟩
theorem tt_10 : TIok Try.prog 10 ⟨1, 16, .str, [.string ⟨#[]⟩]⟩ := ⟨⟨Try.t10, _, rfl, rfl, rfl, rfl, rfl, rfl⟩, ⟨_, rfl, rfl⟩⟩
theorem tt_11 : TIok Try.prog 11 ⟨1, 16, .str, [.string ⟨#[]⟩]⟩ := ⟨⟨Try.t11, _, rfl, rfl, rfl, rfl, rfl, rfl⟩, ⟨_, rfl, rfl⟩⟩
theorem tt_12 : TIok Try.prog 12 ⟨1, 8, (.int .u64), [.int .u64 0]⟩ := ⟨⟨Try.t12, _, rfl, rfl, rfl, rfl, rfl, rfl⟩, ⟨_, rfl, rfl⟩⟩
theorem tt_13 : TIok Try.prog 13 ⟨2, 24, (.st [(0, 9), (1, 12)]), [.string ⟨#[]⟩, .int .u64 0]⟩ := ⟨⟨Try.t13, _, rfl, rfl, rfl, rfl, rfl, rfl⟩, ⟨_, rfl, ⟨_, rfl, rfl⟩⟩⟩
theorem tt_14 : TIok Try.prog 14 ⟨2, 24, (.st [(0, 9), (1, 12)]), [.string ⟨#[]⟩, .int .u64 0]⟩ := ⟨⟨Try.t14, _, rfl, rfl, rfl, rfl, rfl, rfl⟩, ⟨_, rfl, ⟨_, rfl, rfl⟩⟩⟩
theorem tt_15 : TIok Try.prog 15 ⟨1, 8, (.ptr 72), [.pointer none]⟩ := ⟨⟨Try.t15, _, rfl, rfl, rfl, rfl, rfl, rfl⟩, ⟨_, rfl, rfl⟩⟩
theorem tt_16 : TIok Try.prog 16 ⟨1, 8, (.ptr 75), [.pointer none]⟩ := ⟨⟨Try.t16, _, rfl, rfl, rfl, rfl, rfl, rfl⟩, ⟨_, rfl, rfl⟩⟩
theorem tt_17 : TIok Try.prog 17 ⟨1, 8, (.ptr 84), [.pointer none]⟩ := ⟨⟨Try.t17, _, rfl, rfl, rfl, rfl, rfl, rfl⟩, ⟨_, rfl, rfl⟩⟩
theorem tt_18 : TIok Try.prog 18 ⟨1, 8, (.st [(0, 17)]), [.pointer none]⟩ := ⟨⟨Try.t18, _, rfl, rfl, rfl, rfl, rfl, rfl⟩, ⟨_, rfl, ⟨_, rfl, rfl⟩⟩⟩
theorem tt_19 : TIok Try.prog 19 ⟨1, 8, (.st [(0, 17)]), [.pointer none]⟩ := ⟨⟨Try.t19, _, rfl, rfl, rfl, rfl, rfl, rfl⟩, ⟨_, rfl, ⟨_, rfl, rfl⟩⟩⟩
theorem tt_20 : TIok Try.prog 20 ⟨1, 16, .oth, [.nilIface]⟩ := ⟨⟨Try.t20, _, rfl, rfl, rfl, rfl, rfl, rfl⟩, ⟨_, rfl, rfl⟩⟩
theorem tt_21 : TIok Try.prog 21 ⟨1, 4, (.int .i32), [.int .i32 0]⟩ := ⟨⟨Try.t21, _, rfl, rfl, rfl, rfl, rfl, rfl⟩, ⟨_, rfl, rfl⟩⟩
theorem tt_22 : TIok Try.prog 22 ⟨1, 24, (.sl 5), [.slice none 0 0]⟩ := ⟨⟨Try.t22, _, rfl, rfl, rfl, rfl, rfl, rfl⟩, ⟨_, rfl, rfl⟩⟩
theorem tt_23 : TIok Try.prog 23 ⟨1, 8, .fnc, [.nilFunc]⟩ := ⟨⟨Try.t23, _, rfl, rfl, rfl, rfl, rfl, rfl⟩, ⟨_, rfl, ⟨_, _, _, rfl⟩⟩⟩
theorem tt_24 : TIok Try.prog 24 ⟨1, 8, (.int .i64), [.int .i64 0]⟩ := ⟨⟨Try.t24, _, rfl, rfl, rfl, rfl, rfl, rfl⟩, ⟨_, rfl, rfl⟩⟩
theorem tt_26 : TIok Try.prog 26 ⟨1, 8, .fnc, [.nilFunc]⟩ := ⟨⟨Try.t26, _, rfl, rfl, rfl, rfl, rfl, rfl⟩, ⟨_, rfl, ⟨_, _, _, rfl⟩⟩⟩
theorem tt_27 : TIok Try.prog 27 ⟨1, 8, .fnc, [.nilFunc]⟩ := ⟨⟨Try.t27, _, rfl, rfl, rfl, rfl, rfl, rfl⟩, ⟨_, rfl, ⟨_, _, _, rfl⟩⟩⟩
theorem tt_29 : TIok Try.prog 29 ⟨1, 8, .fnc, [.nilFunc]⟩ := ⟨⟨Try.t29, _, rfl, rfl, rfl, rfl, rfl, rfl⟩, ⟨_, rfl, ⟨_, _, _, rfl⟩⟩⟩
theorem tt_30 : TIok Try.prog 30 ⟨1, 8, .fnc, [.nilFunc]⟩ := ⟨⟨Try.t30, _, rfl, rfl, rfl, rfl, rfl, rfl⟩, ⟨_, rfl, ⟨_, _, _, rfl⟩⟩⟩
theorem tt_31 : TIok Try.prog 31 ⟨1, 8, .fnc, [.nilFunc]⟩ := ⟨⟨Try.t31, _, rfl, rfl, rfl, rfl, rfl, rfl⟩, ⟨_, rfl, ⟨_, _, _, rfl⟩⟩⟩
theorem tt_33 : TIok Try.prog 33 ⟨1, 8, .fnc, [.nilFunc]⟩ := ⟨⟨Try.t33, _, rfl, rfl, rfl, rfl, rfl, rfl⟩, ⟨_, rfl, ⟨_, _, _, rfl⟩⟩⟩
theorem tt_34 : TIok Try.prog 34 ⟨1, 8, .fnc, [.nilFunc]⟩ := ⟨⟨Try.t34, _, rfl, rfl, rfl, rfl, rfl, rfl⟩, ⟨_, rfl, ⟨_, _, _, rfl⟩⟩⟩
theorem tt_35 : TIok Try.prog 35 ⟨1, 24, (.sl 42), [.slice none 0 0]⟩ := ⟨⟨Try.t35, _, rfl, rfl, rfl, rfl, rfl, rfl⟩, ⟨_, rfl, rfl⟩⟩
theorem tt_36 : TIok Try.prog 36 ⟨1, 8, .fnc, [.nilFunc]⟩ := ⟨⟨Try.t36, _, rfl, rfl, rfl, rfl, rfl, rfl⟩, ⟨_, rfl, ⟨_, _, _, rfl⟩⟩⟩
theorem tt_37 : TIok Try.prog 37 ⟨1, 8, .fnc, [.nilFunc]⟩ := ⟨⟨Try.t37, _, rfl, rfl, rfl, rfl, rfl, rfl⟩, ⟨_, rfl, ⟨_, _, _, rfl⟩⟩⟩
theorem tt_38 : TIok Try.prog 38 ⟨1, 8, .fnc, [.nilFunc]⟩ := ⟨⟨Try.t38, _, rfl, rfl, rfl, rfl, rfl, rfl⟩, ⟨_, rfl, ⟨_, _, _, rfl⟩⟩⟩
theorem tt_39 : TIok Try.prog 39 ⟨1, 8, .fnc, [.nilFunc]⟩ := ⟨⟨Try.t39, _, rfl, rfl, rfl, rfl, rfl, rfl⟩, ⟨_, rfl, ⟨_, _, _, rfl⟩⟩⟩
theorem tt_40 : TIok Try.prog 40 ⟨1, 8, .fnc, [.nilFunc]⟩ := ⟨⟨Try.t40, _, rfl, rfl, rfl, rfl, rfl, rfl⟩, ⟨_, rfl, ⟨_, _, _, rfl⟩⟩⟩
theorem tt_41 : TIok Try.prog 41 ⟨2, 32, (.st [(0, 3), (1, 22)]), [.int .i64 0, .slice none 0 0]⟩ := ⟨⟨Try.t41, _, rfl, rfl, rfl, rfl, rfl, rfl⟩, ⟨_, rfl, ⟨_, rfl, rfl⟩⟩⟩
theorem tt_42 : TIok Try.prog 42 ⟨2, 32, (.st [(0, 3), (1, 22)]), [.int .i64 0, .slice none 0 0]⟩ := ⟨⟨Try.t42, _, rfl, rfl, rfl, rfl, rfl, rfl⟩, ⟨_, rfl, ⟨_, rfl, rfl⟩⟩⟩
theorem tt_43 : TIok Try.prog 43 ⟨1, 8, .fnc, [.nilFunc]⟩ := ⟨⟨Try.t43, _, rfl, rfl, rfl, rfl, rfl, rfl⟩, ⟨_, rfl, ⟨_, _, _, rfl⟩⟩⟩
theorem tt_45 : TIok Try.prog 45 ⟨1, 8, .fnc, [.nilFunc]⟩ := ⟨⟨Try.t45, _, rfl, rfl, rfl, rfl, rfl, rfl⟩, ⟨_, rfl, ⟨_, _, _, rfl⟩⟩⟩
theorem tt_46 : TIok Try.prog 46 ⟨1, 8, .fnc, [.nilFunc]⟩ := ⟨⟨Try.t46, _, rfl, rfl, rfl, rfl, rfl, rfl⟩, ⟨_, rfl, ⟨_, _, _, rfl⟩⟩⟩
theorem tt_47 : TIok Try.prog 47 ⟨1, 24, (.sl 22), [.slice none 0 0]⟩ := ⟨⟨Try.t47, _, rfl, rfl, rfl, rfl, rfl, rfl⟩, ⟨_, rfl, rfl⟩⟩
theorem tt_48 : TIok Try.prog 48 ⟨1, 8, .fnc, [.nilFunc]⟩ := ⟨⟨Try.t48, _, rfl, rfl, rfl, rfl, rfl, rfl⟩, ⟨_, rfl, ⟨_, _, _, rfl⟩⟩⟩
theorem tt_49 : TIok Try.prog 49 ⟨1, 24, (.sl 3), [.slice none 0 0]⟩ := ⟨⟨Try.t49, _, rfl, rfl, rfl, rfl, rfl, rfl⟩, ⟨_, rfl, rfl⟩⟩
theorem tt_51 : TIok Try.prog 51 ⟨1, 8, .fnc, [.nilFunc]⟩ := ⟨⟨Try.t51, _, rfl, rfl, rfl, rfl, rfl, rfl⟩, ⟨_, rfl, ⟨_, _, _, rfl⟩⟩⟩
theorem tt_52 : TIok Try.prog 52 ⟨1, 8, .fnc, [.nilFunc]⟩ := ⟨⟨Try.t52, _, rfl, rfl, rfl, rfl, rfl, rfl⟩, ⟨_, rfl, ⟨_, _, _, rfl⟩⟩⟩
theorem tt_53 : TIok Try.prog 53 ⟨8, 8, (.arr 8 5), [.int .u8 0, .int .u8 0, .int .u8 0, .int .u8 0, .int .u8 0, .int .u8 0, .int .u8 0, .int .u8 0]⟩ := ⟨⟨Try.t53, _, rfl, rfl, rfl, rfl, rfl, rfl⟩, ⟨_, rfl, rfl⟩⟩
theorem tt_54 : TIok Try.prog 54 ⟨8, 8, (.arr 8 5), [.int .u8 0, .int .u8 0, .int .u8 0, .int .u8 0, .int .u8 0, .int .u8 0, .int .u8 0, .int .u8 0]⟩ := ⟨⟨Try.t54, _, rfl, rfl, rfl, rfl, rfl, rfl⟩, ⟨_, rfl, rfl⟩⟩
theorem tt_55 : TIok Try.prog 55 ⟨1, 8, .fnc, [.nilFunc]⟩ := ⟨⟨Try.t55, _, rfl, rfl, rfl, rfl, rfl, rfl⟩, ⟨_, rfl, ⟨_, _, _, rfl⟩⟩⟩
theorem tt_56 : TIok Try.prog 56 ⟨1, 8, .fnc, [.nilFunc]⟩ := ⟨⟨Try.t56, _, rfl, rfl, rfl, rfl, rfl, rfl⟩, ⟨_, rfl, ⟨_, _, _, rfl⟩⟩⟩
theorem tt_57 : TIok Try.prog 57 ⟨1, 8, .fnc, [.nilFunc]⟩ := ⟨⟨Try.t57, _, rfl, rfl, rfl, rfl, rfl, rfl⟩, ⟨_, rfl, ⟨_, _, _, rfl⟩⟩⟩
theorem tt_58 : TIok Try.prog 58 ⟨1, 8, .fnc, [.nilFunc]⟩ := ⟨⟨Try.t58, _, rfl, rfl, rfl, rfl, rfl, rfl⟩, ⟨_, rfl, ⟨_, _, _, rfl⟩⟩⟩
theorem tt_59 : TIok Try.prog 59 ⟨1, 8, .fnc, [.nilFunc]⟩ := ⟨⟨Try.t59, _, rfl, rfl, rfl, rfl, rfl, rfl⟩, ⟨_, rfl, ⟨_, _, _, rfl⟩⟩⟩
theorem tt_60 : TIok Try.prog 60 ⟨1, 4, (.int .u32), [.int .u32 0]⟩ := ⟨⟨Try.t60, _, rfl, rfl, rfl, rfl, rfl, rfl⟩, ⟨_, rfl, rfl⟩⟩
theorem tt_61 : TIok Try.prog 61 ⟨1, 8, .fnc, [.nilFunc]⟩ := ⟨⟨Try.t61, _, rfl, rfl, rfl, rfl, rfl, rfl⟩, ⟨_, rfl, ⟨_, _, _, rfl⟩⟩⟩
theorem tt_62 : TIok Try.prog 62 ⟨1, 8, .fnc, [.nilFunc]⟩ := ⟨⟨Try.t62, _, rfl, rfl, rfl, rfl, rfl, rfl⟩, ⟨_, rfl, ⟨_, _, _, rfl⟩⟩⟩
theorem tt_63 : TIok Try.prog 63 ⟨1, 8, .fnc, [.nilFunc]⟩ := ⟨⟨Try.t63, _, rfl, rfl, rfl, rfl, rfl, rfl⟩, ⟨_, rfl, ⟨_, _, _, rfl⟩⟩⟩
theorem tt_64 : TIok Try.prog 64 ⟨16, 64, (.arr 16 60), [.int .u32 0, .int .u32 0, .int .u32 0, .int .u32 0, .int .u32 0, .int .u32 0, .int .u32 0, .int .u32 0, .int .u32 0, .int .u32 0, .int .u32 0, .int .u32 0, .int .u32 0, .int .u32 0, .int .u32 0, .int .u32 0]⟩ := ⟨⟨Try.t64, _, rfl, rfl, rfl, rfl, rfl, rfl⟩, ⟨_, rfl, rfl⟩⟩
theorem tt_65 : TIok Try.prog 65 ⟨1, 8, .fnc, [.nilFunc]⟩ := ⟨⟨Try.t65, _, rfl, rfl, rfl, rfl, rfl, rfl⟩, ⟨_, rfl, ⟨_, _, _, rfl⟩⟩⟩
theorem tt_66 : TIok Try.prog 66 ⟨1, 8, .fnc, [.nilFunc]⟩ := ⟨⟨Try.t66, _, rfl, rfl, rfl, rfl, rfl, rfl⟩, ⟨_, rfl, ⟨_, _, _, rfl⟩⟩⟩
theorem tt_67 : TIok Try.prog 67 ⟨1, 8, (.ptr 64), [.pointer none]⟩ := ⟨⟨Try.t67, _, rfl, rfl, rfl, rfl, rfl, rfl⟩, ⟨_, rfl, rfl⟩⟩
theorem tt_68 : TIok Try.prog 68 ⟨1, 8, .fnc, [.nilFunc]⟩ := ⟨⟨Try.t68, _, rfl, rfl, rfl, rfl, rfl, rfl⟩, ⟨_, rfl, ⟨_, _, _, rfl⟩⟩⟩
theorem tt_69 : TIok Try.prog 69 ⟨1, 8, (.int .u64), [.int .u64 0]⟩ := ⟨⟨Try.t69, _, rfl, rfl, rfl, rfl, rfl, rfl⟩, ⟨_, rfl, rfl⟩⟩
theorem tt_70 : TIok Try.prog 70 ⟨1, 8, .fnc, [.nilFunc]⟩ := ⟨⟨Try.t70, _, rfl, rfl, rfl, rfl, rfl, rfl⟩, ⟨_, rfl, ⟨_, _, _, rfl⟩⟩⟩
theorem tt_71 : TIok Try.prog 71 ⟨4, 40, (.st [(0, 17), (1, 17), (2, 17), (3, 9)]), [.pointer none, .pointer none, .pointer none, .string ⟨#[]⟩]⟩ := ⟨⟨Try.t71, _, rfl, rfl, rfl, rfl, rfl, rfl⟩, ⟨_, rfl, ⟨_, rfl, rfl⟩⟩⟩
theorem tt_72 : TIok Try.prog 72 ⟨4, 40, (.st [(0, 17), (1, 17), (2, 17), (3, 9)]), [.pointer none, .pointer none, .pointer none, .string ⟨#[]⟩]⟩ := ⟨⟨Try.t72, _, rfl, rfl, rfl, rfl, rfl, rfl⟩, ⟨_, rfl, ⟨_, rfl, rfl⟩⟩⟩
theorem tt_73 : TIok Try.prog 73 ⟨0, 0, (.arr 0 16), []⟩ := ⟨⟨Try.t73, _, rfl, rfl, rfl, rfl, rfl, rfl⟩, ⟨_, rfl, rfl⟩⟩
theorem tt_74 : TIok Try.prog 74 ⟨0, 0, (.st [(0, 73)]), []⟩ := ⟨⟨Try.t74, _, rfl, rfl, rfl, rfl, rfl, rfl⟩, ⟨_, rfl, ⟨_, rfl, rfl⟩⟩⟩
theorem tt_75 : TIok Try.prog 75 ⟨0, 0, (.st [(0, 73)]), []⟩ := ⟨⟨Try.t75, _, rfl, rfl, rfl, rfl, rfl, rfl⟩, ⟨_, rfl, ⟨_, rfl, rfl⟩⟩⟩
theorem tt_76 : TIok Try.prog 76 ⟨1, 8, .fnc, [.nilFunc]⟩ := ⟨⟨Try.t76, _, rfl, rfl, rfl, rfl, rfl, rfl⟩, ⟨_, rfl, ⟨_, _, _, rfl⟩⟩⟩
theorem tt_77 : TIok Try.prog 77 ⟨1, 1, (.int .u8), [.int .u8 0]⟩ := ⟨⟨Try.t77, _, rfl, rfl, rfl, rfl, rfl, rfl⟩, ⟨_, rfl, rfl⟩⟩
theorem tt_78 : TIok Try.prog 78 ⟨1, 1, (.int .u8), [.int .u8 0]⟩ := ⟨⟨Try.t78, _, rfl, rfl, rfl, rfl, rfl, rfl⟩, ⟨_, rfl, rfl⟩⟩
theorem tt_79 : TIok Try.prog 79 ⟨1, 8, .fnc, [.nilFunc]⟩ := ⟨⟨Try.t79, _, rfl, rfl, rfl, rfl, rfl, rfl⟩, ⟨_, rfl, ⟨_, _, _, rfl⟩⟩⟩
theorem tt_80 : TIok Try.prog 80 ⟨1, 8, (.ptr 5), [.pointer none]⟩ := ⟨⟨Try.t80, _, rfl, rfl, rfl, rfl, rfl, rfl⟩, ⟨_, rfl, rfl⟩⟩
theorem tt_81 : TIok Try.prog 81 ⟨1, 4, (.int .i32), [.int .i32 0]⟩ := ⟨⟨Try.t81, _, rfl, rfl, rfl, rfl, rfl, rfl⟩, ⟨_, rfl, rfl⟩⟩
theorem tt_82 : TIok Try.prog 82 ⟨1, 4, (.int .i32), [.int .i32 0]⟩ := ⟨⟨Try.t82, _, rfl, rfl, rfl, rfl, rfl, rfl⟩, ⟨_, rfl, rfl⟩⟩
theorem tt_83 : TIok Try.prog 83 ⟨11, 48, (.st [(0, 12), (1, 12), (2, 60), (3, 77), (4, 5), (5, 5), (6, 78), (7, 79), (8, 80), (9, 81), (10, 82)]), [.int .u64 0, .int .u64 0, .int .u32 0, .int .u8 0, .int .u8 0, .int .u8 0, .int .u8 0, .nilFunc, .pointer none, .int .i32 0, .int .i32 0]⟩ := ⟨⟨Try.t83, _, rfl, rfl, rfl, rfl, rfl, rfl⟩, ⟨_, rfl, ⟨_, rfl, rfl⟩⟩⟩
theorem tt_84 : TIok Try.prog 84 ⟨11, 48, (.st [(0, 12), (1, 12), (2, 60), (3, 77), (4, 5), (5, 5), (6, 78), (7, 79), (8, 80), (9, 81), (10, 82)]), [.int .u64 0, .int .u64 0, .int .u32 0, .int .u8 0, .int .u8 0, .int .u8 0, .int .u8 0, .nilFunc, .pointer none, .int .i32 0, .int .i32 0]⟩ := ⟨⟨Try.t84, _, rfl, rfl, rfl, rfl, rfl, rfl⟩, ⟨_, rfl, ⟨_, rfl, rfl⟩⟩⟩
theorem tt_85 : TIok Try.prog 85 ⟨1, 8, .oth, [.pointer none]⟩ := ⟨⟨Try.t85, _, rfl, rfl, rfl, rfl, rfl, rfl⟩, ⟨_, rfl, rfl⟩⟩
theorem ttok : TTok Try.prog tt :=
  TTok.cons tt_1 (TTok.cons tt_2 (TTok.cons tt_3 (TTok.cons tt_4 (TTok.cons tt_5 (TTok.cons tt_6 (TTok.cons tt_7 (TTok.cons tt_8 (TTok.cons tt_9 (TTok.cons tt_10 (TTok.cons tt_11 (TTok.cons tt_12 (TTok.cons tt_13 (TTok.cons tt_14 (TTok.cons tt_15 (TTok.cons tt_16 (TTok.cons tt_17 (TTok.cons tt_18 (TTok.cons tt_19 (TTok.cons tt_20 (TTok.cons tt_21 (TTok.cons tt_22 (TTok.cons tt_23 (TTok.cons tt_24 (TTok.cons tt_26 (TTok.cons tt_27 (TTok.cons tt_29 (TTok.cons tt_30 (TTok.cons tt_31 (TTok.cons tt_33 (TTok.cons tt_34 (TTok.cons tt_35 (TTok.cons tt_36 (TTok.cons tt_37 (TTok.cons tt_38 (TTok.cons tt_39 (TTok.cons tt_40 (TTok.cons tt_41 (TTok.cons tt_42 (TTok.cons tt_43 (TTok.cons tt_45 (TTok.cons tt_46 (TTok.cons tt_47 (TTok.cons tt_48 (TTok.cons tt_49 (TTok.cons tt_51 (TTok.cons tt_52 (TTok.cons tt_53 (TTok.cons tt_54 (TTok.cons tt_55 (TTok.cons tt_56 (TTok.cons tt_57 (TTok.cons tt_58 (TTok.cons tt_59 (TTok.cons tt_60 (TTok.cons tt_61 (TTok.cons tt_62 (TTok.cons tt_63 (TTok.cons tt_64 (TTok.cons tt_65 (TTok.cons tt_66 (TTok.cons tt_67 (TTok.cons tt_68 (TTok.cons tt_69 (TTok.cons tt_70 (TTok.cons tt_71 (TTok.cons tt_72 (TTok.cons tt_73 (TTok.cons tt_74 (TTok.cons tt_75 (TTok.cons tt_76 (TTok.cons tt_77 (TTok.cons tt_78 (TTok.cons tt_79 (TTok.cons tt_80 (TTok.cons tt_81 (TTok.cons tt_82 (TTok.cons tt_83 (TTok.cons tt_84 (TTok.cons tt_85 (TTok.nil _))))))))))))))))))))))))))))))))))))))))))))))))))))))))))))))))))))))))))))))))
end Go.Proofs.Ytggnjgnjgnlchaa
