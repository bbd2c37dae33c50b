/- The table of types of this translation, and that it is right. Written by program (mktt.py). No condition. -/
import Derived.Test.YtnlkffccobdbjaaGreatXA
import Derived.Test.YtnlkffccobdbjaaGreatProg
namespace Go.Dw
open Go Go.RowKit Go.Proofs
def tt : List (Nat × TI) := [
  (3, ⟨.int .i64, 1, 8, [.int .i64 0]⟩),
  (4, ⟨.bool, 1, 1, [.bool false]⟩),
  (28, ⟨.sl 3, 1, 24, [.slice none 0 0]⟩),
  (1, ⟨.other, 1, 8, [.nilFunc]⟩),
  (25, ⟨.st [(0, 22), (1, 23)], 2, 48, [.slice none 0 0, .slice none 0 0]⟩),
  (2, ⟨.int .i64, 1, 8, [.int .i64 0]⟩),
  (31, ⟨.int .i64, 1, 8, [.int .i64 0]⟩),
  (5, ⟨.int .u8, 1, 1, [.int .u8 0]⟩),
  (38, ⟨.sl 52, 1, 24, [.slice none 0 0]⟩),
  (6, ⟨.int .u8, 1, 1, [.int .u8 0]⟩),
  (7, ⟨.st [(0, 2), (1, 3), (2, 4), (3, 6)], 4, 24, [.int .i64 0, .int .i64 0, .bool false, .int .u8 0]⟩),
  (132, ⟨.sl 164, 1, 24, [.slice none 0 0]⟩),
  (8, ⟨.st [(0, 2), (1, 3), (2, 4), (3, 6)], 4, 24, [.int .i64 0, .int .i64 0, .bool false, .int .u8 0]⟩),
  (9, ⟨.str, 1, 16, [.string ⟨#[]⟩]⟩),
  (22, ⟨.sl 64, 1, 24, [.slice none 0 0]⟩),
  (52, ⟨.st [(0, 3), (1, 3), (2, 3)], 3, 24, [.int .i64 0, .int .i64 0, .int .i64 0]⟩),
  (164, ⟨.st [(0, 3), (1, 3)], 2, 16, [.int .i64 0, .int .i64 0]⟩),
  (64, ⟨.st [(0, 9), (1, 3), (2, 9), (3, 28)], 4, 64, [.string ⟨#[]⟩, .int .i64 0, .string ⟨#[]⟩, .slice none 0 0]⟩),
  (10, ⟨.str, 1, 16, [.string ⟨#[]⟩]⟩),
  (30, ⟨.st [(0, 28), (1, 28), (2, 28)], 3, 72, [.slice none 0 0, .slice none 0 0, .slice none 0 0]⟩),
  (23, ⟨.sl 60, 1, 24, [.slice none 0 0]⟩),
  (129, ⟨.int .u64, 1, 8, [.int .u64 0]⟩),
  (101, ⟨.st [(0, 25), (2, 38), (3, 99), (4, 28)], 5, 120, [.slice none 0 0, .slice none 0 0, .slice none 0 0, .slice none 0 0, .slice none 0 0]⟩),
  (182, ⟨.other, 1, 8, [.nilFunc]⟩),
  (11, ⟨.str, 1, 16, [.string ⟨#[]⟩]⟩),
  (60, ⟨.st [(0, 9), (1, 58)], 2, 40, [.string ⟨#[]⟩, .slice none 0 0]⟩),
  (12, ⟨.int .u64, 1, 8, [.int .u64 0]⟩),
  (99, ⟨.sl 4, 1, 24, [.slice none 0 0]⟩),
  (58, ⟨.sl 9, 1, 24, [.slice none 0 0]⟩),
  (13, ⟨.st [(0, 9), (1, 12)], 2, 24, [.string ⟨#[]⟩, .int .u64 0]⟩),
  (15, ⟨.other, 1, 8, [.pointer none]⟩),
  (134, ⟨.st [(0, 3), (1, 132)], 2, 32, [.int .i64 0, .slice none 0 0]⟩),
  (111, ⟨.other, 1, 8, [.nilFunc]⟩),
  (114, ⟨.other, 1, 8, [.nilFunc]⟩),
  (19, ⟨.st [(0, 17)], 1, 8, [.pointer none]⟩),
  (149, ⟨.int .i64, 1, 8, [.int .i64 0]⟩),
  (180, ⟨.other, 1, 8, [.pointer none]⟩),
  (14, ⟨.st [(0, 9), (1, 12)], 2, 24, [.string ⟨#[]⟩, .int .u64 0]⟩),
  (96, ⟨.other, 1, 8, [.nilFunc]⟩),
  (26, ⟨.other, 1, 8, [.nilFunc]⟩),
  (16, ⟨.other, 1, 8, [.pointer none]⟩),
  (18, ⟨.st [(0, 17)], 1, 8, [.pointer none]⟩),
  (44, ⟨.sl 5, 1, 24, [.slice none 0 0]⟩),
  (153, ⟨.other, 1, 8, [.nilFunc]⟩),
  (176, ⟨.int .u64, 1, 8, [.int .u64 0]⟩),
  (93, ⟨.other, 1, 8, [.nilFunc]⟩),
  (98, ⟨.other, 1, 8, [.pointer none]⟩),
  (159, ⟨.int .u64, 1, 8, [.int .u64 0]⟩),
  (65, ⟨.other, 1, 8, [.nilFunc]⟩),
  (123, ⟨.other, 1, 8, [.map none]⟩),
  (17, ⟨.other, 1, 8, [.pointer none]⟩),
  (21, ⟨.int .i32, 1, 4, [.int .i32 0]⟩),
  (27, ⟨.other, 1, 8, [.nilFunc]⟩),
  (34, ⟨.other, 1, 8, [.nilFunc]⟩),
  (76, ⟨.other, 1, 8, [.nilFunc]⟩),
  (157, ⟨.int .u32, 1, 4, [.int .u32 0]⟩),
  (41, ⟨.other, 1, 8, [.nilFunc]⟩),
  (106, ⟨.other, 1, 8, [.nilFunc]⟩),
  (165, ⟨.sl 28, 1, 24, [.slice none 0 0]⟩),
  (42, ⟨.other, 1, 8, [.nilFunc]⟩),
  (116, ⟨.other, 1, 8, [.nilFunc]⟩),
  (140, ⟨.other, 1, 8, [.nilFunc]⟩),
  (161, ⟨.other, 1, 8, [.nilFunc]⟩),
  (171, ⟨.other, 1, 8, [.nilFunc]⟩),
  (186, ⟨.other, 1, 8, [.pointer none]⟩),
  (47, ⟨.other, 1, 8, [.nilFunc]⟩),
  (53, ⟨.other, 1, 8, [.nilFunc]⟩),
  (69, ⟨.other, 1, 8, [.nilFunc]⟩),
  (119, ⟨.other, 1, 8, [.nilFunc]⟩),
  (35, ⟨.other, 1, 8, [.nilFunc]⟩),
  (46, ⟨.other, 1, 8, [.nilFunc]⟩),
  (50, ⟨.other, 1, 8, [.nilFunc]⟩),
  (89, ⟨.other, 1, 8, [.nilFunc]⟩),
  (95, ⟨.other, 1, 8, [.nilFunc]⟩),
  (121, ⟨.other, 1, 8, [.nilFunc]⟩),
  (126, ⟨.other, 1, 8, [.nilFunc]⟩),
  (173, ⟨.other, 1, 8, [.nilFunc]⟩),
  (33, ⟨.other, 1, 8, [.nilFunc]⟩),
  (74, ⟨.other, 1, 8, [.nilFunc]⟩),
  (144, ⟨.other, 1, 8, [.nilFunc]⟩),
  (190, ⟨.other, 1, 8, [.nilFunc]⟩),
  (40, ⟨.other, 1, 8, [.nilFunc]⟩),
  (45, ⟨.other, 1, 8, [.nilFunc]⟩),
  (54, ⟨.other, 1, 8, [.nilFunc]⟩),
  (55, ⟨.other, 1, 8, [.nilFunc]⟩),
  (75, ⟨.other, 1, 8, [.nilFunc]⟩),
  (82, ⟨.other, 1, 8, [.nilFunc]⟩),
  (97, ⟨.other, 1, 8, [.nilFunc]⟩),
  (107, ⟨.other, 1, 8, [.nilFunc]⟩),
  (118, ⟨.other, 1, 8, [.nilFunc]⟩),
  (127, ⟨.other, 1, 8, [.nilFunc]⟩),
  (142, ⟨.other, 1, 8, [.nilFunc]⟩),
  (192, ⟨.other, 1, 8, [.nilFunc]⟩),
  (49, ⟨.other, 1, 8, [.nilFunc]⟩),
  (61, ⟨.other, 1, 8, [.nilFunc]⟩),
  (62, ⟨.other, 1, 8, [.nilFunc]⟩),
  (77, ⟨.other, 1, 8, [.nilFunc]⟩),
  (94, ⟨.other, 1, 8, [.nilFunc]⟩),
  (102, ⟨.other, 1, 8, [.nilFunc]⟩),
  (109, ⟨.other, 1, 8, [.nilFunc]⟩),
  (110, ⟨.other, 1, 8, [.nilFunc]⟩),
  (122, ⟨.other, 1, 8, [.nilFunc]⟩),
  (128, ⟨.other, 1, 8, [.nilFunc]⟩),
  (131, ⟨.other, 1, 8, [.nilFunc]⟩),
  (148, ⟨.other, 1, 8, [.nilFunc]⟩),
  (20, ⟨.other, 1, 16, [.nilIface]⟩),
  (36, ⟨.other, 1, 8, [.nilFunc]⟩),
  (78, ⟨.other, 1, 8, [.nilFunc]⟩),
  (79, ⟨.other, 1, 8, [.nilFunc]⟩),
  (88, ⟨.other, 1, 8, [.nilFunc]⟩),
  (91, ⟨.other, 1, 8, [.nilFunc]⟩),
  (108, ⟨.other, 1, 8, [.nilFunc]⟩),
  (112, ⟨.other, 1, 8, [.nilFunc]⟩),
  (135, ⟨.other, 1, 8, [.nilFunc]⟩),
  (158, ⟨.other, 1, 8, [.nilFunc]⟩),
  (177, ⟨.other, 1, 8, [.nilFunc]⟩),
  (179, ⟨.other, 1, 8, [.nilFunc]⟩),
  (184, ⟨.other, 1, 8, [.nilFunc]⟩),
  (188, ⟨.other, 1, 8, [.nilFunc]⟩),
  (197, ⟨.other, 1, 8, [.nilFunc]⟩),
  (199, ⟨.other, 1, 8, [.nilFunc]⟩),
  (57, ⟨.other, 1, 8, [.nilFunc]⟩),
  (67, ⟨.other, 1, 8, [.nilFunc]⟩),
  (70, ⟨.other, 1, 8, [.nilFunc]⟩),
  (72, ⟨.other, 1, 8, [.nilFunc]⟩),
  (80, ⟨.other, 1, 8, [.nilFunc]⟩),
  (86, ⟨.other, 1, 8, [.nilFunc]⟩),
  (92, ⟨.other, 1, 8, [.nilFunc]⟩),
  (103, ⟨.st [(0, 101), (5, 28), (6, 3), (7, 38), (8, 3)], 9, 184, [.slice none 0 0, .slice none 0 0, .slice none 0 0, .slice none 0 0, .slice none 0 0, .slice none 0 0, .int .i64 0, .slice none 0 0, .int .i64 0]⟩),
  (104, ⟨.st [(0, 101), (5, 28), (6, 3), (7, 38), (8, 3)], 9, 184, [.slice none 0 0, .slice none 0 0, .slice none 0 0, .slice none 0 0, .slice none 0 0, .slice none 0 0, .int .i64 0, .slice none 0 0, .int .i64 0]⟩),
  (105, ⟨.other, 1, 8, [.nilFunc]⟩),
  (113, ⟨.other, 1, 8, [.nilFunc]⟩),
  (115, ⟨.other, 1, 8, [.nilFunc]⟩),
  (117, ⟨.other, 1, 8, [.nilFunc]⟩),
  (138, ⟨.other, 1, 8, [.nilFunc]⟩),
  (143, ⟨.other, 1, 8, [.nilFunc]⟩),
  (145, ⟨.other, 1, 8, [.nilFunc]⟩),
  (152, ⟨.other, 1, 8, [.nilFunc]⟩),
  (160, ⟨.other, 1, 8, [.nilFunc]⟩),
  (162, ⟨.other, 1, 8, [.nilFunc]⟩),
  (168, ⟨.other, 1, 8, [.nilFunc]⟩),
  (169, ⟨.other, 1, 8, [.nilFunc]⟩),
  (170, ⟨.other, 1, 8, [.nilFunc]⟩),
  (172, ⟨.other, 1, 8, [.nilFunc]⟩),
  (178, ⟨.other, 1, 8, [.nilFunc]⟩),
  (181, ⟨.other, 1, 8, [.nilFunc]⟩),
  (183, ⟨.other, 1, 8, [.nilFunc]⟩),
  (194, ⟨.other, 1, 8, [.nilFunc]⟩),
  (198, ⟨.other, 1, 8, [.nilFunc]⟩),
  (208, ⟨.int .u8, 1, 1, [.int .u8 0]⟩),
  (24, ⟨.st [(0, 22), (1, 23)], 2, 48, [.slice none 0 0, .slice none 0 0]⟩),
  (37, ⟨.other, 1, 8, [.nilFunc]⟩),
  (56, ⟨.other, 1, 8, [.nilFunc]⟩),
  (59, ⟨.st [(0, 9), (1, 58)], 2, 40, [.string ⟨#[]⟩, .slice none 0 0]⟩),
  (68, ⟨.other, 1, 8, [.nilFunc]⟩),
  (71, ⟨.other, 1, 8, [.nilFunc]⟩),
  (84, ⟨.other, 1, 8, [.nilFunc]⟩),
  (87, ⟨.other, 1, 8, [.nilFunc]⟩),
  (120, ⟨.other, 1, 8, [.nilFunc]⟩),
  (124, ⟨.other, 1, 8, [.nilFunc]⟩),
  (125, ⟨.other, 1, 8, [.nilFunc]⟩),
  (130, ⟨.other, 1, 8, [.nilFunc]⟩),
  (133, ⟨.st [(0, 3), (1, 132)], 2, 32, [.int .i64 0, .slice none 0 0]⟩),
  (136, ⟨.other, 1, 8, [.nilFunc]⟩),
  (137, ⟨.other, 1, 8, [.nilFunc]⟩),
  (139, ⟨.other, 1, 8, [.nilFunc]⟩),
  (141, ⟨.other, 1, 8, [.nilFunc]⟩),
  (146, ⟨.other, 1, 8, [.nilFunc]⟩),
  (147, ⟨.other, 1, 8, [.nilFunc]⟩),
  (151, ⟨.other, 1, 8, [.nilFunc]⟩),
  (154, ⟨.other, 1, 8, [.nilFunc]⟩),
  (155, ⟨.other, 1, 8, [.nilFunc]⟩),
  (156, ⟨.other, 1, 8, [.nilFunc]⟩),
  (166, ⟨.other, 1, 8, [.nilFunc]⟩),
  (174, ⟨.other, 1, 8, [.nilFunc]⟩),
  (175, ⟨.other, 1, 8, [.nilFunc]⟩),
  (185, ⟨.other, 1, 8, [.nilFunc]⟩),
  (189, ⟨.other, 1, 8, [.nilFunc]⟩),
  (191, ⟨.other, 1, 8, [.nilFunc]⟩),
  (193, ⟨.other, 1, 8, [.nilFunc]⟩),
  (195, ⟨.other, 1, 8, [.nilFunc]⟩),
  (196, ⟨.other, 1, 8, [.nilFunc]⟩),
  (200, ⟨.other, 1, 8, [.nilFunc]⟩),
  (201, ⟨.st [(0, 17), (1, 17), (2, 17), (3, 9)], 4, 40, [.pointer none, .pointer none, .pointer none, .string ⟨#[]⟩]⟩),
  (202, ⟨.st [(0, 17), (1, 17), (2, 17), (3, 9)], 4, 40, [.pointer none, .pointer none, .pointer none, .string ⟨#[]⟩]⟩),
  (205, ⟨.st [(0, 203)], 0, 0, []⟩),
  (206, ⟨.other, 1, 8, [.nilFunc]⟩),
  (207, ⟨.int .u8, 1, 1, [.int .u8 0]⟩),
  (210, ⟨.other, 1, 8, [.pointer none]⟩),
  (211, ⟨.int .i32, 1, 4, [.int .i32 0]⟩),
  (212, ⟨.int .i32, 1, 4, [.int .i32 0]⟩),
  (213, ⟨.st [(0, 12), (1, 12), (2, 157), (3, 207), (4, 5), (5, 5), (6, 208), (7, 209), (8, 210), (9, 211), (10, 212)], 11, 48, [.int .u64 0, .int .u64 0, .int .u32 0, .int .u8 0, .int .u8 0, .int .u8 0, .int .u8 0, .nilFunc, .pointer none, .int .i32 0, .int .i32 0]⟩),
  (214, ⟨.st [(0, 12), (1, 12), (2, 157), (3, 207), (4, 5), (5, 5), (6, 208), (7, 209), (8, 210), (9, 211), (10, 212)], 11, 48, [.int .u64 0, .int .u64 0, .int .u32 0, .int .u8 0, .int .u8 0, .int .u8 0, .int .u8 0, .nilFunc, .pointer none, .int .i32 0, .int .i32 0]⟩),
  (215, ⟨.other, 1, 8, [.pointer none]⟩),
  (29, ⟨.st [(0, 28), (1, 28), (2, 28)], 3, 72, [.slice none 0 0, .slice none 0 0, .slice none 0 0]⟩),
  (43, ⟨.sl 5, 1, 24, [.slice none 0 0]⟩),
  (51, ⟨.st [(0, 3), (1, 3), (2, 3)], 3, 24, [.int .i64 0, .int .i64 0, .int .i64 0]⟩),
  (63, ⟨.st [(0, 9), (1, 3), (2, 9), (3, 28)], 4, 64, [.string ⟨#[]⟩, .int .i64 0, .string ⟨#[]⟩, .slice none 0 0]⟩),
  (66, ⟨.other, 1, 8, [.nilFunc]⟩),
  (81, ⟨.other, 1, 8, [.nilFunc]⟩),
  (100, ⟨.st [(0, 25), (2, 38), (3, 99), (4, 28)], 5, 120, [.slice none 0 0, .slice none 0 0, .slice none 0 0, .slice none 0 0, .slice none 0 0]⟩),
  (163, ⟨.st [(0, 3), (1, 3)], 2, 16, [.int .i64 0, .int .i64 0]⟩),
  (203, ⟨.ar 0 16, 0, 0, []⟩),
  (204, ⟨.st [(0, 203)], 0, 0, []⟩),
  (209, ⟨.other, 1, 8, [.nilFunc]⟩)]
theorem tg3 : GoodT Tryz.prog 3 ⟨.int .i64, 1, 8, [.int .i64 0]⟩ := ⟨⟨Tryz.t3, by kernel_rfl, by kernel_rfl, by kernel_rfl, _, rfl, by kernel_rfl, by kernel_rfl⟩, Tryz.underlying3⟩
theorem tg4 : GoodT Tryz.prog 4 ⟨.bool, 1, 1, [.bool false]⟩ := ⟨⟨Tryz.t4, by kernel_rfl, by kernel_rfl, by kernel_rfl, _, rfl, by kernel_rfl, by kernel_rfl⟩, Tryz.underlying4⟩
theorem tg28 : GoodT Tryz.prog 28 ⟨.sl 3, 1, 24, [.slice none 0 0]⟩ := ⟨⟨Tryz.t28, by kernel_rfl, by kernel_rfl, by kernel_rfl, _, rfl, by kernel_rfl, by kernel_rfl⟩, Tryz.underlying28⟩
theorem tg1 : GoodT Tryz.prog 1 ⟨.other, 1, 8, [.nilFunc]⟩ := ⟨⟨Tryz.t1, by kernel_rfl, by kernel_rfl, by kernel_rfl, _, rfl, by kernel_rfl, by kernel_rfl⟩, ⟨_, Tryz.underlying1, rfl⟩⟩
theorem tg25 : GoodT Tryz.prog 25 ⟨.st [(0, 22), (1, 23)], 2, 48, [.slice none 0 0, .slice none 0 0]⟩ := ⟨⟨Tryz.t25, by kernel_rfl, by kernel_rfl, by kernel_rfl, _, rfl, by kernel_rfl, by kernel_rfl⟩, ⟨_, Tryz.underlying25, rfl⟩⟩
theorem tg2 : GoodT Tryz.prog 2 ⟨.int .i64, 1, 8, [.int .i64 0]⟩ := ⟨⟨Tryz.t2, by kernel_rfl, by kernel_rfl, by kernel_rfl, _, rfl, by kernel_rfl, by kernel_rfl⟩, Tryz.underlying2⟩
theorem tg31 : GoodT Tryz.prog 31 ⟨.int .i64, 1, 8, [.int .i64 0]⟩ := ⟨⟨Tryz.t31, by kernel_rfl, by kernel_rfl, by kernel_rfl, _, rfl, by kernel_rfl, by kernel_rfl⟩, Tryz.underlying31⟩
theorem tg5 : GoodT Tryz.prog 5 ⟨.int .u8, 1, 1, [.int .u8 0]⟩ := ⟨⟨Tryz.t5, by kernel_rfl, by kernel_rfl, by kernel_rfl, _, rfl, by kernel_rfl, by kernel_rfl⟩, Tryz.underlying5⟩
theorem tg38 : GoodT Tryz.prog 38 ⟨.sl 52, 1, 24, [.slice none 0 0]⟩ := ⟨⟨Tryz.t38, by kernel_rfl, by kernel_rfl, by kernel_rfl, _, rfl, by kernel_rfl, by kernel_rfl⟩, Tryz.underlying38⟩
theorem tg6 : GoodT Tryz.prog 6 ⟨.int .u8, 1, 1, [.int .u8 0]⟩ := ⟨⟨Tryz.t6, by kernel_rfl, by kernel_rfl, by kernel_rfl, _, rfl, by kernel_rfl, by kernel_rfl⟩, Tryz.underlying6⟩
theorem tg7 : GoodT Tryz.prog 7 ⟨.st [(0, 2), (1, 3), (2, 4), (3, 6)], 4, 24, [.int .i64 0, .int .i64 0, .bool false, .int .u8 0]⟩ := ⟨⟨Tryz.t7, by kernel_rfl, by kernel_rfl, by kernel_rfl, _, rfl, by kernel_rfl, by kernel_rfl⟩, ⟨_, Tryz.underlying7, rfl⟩⟩
theorem tg132 : GoodT Tryz.prog 132 ⟨.sl 164, 1, 24, [.slice none 0 0]⟩ := ⟨⟨Tryz.t132, by kernel_rfl, by kernel_rfl, by kernel_rfl, _, rfl, by kernel_rfl, by kernel_rfl⟩, Tryz.underlying132⟩
theorem tg8 : GoodT Tryz.prog 8 ⟨.st [(0, 2), (1, 3), (2, 4), (3, 6)], 4, 24, [.int .i64 0, .int .i64 0, .bool false, .int .u8 0]⟩ := ⟨⟨Tryz.t8, by kernel_rfl, by kernel_rfl, by kernel_rfl, _, rfl, by kernel_rfl, by kernel_rfl⟩, ⟨_, Tryz.underlying8, rfl⟩⟩
theorem tg9 : GoodT Tryz.prog 9 ⟨.str, 1, 16, [.string ⟨#[]⟩]⟩ := ⟨⟨Tryz.t9, by kernel_rfl, by kernel_rfl, by kernel_rfl, _, rfl, by kernel_rfl, by kernel_rfl⟩, Tryz.underlying9⟩
theorem tg22 : GoodT Tryz.prog 22 ⟨.sl 64, 1, 24, [.slice none 0 0]⟩ := ⟨⟨Tryz.t22, by kernel_rfl, by kernel_rfl, by kernel_rfl, _, rfl, by kernel_rfl, by kernel_rfl⟩, Tryz.underlying22⟩
theorem tg52 : GoodT Tryz.prog 52 ⟨.st [(0, 3), (1, 3), (2, 3)], 3, 24, [.int .i64 0, .int .i64 0, .int .i64 0]⟩ := ⟨⟨Tryz.t52, by kernel_rfl, by kernel_rfl, by kernel_rfl, _, rfl, by kernel_rfl, by kernel_rfl⟩, ⟨_, Tryz.underlying52, rfl⟩⟩
theorem tg164 : GoodT Tryz.prog 164 ⟨.st [(0, 3), (1, 3)], 2, 16, [.int .i64 0, .int .i64 0]⟩ := ⟨⟨Tryz.t164, by kernel_rfl, by kernel_rfl, by kernel_rfl, _, rfl, by kernel_rfl, by kernel_rfl⟩, ⟨_, Tryz.underlying164, rfl⟩⟩
theorem tg64 : GoodT Tryz.prog 64 ⟨.st [(0, 9), (1, 3), (2, 9), (3, 28)], 4, 64, [.string ⟨#[]⟩, .int .i64 0, .string ⟨#[]⟩, .slice none 0 0]⟩ := ⟨⟨Tryz.t64, by kernel_rfl, by kernel_rfl, by kernel_rfl, _, rfl, by kernel_rfl, by kernel_rfl⟩, ⟨_, Tryz.underlying64, rfl⟩⟩
theorem tg10 : GoodT Tryz.prog 10 ⟨.str, 1, 16, [.string ⟨#[]⟩]⟩ := ⟨⟨Tryz.t10, by kernel_rfl, by kernel_rfl, by kernel_rfl, _, rfl, by kernel_rfl, by kernel_rfl⟩, Tryz.underlying10⟩
theorem tg30 : GoodT Tryz.prog 30 ⟨.st [(0, 28), (1, 28), (2, 28)], 3, 72, [.slice none 0 0, .slice none 0 0, .slice none 0 0]⟩ := ⟨⟨Tryz.t30, by kernel_rfl, by kernel_rfl, by kernel_rfl, _, rfl, by kernel_rfl, by kernel_rfl⟩, ⟨_, Tryz.underlying30, rfl⟩⟩
theorem tg23 : GoodT Tryz.prog 23 ⟨.sl 60, 1, 24, [.slice none 0 0]⟩ := ⟨⟨Tryz.t23, by kernel_rfl, by kernel_rfl, by kernel_rfl, _, rfl, by kernel_rfl, by kernel_rfl⟩, Tryz.underlying23⟩
theorem tg129 : GoodT Tryz.prog 129 ⟨.int .u64, 1, 8, [.int .u64 0]⟩ := ⟨⟨Tryz.t129, by kernel_rfl, by kernel_rfl, by kernel_rfl, _, rfl, by kernel_rfl, by kernel_rfl⟩, Tryz.underlying129⟩
theorem tg101 : GoodT Tryz.prog 101 ⟨.st [(0, 25), (2, 38), (3, 99), (4, 28)], 5, 120, [.slice none 0 0, .slice none 0 0, .slice none 0 0, .slice none 0 0, .slice none 0 0]⟩ := ⟨⟨Tryz.t101, by kernel_rfl, by kernel_rfl, by kernel_rfl, _, rfl, by kernel_rfl, by kernel_rfl⟩, ⟨_, Tryz.underlying101, rfl⟩⟩
theorem tg182 : GoodT Tryz.prog 182 ⟨.other, 1, 8, [.nilFunc]⟩ := ⟨⟨Tryz.t182, by kernel_rfl, by kernel_rfl, by kernel_rfl, _, rfl, by kernel_rfl, by kernel_rfl⟩, ⟨_, Tryz.underlying182, rfl⟩⟩
theorem tg11 : GoodT Tryz.prog 11 ⟨.str, 1, 16, [.string ⟨#[]⟩]⟩ := ⟨⟨Tryz.t11, by kernel_rfl, by kernel_rfl, by kernel_rfl, _, rfl, by kernel_rfl, by kernel_rfl⟩, Tryz.underlying11⟩
theorem tg60 : GoodT Tryz.prog 60 ⟨.st [(0, 9), (1, 58)], 2, 40, [.string ⟨#[]⟩, .slice none 0 0]⟩ := ⟨⟨Tryz.t60, by kernel_rfl, by kernel_rfl, by kernel_rfl, _, rfl, by kernel_rfl, by kernel_rfl⟩, ⟨_, Tryz.underlying60, rfl⟩⟩
theorem tg12 : GoodT Tryz.prog 12 ⟨.int .u64, 1, 8, [.int .u64 0]⟩ := ⟨⟨Tryz.t12, by kernel_rfl, by kernel_rfl, by kernel_rfl, _, rfl, by kernel_rfl, by kernel_rfl⟩, Tryz.underlying12⟩
theorem tg99 : GoodT Tryz.prog 99 ⟨.sl 4, 1, 24, [.slice none 0 0]⟩ := ⟨⟨Tryz.t99, by kernel_rfl, by kernel_rfl, by kernel_rfl, _, rfl, by kernel_rfl, by kernel_rfl⟩, Tryz.underlying99⟩
theorem tg58 : GoodT Tryz.prog 58 ⟨.sl 9, 1, 24, [.slice none 0 0]⟩ := ⟨⟨Tryz.t58, by kernel_rfl, by kernel_rfl, by kernel_rfl, _, rfl, by kernel_rfl, by kernel_rfl⟩, Tryz.underlying58⟩
theorem tg13 : GoodT Tryz.prog 13 ⟨.st [(0, 9), (1, 12)], 2, 24, [.string ⟨#[]⟩, .int .u64 0]⟩ := ⟨⟨Tryz.t13, by kernel_rfl, by kernel_rfl, by kernel_rfl, _, rfl, by kernel_rfl, by kernel_rfl⟩, ⟨_, Tryz.underlying13, rfl⟩⟩
theorem tg15 : GoodT Tryz.prog 15 ⟨.other, 1, 8, [.pointer none]⟩ := ⟨⟨Tryz.t15, by kernel_rfl, by kernel_rfl, by kernel_rfl, _, rfl, by kernel_rfl, by kernel_rfl⟩, ⟨_, Tryz.underlying15, rfl⟩⟩
theorem tg134 : GoodT Tryz.prog 134 ⟨.st [(0, 3), (1, 132)], 2, 32, [.int .i64 0, .slice none 0 0]⟩ := ⟨⟨Tryz.t134, by kernel_rfl, by kernel_rfl, by kernel_rfl, _, rfl, by kernel_rfl, by kernel_rfl⟩, ⟨_, Tryz.underlying134, rfl⟩⟩
theorem tg111 : GoodT Tryz.prog 111 ⟨.other, 1, 8, [.nilFunc]⟩ := ⟨⟨Tryz.t111, by kernel_rfl, by kernel_rfl, by kernel_rfl, _, rfl, by kernel_rfl, by kernel_rfl⟩, ⟨_, Tryz.underlying111, rfl⟩⟩
theorem tg114 : GoodT Tryz.prog 114 ⟨.other, 1, 8, [.nilFunc]⟩ := ⟨⟨Tryz.t114, by kernel_rfl, by kernel_rfl, by kernel_rfl, _, rfl, by kernel_rfl, by kernel_rfl⟩, ⟨_, Tryz.underlying114, rfl⟩⟩
theorem tg19 : GoodT Tryz.prog 19 ⟨.st [(0, 17)], 1, 8, [.pointer none]⟩ := ⟨⟨Tryz.t19, by kernel_rfl, by kernel_rfl, by kernel_rfl, _, rfl, by kernel_rfl, by kernel_rfl⟩, ⟨_, Tryz.underlying19, rfl⟩⟩
theorem tg149 : GoodT Tryz.prog 149 ⟨.int .i64, 1, 8, [.int .i64 0]⟩ := ⟨⟨Tryz.t149, by kernel_rfl, by kernel_rfl, by kernel_rfl, _, rfl, by kernel_rfl, by kernel_rfl⟩, Tryz.underlying149⟩
theorem tg180 : GoodT Tryz.prog 180 ⟨.other, 1, 8, [.pointer none]⟩ := ⟨⟨Tryz.t180, by kernel_rfl, by kernel_rfl, by kernel_rfl, _, rfl, by kernel_rfl, by kernel_rfl⟩, ⟨_, Tryz.underlying180, rfl⟩⟩
theorem tg14 : GoodT Tryz.prog 14 ⟨.st [(0, 9), (1, 12)], 2, 24, [.string ⟨#[]⟩, .int .u64 0]⟩ := ⟨⟨Tryz.t14, by kernel_rfl, by kernel_rfl, by kernel_rfl, _, rfl, by kernel_rfl, by kernel_rfl⟩, ⟨_, Tryz.underlying14, rfl⟩⟩
theorem tg96 : GoodT Tryz.prog 96 ⟨.other, 1, 8, [.nilFunc]⟩ := ⟨⟨Tryz.t96, by kernel_rfl, by kernel_rfl, by kernel_rfl, _, rfl, by kernel_rfl, by kernel_rfl⟩, ⟨_, Tryz.underlying96, rfl⟩⟩
theorem tg26 : GoodT Tryz.prog 26 ⟨.other, 1, 8, [.nilFunc]⟩ := ⟨⟨Tryz.t26, by kernel_rfl, by kernel_rfl, by kernel_rfl, _, rfl, by kernel_rfl, by kernel_rfl⟩, ⟨_, Tryz.underlying26, rfl⟩⟩
theorem tg16 : GoodT Tryz.prog 16 ⟨.other, 1, 8, [.pointer none]⟩ := ⟨⟨Tryz.t16, by kernel_rfl, by kernel_rfl, by kernel_rfl, _, rfl, by kernel_rfl, by kernel_rfl⟩, ⟨_, Tryz.underlying16, rfl⟩⟩
theorem tg18 : GoodT Tryz.prog 18 ⟨.st [(0, 17)], 1, 8, [.pointer none]⟩ := ⟨⟨Tryz.t18, by kernel_rfl, by kernel_rfl, by kernel_rfl, _, rfl, by kernel_rfl, by kernel_rfl⟩, ⟨_, Tryz.underlying18, rfl⟩⟩
theorem tg44 : GoodT Tryz.prog 44 ⟨.sl 5, 1, 24, [.slice none 0 0]⟩ := ⟨⟨Tryz.t44, by kernel_rfl, by kernel_rfl, by kernel_rfl, _, rfl, by kernel_rfl, by kernel_rfl⟩, Tryz.underlying44⟩
theorem tg153 : GoodT Tryz.prog 153 ⟨.other, 1, 8, [.nilFunc]⟩ := ⟨⟨Tryz.t153, by kernel_rfl, by kernel_rfl, by kernel_rfl, _, rfl, by kernel_rfl, by kernel_rfl⟩, ⟨_, Tryz.underlying153, rfl⟩⟩
theorem tg176 : GoodT Tryz.prog 176 ⟨.int .u64, 1, 8, [.int .u64 0]⟩ := ⟨⟨Tryz.t176, by kernel_rfl, by kernel_rfl, by kernel_rfl, _, rfl, by kernel_rfl, by kernel_rfl⟩, Tryz.underlying176⟩
theorem tg93 : GoodT Tryz.prog 93 ⟨.other, 1, 8, [.nilFunc]⟩ := ⟨⟨Tryz.t93, by kernel_rfl, by kernel_rfl, by kernel_rfl, _, rfl, by kernel_rfl, by kernel_rfl⟩, ⟨_, Tryz.underlying93, rfl⟩⟩
theorem tg98 : GoodT Tryz.prog 98 ⟨.other, 1, 8, [.pointer none]⟩ := ⟨⟨Tryz.t98, by kernel_rfl, by kernel_rfl, by kernel_rfl, _, rfl, by kernel_rfl, by kernel_rfl⟩, ⟨_, Tryz.underlying98, rfl⟩⟩
theorem tg159 : GoodT Tryz.prog 159 ⟨.int .u64, 1, 8, [.int .u64 0]⟩ := ⟨⟨Tryz.t159, by kernel_rfl, by kernel_rfl, by kernel_rfl, _, rfl, by kernel_rfl, by kernel_rfl⟩, Tryz.underlying159⟩
theorem tg65 : GoodT Tryz.prog 65 ⟨.other, 1, 8, [.nilFunc]⟩ := ⟨⟨Tryz.t65, by kernel_rfl, by kernel_rfl, by kernel_rfl, _, rfl, by kernel_rfl, by kernel_rfl⟩, ⟨_, Tryz.underlying65, rfl⟩⟩
theorem tg123 : GoodT Tryz.prog 123 ⟨.other, 1, 8, [.map none]⟩ := ⟨⟨Tryz.t123, by kernel_rfl, by kernel_rfl, by kernel_rfl, _, rfl, by kernel_rfl, by kernel_rfl⟩, ⟨_, Tryz.underlying123, rfl⟩⟩
theorem tg17 : GoodT Tryz.prog 17 ⟨.other, 1, 8, [.pointer none]⟩ := ⟨⟨Tryz.t17, by kernel_rfl, by kernel_rfl, by kernel_rfl, _, rfl, by kernel_rfl, by kernel_rfl⟩, ⟨_, Tryz.underlying17, rfl⟩⟩
theorem tg21 : GoodT Tryz.prog 21 ⟨.int .i32, 1, 4, [.int .i32 0]⟩ := ⟨⟨Tryz.t21, by kernel_rfl, by kernel_rfl, by kernel_rfl, _, rfl, by kernel_rfl, by kernel_rfl⟩, Tryz.underlying21⟩
theorem tg27 : GoodT Tryz.prog 27 ⟨.other, 1, 8, [.nilFunc]⟩ := ⟨⟨Tryz.t27, by kernel_rfl, by kernel_rfl, by kernel_rfl, _, rfl, by kernel_rfl, by kernel_rfl⟩, ⟨_, Tryz.underlying27, rfl⟩⟩
theorem tg34 : GoodT Tryz.prog 34 ⟨.other, 1, 8, [.nilFunc]⟩ := ⟨⟨Tryz.t34, by kernel_rfl, by kernel_rfl, by kernel_rfl, _, rfl, by kernel_rfl, by kernel_rfl⟩, ⟨_, Tryz.underlying34, rfl⟩⟩
theorem tg76 : GoodT Tryz.prog 76 ⟨.other, 1, 8, [.nilFunc]⟩ := ⟨⟨Tryz.t76, by kernel_rfl, by kernel_rfl, by kernel_rfl, _, rfl, by kernel_rfl, by kernel_rfl⟩, ⟨_, Tryz.underlying76, rfl⟩⟩
theorem tg157 : GoodT Tryz.prog 157 ⟨.int .u32, 1, 4, [.int .u32 0]⟩ := ⟨⟨Tryz.t157, by kernel_rfl, by kernel_rfl, by kernel_rfl, _, rfl, by kernel_rfl, by kernel_rfl⟩, Tryz.underlying157⟩
theorem tg41 : GoodT Tryz.prog 41 ⟨.other, 1, 8, [.nilFunc]⟩ := ⟨⟨Tryz.t41, by kernel_rfl, by kernel_rfl, by kernel_rfl, _, rfl, by kernel_rfl, by kernel_rfl⟩, ⟨_, Tryz.underlying41, rfl⟩⟩
theorem tg106 : GoodT Tryz.prog 106 ⟨.other, 1, 8, [.nilFunc]⟩ := ⟨⟨Tryz.t106, by kernel_rfl, by kernel_rfl, by kernel_rfl, _, rfl, by kernel_rfl, by kernel_rfl⟩, ⟨_, Tryz.underlying106, rfl⟩⟩
theorem tg165 : GoodT Tryz.prog 165 ⟨.sl 28, 1, 24, [.slice none 0 0]⟩ := ⟨⟨Tryz.t165, by kernel_rfl, by kernel_rfl, by kernel_rfl, _, rfl, by kernel_rfl, by kernel_rfl⟩, Tryz.underlying165⟩
theorem tg42 : GoodT Tryz.prog 42 ⟨.other, 1, 8, [.nilFunc]⟩ := ⟨⟨Tryz.t42, by kernel_rfl, by kernel_rfl, by kernel_rfl, _, rfl, by kernel_rfl, by kernel_rfl⟩, ⟨_, Tryz.underlying42, rfl⟩⟩
theorem tg116 : GoodT Tryz.prog 116 ⟨.other, 1, 8, [.nilFunc]⟩ := ⟨⟨Tryz.t116, by kernel_rfl, by kernel_rfl, by kernel_rfl, _, rfl, by kernel_rfl, by kernel_rfl⟩, ⟨_, Tryz.underlying116, rfl⟩⟩
theorem tg140 : GoodT Tryz.prog 140 ⟨.other, 1, 8, [.nilFunc]⟩ := ⟨⟨Tryz.t140, by kernel_rfl, by kernel_rfl, by kernel_rfl, _, rfl, by kernel_rfl, by kernel_rfl⟩, ⟨_, Tryz.underlying140, rfl⟩⟩
theorem tg161 : GoodT Tryz.prog 161 ⟨.other, 1, 8, [.nilFunc]⟩ := ⟨⟨Tryz.t161, by kernel_rfl, by kernel_rfl, by kernel_rfl, _, rfl, by kernel_rfl, by kernel_rfl⟩, ⟨_, Tryz.underlying161, rfl⟩⟩
theorem tg171 : GoodT Tryz.prog 171 ⟨.other, 1, 8, [.nilFunc]⟩ := ⟨⟨Tryz.t171, by kernel_rfl, by kernel_rfl, by kernel_rfl, _, rfl, by kernel_rfl, by kernel_rfl⟩, ⟨_, Tryz.underlying171, rfl⟩⟩
theorem tg186 : GoodT Tryz.prog 186 ⟨.other, 1, 8, [.pointer none]⟩ := ⟨⟨Tryz.t186, by kernel_rfl, by kernel_rfl, by kernel_rfl, _, rfl, by kernel_rfl, by kernel_rfl⟩, ⟨_, Tryz.underlying186, rfl⟩⟩
theorem tg47 : GoodT Tryz.prog 47 ⟨.other, 1, 8, [.nilFunc]⟩ := ⟨⟨Tryz.t47, by kernel_rfl, by kernel_rfl, by kernel_rfl, _, rfl, by kernel_rfl, by kernel_rfl⟩, ⟨_, Tryz.underlying47, rfl⟩⟩
theorem tg53 : GoodT Tryz.prog 53 ⟨.other, 1, 8, [.nilFunc]⟩ := ⟨⟨Tryz.t53, by kernel_rfl, by kernel_rfl, by kernel_rfl, _, rfl, by kernel_rfl, by kernel_rfl⟩, ⟨_, Tryz.underlying53, rfl⟩⟩
theorem tg69 : GoodT Tryz.prog 69 ⟨.other, 1, 8, [.nilFunc]⟩ := ⟨⟨Tryz.t69, by kernel_rfl, by kernel_rfl, by kernel_rfl, _, rfl, by kernel_rfl, by kernel_rfl⟩, ⟨_, Tryz.underlying69, rfl⟩⟩
theorem tg119 : GoodT Tryz.prog 119 ⟨.other, 1, 8, [.nilFunc]⟩ := ⟨⟨Tryz.t119, by kernel_rfl, by kernel_rfl, by kernel_rfl, _, rfl, by kernel_rfl, by kernel_rfl⟩, ⟨_, Tryz.underlying119, rfl⟩⟩
theorem tg35 : GoodT Tryz.prog 35 ⟨.other, 1, 8, [.nilFunc]⟩ := ⟨⟨Tryz.t35, by kernel_rfl, by kernel_rfl, by kernel_rfl, _, rfl, by kernel_rfl, by kernel_rfl⟩, ⟨_, Tryz.underlying35, rfl⟩⟩
theorem tg46 : GoodT Tryz.prog 46 ⟨.other, 1, 8, [.nilFunc]⟩ := ⟨⟨Tryz.t46, by kernel_rfl, by kernel_rfl, by kernel_rfl, _, rfl, by kernel_rfl, by kernel_rfl⟩, ⟨_, Tryz.underlying46, rfl⟩⟩
theorem tg50 : GoodT Tryz.prog 50 ⟨.other, 1, 8, [.nilFunc]⟩ := ⟨⟨Tryz.t50, by kernel_rfl, by kernel_rfl, by kernel_rfl, _, rfl, by kernel_rfl, by kernel_rfl⟩, ⟨_, Tryz.underlying50, rfl⟩⟩
theorem tg89 : GoodT Tryz.prog 89 ⟨.other, 1, 8, [.nilFunc]⟩ := ⟨⟨Tryz.t89, by kernel_rfl, by kernel_rfl, by kernel_rfl, _, rfl, by kernel_rfl, by kernel_rfl⟩, ⟨_, Tryz.underlying89, rfl⟩⟩
theorem tg95 : GoodT Tryz.prog 95 ⟨.other, 1, 8, [.nilFunc]⟩ := ⟨⟨Tryz.t95, by kernel_rfl, by kernel_rfl, by kernel_rfl, _, rfl, by kernel_rfl, by kernel_rfl⟩, ⟨_, Tryz.underlying95, rfl⟩⟩
theorem tg121 : GoodT Tryz.prog 121 ⟨.other, 1, 8, [.nilFunc]⟩ := ⟨⟨Tryz.t121, by kernel_rfl, by kernel_rfl, by kernel_rfl, _, rfl, by kernel_rfl, by kernel_rfl⟩, ⟨_, Tryz.underlying121, rfl⟩⟩
theorem tg126 : GoodT Tryz.prog 126 ⟨.other, 1, 8, [.nilFunc]⟩ := ⟨⟨Tryz.t126, by kernel_rfl, by kernel_rfl, by kernel_rfl, _, rfl, by kernel_rfl, by kernel_rfl⟩, ⟨_, Tryz.underlying126, rfl⟩⟩
theorem tg173 : GoodT Tryz.prog 173 ⟨.other, 1, 8, [.nilFunc]⟩ := ⟨⟨Tryz.t173, by kernel_rfl, by kernel_rfl, by kernel_rfl, _, rfl, by kernel_rfl, by kernel_rfl⟩, ⟨_, Tryz.underlying173, rfl⟩⟩
theorem tg33 : GoodT Tryz.prog 33 ⟨.other, 1, 8, [.nilFunc]⟩ := ⟨⟨Tryz.t33, by kernel_rfl, by kernel_rfl, by kernel_rfl, _, rfl, by kernel_rfl, by kernel_rfl⟩, ⟨_, Tryz.underlying33, rfl⟩⟩
theorem tg74 : GoodT Tryz.prog 74 ⟨.other, 1, 8, [.nilFunc]⟩ := ⟨⟨Tryz.t74, by kernel_rfl, by kernel_rfl, by kernel_rfl, _, rfl, by kernel_rfl, by kernel_rfl⟩, ⟨_, Tryz.underlying74, rfl⟩⟩
theorem tg144 : GoodT Tryz.prog 144 ⟨.other, 1, 8, [.nilFunc]⟩ := ⟨⟨Tryz.t144, by kernel_rfl, by kernel_rfl, by kernel_rfl, _, rfl, by kernel_rfl, by kernel_rfl⟩, ⟨_, Tryz.underlying144, rfl⟩⟩
theorem tg190 : GoodT Tryz.prog 190 ⟨.other, 1, 8, [.nilFunc]⟩ := ⟨⟨Tryz.t190, by kernel_rfl, by kernel_rfl, by kernel_rfl, _, rfl, by kernel_rfl, by kernel_rfl⟩, ⟨_, Tryz.underlying190, rfl⟩⟩
theorem tg40 : GoodT Tryz.prog 40 ⟨.other, 1, 8, [.nilFunc]⟩ := ⟨⟨Tryz.t40, by kernel_rfl, by kernel_rfl, by kernel_rfl, _, rfl, by kernel_rfl, by kernel_rfl⟩, ⟨_, Tryz.underlying40, rfl⟩⟩
theorem tg45 : GoodT Tryz.prog 45 ⟨.other, 1, 8, [.nilFunc]⟩ := ⟨⟨Tryz.t45, by kernel_rfl, by kernel_rfl, by kernel_rfl, _, rfl, by kernel_rfl, by kernel_rfl⟩, ⟨_, Tryz.underlying45, rfl⟩⟩
theorem tg54 : GoodT Tryz.prog 54 ⟨.other, 1, 8, [.nilFunc]⟩ := ⟨⟨Tryz.t54, by kernel_rfl, by kernel_rfl, by kernel_rfl, _, rfl, by kernel_rfl, by kernel_rfl⟩, ⟨_, Tryz.underlying54, rfl⟩⟩
theorem tg55 : GoodT Tryz.prog 55 ⟨.other, 1, 8, [.nilFunc]⟩ := ⟨⟨Tryz.t55, by kernel_rfl, by kernel_rfl, by kernel_rfl, _, rfl, by kernel_rfl, by kernel_rfl⟩, ⟨_, Tryz.underlying55, rfl⟩⟩
theorem tg75 : GoodT Tryz.prog 75 ⟨.other, 1, 8, [.nilFunc]⟩ := ⟨⟨Tryz.t75, by kernel_rfl, by kernel_rfl, by kernel_rfl, _, rfl, by kernel_rfl, by kernel_rfl⟩, ⟨_, Tryz.underlying75, rfl⟩⟩
theorem tg82 : GoodT Tryz.prog 82 ⟨.other, 1, 8, [.nilFunc]⟩ := ⟨⟨Tryz.t82, by kernel_rfl, by kernel_rfl, by kernel_rfl, _, rfl, by kernel_rfl, by kernel_rfl⟩, ⟨_, Tryz.underlying82, rfl⟩⟩
theorem tg97 : GoodT Tryz.prog 97 ⟨.other, 1, 8, [.nilFunc]⟩ := ⟨⟨Tryz.t97, by kernel_rfl, by kernel_rfl, by kernel_rfl, _, rfl, by kernel_rfl, by kernel_rfl⟩, ⟨_, Tryz.underlying97, rfl⟩⟩
theorem tg107 : GoodT Tryz.prog 107 ⟨.other, 1, 8, [.nilFunc]⟩ := ⟨⟨Tryz.t107, by kernel_rfl, by kernel_rfl, by kernel_rfl, _, rfl, by kernel_rfl, by kernel_rfl⟩, ⟨_, Tryz.underlying107, rfl⟩⟩
theorem tg118 : GoodT Tryz.prog 118 ⟨.other, 1, 8, [.nilFunc]⟩ := ⟨⟨Tryz.t118, by kernel_rfl, by kernel_rfl, by kernel_rfl, _, rfl, by kernel_rfl, by kernel_rfl⟩, ⟨_, Tryz.underlying118, rfl⟩⟩
theorem tg127 : GoodT Tryz.prog 127 ⟨.other, 1, 8, [.nilFunc]⟩ := ⟨⟨Tryz.t127, by kernel_rfl, by kernel_rfl, by kernel_rfl, _, rfl, by kernel_rfl, by kernel_rfl⟩, ⟨_, Tryz.underlying127, rfl⟩⟩
theorem tg142 : GoodT Tryz.prog 142 ⟨.other, 1, 8, [.nilFunc]⟩ := ⟨⟨Tryz.t142, by kernel_rfl, by kernel_rfl, by kernel_rfl, _, rfl, by kernel_rfl, by kernel_rfl⟩, ⟨_, Tryz.underlying142, rfl⟩⟩
theorem tg192 : GoodT Tryz.prog 192 ⟨.other, 1, 8, [.nilFunc]⟩ := ⟨⟨Tryz.t192, by kernel_rfl, by kernel_rfl, by kernel_rfl, _, rfl, by kernel_rfl, by kernel_rfl⟩, ⟨_, Tryz.underlying192, rfl⟩⟩
theorem tg49 : GoodT Tryz.prog 49 ⟨.other, 1, 8, [.nilFunc]⟩ := ⟨⟨Tryz.t49, by kernel_rfl, by kernel_rfl, by kernel_rfl, _, rfl, by kernel_rfl, by kernel_rfl⟩, ⟨_, Tryz.underlying49, rfl⟩⟩
theorem tg61 : GoodT Tryz.prog 61 ⟨.other, 1, 8, [.nilFunc]⟩ := ⟨⟨Tryz.t61, by kernel_rfl, by kernel_rfl, by kernel_rfl, _, rfl, by kernel_rfl, by kernel_rfl⟩, ⟨_, Tryz.underlying61, rfl⟩⟩
theorem tg62 : GoodT Tryz.prog 62 ⟨.other, 1, 8, [.nilFunc]⟩ := ⟨⟨Tryz.t62, by kernel_rfl, by kernel_rfl, by kernel_rfl, _, rfl, by kernel_rfl, by kernel_rfl⟩, ⟨_, Tryz.underlying62, rfl⟩⟩
theorem tg77 : GoodT Tryz.prog 77 ⟨.other, 1, 8, [.nilFunc]⟩ := ⟨⟨Tryz.t77, by kernel_rfl, by kernel_rfl, by kernel_rfl, _, rfl, by kernel_rfl, by kernel_rfl⟩, ⟨_, Tryz.underlying77, rfl⟩⟩
theorem tg94 : GoodT Tryz.prog 94 ⟨.other, 1, 8, [.nilFunc]⟩ := ⟨⟨Tryz.t94, by kernel_rfl, by kernel_rfl, by kernel_rfl, _, rfl, by kernel_rfl, by kernel_rfl⟩, ⟨_, Tryz.underlying94, rfl⟩⟩
theorem tg102 : GoodT Tryz.prog 102 ⟨.other, 1, 8, [.nilFunc]⟩ := ⟨⟨Tryz.t102, by kernel_rfl, by kernel_rfl, by kernel_rfl, _, rfl, by kernel_rfl, by kernel_rfl⟩, ⟨_, Tryz.underlying102, rfl⟩⟩
theorem tg109 : GoodT Tryz.prog 109 ⟨.other, 1, 8, [.nilFunc]⟩ := ⟨⟨Tryz.t109, by kernel_rfl, by kernel_rfl, by kernel_rfl, _, rfl, by kernel_rfl, by kernel_rfl⟩, ⟨_, Tryz.underlying109, rfl⟩⟩
theorem tg110 : GoodT Tryz.prog 110 ⟨.other, 1, 8, [.nilFunc]⟩ := ⟨⟨Tryz.t110, by kernel_rfl, by kernel_rfl, by kernel_rfl, _, rfl, by kernel_rfl, by kernel_rfl⟩, ⟨_, Tryz.underlying110, rfl⟩⟩
theorem tg122 : GoodT Tryz.prog 122 ⟨.other, 1, 8, [.nilFunc]⟩ := ⟨⟨Tryz.t122, by kernel_rfl, by kernel_rfl, by kernel_rfl, _, rfl, by kernel_rfl, by kernel_rfl⟩, ⟨_, Tryz.underlying122, rfl⟩⟩
theorem tg128 : GoodT Tryz.prog 128 ⟨.other, 1, 8, [.nilFunc]⟩ := ⟨⟨Tryz.t128, by kernel_rfl, by kernel_rfl, by kernel_rfl, _, rfl, by kernel_rfl, by kernel_rfl⟩, ⟨_, Tryz.underlying128, rfl⟩⟩
theorem tg131 : GoodT Tryz.prog 131 ⟨.other, 1, 8, [.nilFunc]⟩ := ⟨⟨Tryz.t131, by kernel_rfl, by kernel_rfl, by kernel_rfl, _, rfl, by kernel_rfl, by kernel_rfl⟩, ⟨_, Tryz.underlying131, rfl⟩⟩
theorem tg148 : GoodT Tryz.prog 148 ⟨.other, 1, 8, [.nilFunc]⟩ := ⟨⟨Tryz.t148, by kernel_rfl, by kernel_rfl, by kernel_rfl, _, rfl, by kernel_rfl, by kernel_rfl⟩, ⟨_, Tryz.underlying148, rfl⟩⟩
theorem tg20 : GoodT Tryz.prog 20 ⟨.other, 1, 16, [.nilIface]⟩ := ⟨⟨Tryz.t20, by kernel_rfl, by kernel_rfl, by kernel_rfl, _, rfl, by kernel_rfl, by kernel_rfl⟩, ⟨_, Tryz.underlying20, rfl⟩⟩
theorem tg36 : GoodT Tryz.prog 36 ⟨.other, 1, 8, [.nilFunc]⟩ := ⟨⟨Tryz.t36, by kernel_rfl, by kernel_rfl, by kernel_rfl, _, rfl, by kernel_rfl, by kernel_rfl⟩, ⟨_, Tryz.underlying36, rfl⟩⟩
theorem tg78 : GoodT Tryz.prog 78 ⟨.other, 1, 8, [.nilFunc]⟩ := ⟨⟨Tryz.t78, by kernel_rfl, by kernel_rfl, by kernel_rfl, _, rfl, by kernel_rfl, by kernel_rfl⟩, ⟨_, Tryz.underlying78, rfl⟩⟩
theorem tg79 : GoodT Tryz.prog 79 ⟨.other, 1, 8, [.nilFunc]⟩ := ⟨⟨Tryz.t79, by kernel_rfl, by kernel_rfl, by kernel_rfl, _, rfl, by kernel_rfl, by kernel_rfl⟩, ⟨_, Tryz.underlying79, rfl⟩⟩
theorem tg88 : GoodT Tryz.prog 88 ⟨.other, 1, 8, [.nilFunc]⟩ := ⟨⟨Tryz.t88, by kernel_rfl, by kernel_rfl, by kernel_rfl, _, rfl, by kernel_rfl, by kernel_rfl⟩, ⟨_, Tryz.underlying88, rfl⟩⟩
theorem tg91 : GoodT Tryz.prog 91 ⟨.other, 1, 8, [.nilFunc]⟩ := ⟨⟨Tryz.t91, by kernel_rfl, by kernel_rfl, by kernel_rfl, _, rfl, by kernel_rfl, by kernel_rfl⟩, ⟨_, Tryz.underlying91, rfl⟩⟩
theorem tg108 : GoodT Tryz.prog 108 ⟨.other, 1, 8, [.nilFunc]⟩ := ⟨⟨Tryz.t108, by kernel_rfl, by kernel_rfl, by kernel_rfl, _, rfl, by kernel_rfl, by kernel_rfl⟩, ⟨_, Tryz.underlying108, rfl⟩⟩
theorem tg112 : GoodT Tryz.prog 112 ⟨.other, 1, 8, [.nilFunc]⟩ := ⟨⟨Tryz.t112, by kernel_rfl, by kernel_rfl, by kernel_rfl, _, rfl, by kernel_rfl, by kernel_rfl⟩, ⟨_, Tryz.underlying112, rfl⟩⟩
theorem tg135 : GoodT Tryz.prog 135 ⟨.other, 1, 8, [.nilFunc]⟩ := ⟨⟨Tryz.t135, by kernel_rfl, by kernel_rfl, by kernel_rfl, _, rfl, by kernel_rfl, by kernel_rfl⟩, ⟨_, Tryz.underlying135, rfl⟩⟩
theorem tg158 : GoodT Tryz.prog 158 ⟨.other, 1, 8, [.nilFunc]⟩ := ⟨⟨Tryz.t158, by kernel_rfl, by kernel_rfl, by kernel_rfl, _, rfl, by kernel_rfl, by kernel_rfl⟩, ⟨_, Tryz.underlying158, rfl⟩⟩
theorem tg177 : GoodT Tryz.prog 177 ⟨.other, 1, 8, [.nilFunc]⟩ := ⟨⟨Tryz.t177, by kernel_rfl, by kernel_rfl, by kernel_rfl, _, rfl, by kernel_rfl, by kernel_rfl⟩, ⟨_, Tryz.underlying177, rfl⟩⟩
theorem tg179 : GoodT Tryz.prog 179 ⟨.other, 1, 8, [.nilFunc]⟩ := ⟨⟨Tryz.t179, by kernel_rfl, by kernel_rfl, by kernel_rfl, _, rfl, by kernel_rfl, by kernel_rfl⟩, ⟨_, Tryz.underlying179, rfl⟩⟩
theorem tg184 : GoodT Tryz.prog 184 ⟨.other, 1, 8, [.nilFunc]⟩ := ⟨⟨Tryz.t184, by kernel_rfl, by kernel_rfl, by kernel_rfl, _, rfl, by kernel_rfl, by kernel_rfl⟩, ⟨_, Tryz.underlying184, rfl⟩⟩
theorem tg188 : GoodT Tryz.prog 188 ⟨.other, 1, 8, [.nilFunc]⟩ := ⟨⟨Tryz.t188, by kernel_rfl, by kernel_rfl, by kernel_rfl, _, rfl, by kernel_rfl, by kernel_rfl⟩, ⟨_, Tryz.underlying188, rfl⟩⟩
theorem tg197 : GoodT Tryz.prog 197 ⟨.other, 1, 8, [.nilFunc]⟩ := ⟨⟨Tryz.t197, by kernel_rfl, by kernel_rfl, by kernel_rfl, _, rfl, by kernel_rfl, by kernel_rfl⟩, ⟨_, Tryz.underlying197, rfl⟩⟩
theorem tg199 : GoodT Tryz.prog 199 ⟨.other, 1, 8, [.nilFunc]⟩ := ⟨⟨Tryz.t199, by kernel_rfl, by kernel_rfl, by kernel_rfl, _, rfl, by kernel_rfl, by kernel_rfl⟩, ⟨_, Tryz.underlying199, rfl⟩⟩
theorem tg57 : GoodT Tryz.prog 57 ⟨.other, 1, 8, [.nilFunc]⟩ := ⟨⟨Tryz.t57, by kernel_rfl, by kernel_rfl, by kernel_rfl, _, rfl, by kernel_rfl, by kernel_rfl⟩, ⟨_, Tryz.underlying57, rfl⟩⟩
theorem tg67 : GoodT Tryz.prog 67 ⟨.other, 1, 8, [.nilFunc]⟩ := ⟨⟨Tryz.t67, by kernel_rfl, by kernel_rfl, by kernel_rfl, _, rfl, by kernel_rfl, by kernel_rfl⟩, ⟨_, Tryz.underlying67, rfl⟩⟩
theorem tg70 : GoodT Tryz.prog 70 ⟨.other, 1, 8, [.nilFunc]⟩ := ⟨⟨Tryz.t70, by kernel_rfl, by kernel_rfl, by kernel_rfl, _, rfl, by kernel_rfl, by kernel_rfl⟩, ⟨_, Tryz.underlying70, rfl⟩⟩
theorem tg72 : GoodT Tryz.prog 72 ⟨.other, 1, 8, [.nilFunc]⟩ := ⟨⟨Tryz.t72, by kernel_rfl, by kernel_rfl, by kernel_rfl, _, rfl, by kernel_rfl, by kernel_rfl⟩, ⟨_, Tryz.underlying72, rfl⟩⟩
theorem tg80 : GoodT Tryz.prog 80 ⟨.other, 1, 8, [.nilFunc]⟩ := ⟨⟨Tryz.t80, by kernel_rfl, by kernel_rfl, by kernel_rfl, _, rfl, by kernel_rfl, by kernel_rfl⟩, ⟨_, Tryz.underlying80, rfl⟩⟩
theorem tg86 : GoodT Tryz.prog 86 ⟨.other, 1, 8, [.nilFunc]⟩ := ⟨⟨Tryz.t86, by kernel_rfl, by kernel_rfl, by kernel_rfl, _, rfl, by kernel_rfl, by kernel_rfl⟩, ⟨_, Tryz.underlying86, rfl⟩⟩
theorem tg92 : GoodT Tryz.prog 92 ⟨.other, 1, 8, [.nilFunc]⟩ := ⟨⟨Tryz.t92, by kernel_rfl, by kernel_rfl, by kernel_rfl, _, rfl, by kernel_rfl, by kernel_rfl⟩, ⟨_, Tryz.underlying92, rfl⟩⟩
theorem tg103 : GoodT Tryz.prog 103 ⟨.st [(0, 101), (5, 28), (6, 3), (7, 38), (8, 3)], 9, 184, [.slice none 0 0, .slice none 0 0, .slice none 0 0, .slice none 0 0, .slice none 0 0, .slice none 0 0, .int .i64 0, .slice none 0 0, .int .i64 0]⟩ := ⟨⟨Tryz.t103, by kernel_rfl, by kernel_rfl, by kernel_rfl, _, rfl, by kernel_rfl, by kernel_rfl⟩, ⟨_, Tryz.underlying103, rfl⟩⟩
theorem tg104 : GoodT Tryz.prog 104 ⟨.st [(0, 101), (5, 28), (6, 3), (7, 38), (8, 3)], 9, 184, [.slice none 0 0, .slice none 0 0, .slice none 0 0, .slice none 0 0, .slice none 0 0, .slice none 0 0, .int .i64 0, .slice none 0 0, .int .i64 0]⟩ := ⟨⟨Tryz.t104, by kernel_rfl, by kernel_rfl, by kernel_rfl, _, rfl, by kernel_rfl, by kernel_rfl⟩, ⟨_, Tryz.underlying104, rfl⟩⟩
theorem tg105 : GoodT Tryz.prog 105 ⟨.other, 1, 8, [.nilFunc]⟩ := ⟨⟨Tryz.t105, by kernel_rfl, by kernel_rfl, by kernel_rfl, _, rfl, by kernel_rfl, by kernel_rfl⟩, ⟨_, Tryz.underlying105, rfl⟩⟩
theorem tg113 : GoodT Tryz.prog 113 ⟨.other, 1, 8, [.nilFunc]⟩ := ⟨⟨Tryz.t113, by kernel_rfl, by kernel_rfl, by kernel_rfl, _, rfl, by kernel_rfl, by kernel_rfl⟩, ⟨_, Tryz.underlying113, rfl⟩⟩
theorem tg115 : GoodT Tryz.prog 115 ⟨.other, 1, 8, [.nilFunc]⟩ := ⟨⟨Tryz.t115, by kernel_rfl, by kernel_rfl, by kernel_rfl, _, rfl, by kernel_rfl, by kernel_rfl⟩, ⟨_, Tryz.underlying115, rfl⟩⟩
theorem tg117 : GoodT Tryz.prog 117 ⟨.other, 1, 8, [.nilFunc]⟩ := ⟨⟨Tryz.t117, by kernel_rfl, by kernel_rfl, by kernel_rfl, _, rfl, by kernel_rfl, by kernel_rfl⟩, ⟨_, Tryz.underlying117, rfl⟩⟩
theorem tg138 : GoodT Tryz.prog 138 ⟨.other, 1, 8, [.nilFunc]⟩ := ⟨⟨Tryz.t138, by kernel_rfl, by kernel_rfl, by kernel_rfl, _, rfl, by kernel_rfl, by kernel_rfl⟩, ⟨_, Tryz.underlying138, rfl⟩⟩
theorem tg143 : GoodT Tryz.prog 143 ⟨.other, 1, 8, [.nilFunc]⟩ := ⟨⟨Tryz.t143, by kernel_rfl, by kernel_rfl, by kernel_rfl, _, rfl, by kernel_rfl, by kernel_rfl⟩, ⟨_, Tryz.underlying143, rfl⟩⟩
theorem tg145 : GoodT Tryz.prog 145 ⟨.other, 1, 8, [.nilFunc]⟩ := ⟨⟨Tryz.t145, by kernel_rfl, by kernel_rfl, by kernel_rfl, _, rfl, by kernel_rfl, by kernel_rfl⟩, ⟨_, Tryz.underlying145, rfl⟩⟩
theorem tg152 : GoodT Tryz.prog 152 ⟨.other, 1, 8, [.nilFunc]⟩ := ⟨⟨Tryz.t152, by kernel_rfl, by kernel_rfl, by kernel_rfl, _, rfl, by kernel_rfl, by kernel_rfl⟩, ⟨_, Tryz.underlying152, rfl⟩⟩
theorem tg160 : GoodT Tryz.prog 160 ⟨.other, 1, 8, [.nilFunc]⟩ := ⟨⟨Tryz.t160, by kernel_rfl, by kernel_rfl, by kernel_rfl, _, rfl, by kernel_rfl, by kernel_rfl⟩, ⟨_, Tryz.underlying160, rfl⟩⟩
theorem tg162 : GoodT Tryz.prog 162 ⟨.other, 1, 8, [.nilFunc]⟩ := ⟨⟨Tryz.t162, by kernel_rfl, by kernel_rfl, by kernel_rfl, _, rfl, by kernel_rfl, by kernel_rfl⟩, ⟨_, Tryz.underlying162, rfl⟩⟩
theorem tg168 : GoodT Tryz.prog 168 ⟨.other, 1, 8, [.nilFunc]⟩ := ⟨⟨Tryz.t168, by kernel_rfl, by kernel_rfl, by kernel_rfl, _, rfl, by kernel_rfl, by kernel_rfl⟩, ⟨_, Tryz.underlying168, rfl⟩⟩
theorem tg169 : GoodT Tryz.prog 169 ⟨.other, 1, 8, [.nilFunc]⟩ := ⟨⟨Tryz.t169, by kernel_rfl, by kernel_rfl, by kernel_rfl, _, rfl, by kernel_rfl, by kernel_rfl⟩, ⟨_, Tryz.underlying169, rfl⟩⟩
theorem tg170 : GoodT Tryz.prog 170 ⟨.other, 1, 8, [.nilFunc]⟩ := ⟨⟨Tryz.t170, by kernel_rfl, by kernel_rfl, by kernel_rfl, _, rfl, by kernel_rfl, by kernel_rfl⟩, ⟨_, Tryz.underlying170, rfl⟩⟩
theorem tg172 : GoodT Tryz.prog 172 ⟨.other, 1, 8, [.nilFunc]⟩ := ⟨⟨Tryz.t172, by kernel_rfl, by kernel_rfl, by kernel_rfl, _, rfl, by kernel_rfl, by kernel_rfl⟩, ⟨_, Tryz.underlying172, rfl⟩⟩
theorem tg178 : GoodT Tryz.prog 178 ⟨.other, 1, 8, [.nilFunc]⟩ := ⟨⟨Tryz.t178, by kernel_rfl, by kernel_rfl, by kernel_rfl, _, rfl, by kernel_rfl, by kernel_rfl⟩, ⟨_, Tryz.underlying178, rfl⟩⟩
theorem tg181 : GoodT Tryz.prog 181 ⟨.other, 1, 8, [.nilFunc]⟩ := ⟨⟨Tryz.t181, by kernel_rfl, by kernel_rfl, by kernel_rfl, _, rfl, by kernel_rfl, by kernel_rfl⟩, ⟨_, Tryz.underlying181, rfl⟩⟩
theorem tg183 : GoodT Tryz.prog 183 ⟨.other, 1, 8, [.nilFunc]⟩ := ⟨⟨Tryz.t183, by kernel_rfl, by kernel_rfl, by kernel_rfl, _, rfl, by kernel_rfl, by kernel_rfl⟩, ⟨_, Tryz.underlying183, rfl⟩⟩
theorem tg194 : GoodT Tryz.prog 194 ⟨.other, 1, 8, [.nilFunc]⟩ := ⟨⟨Tryz.t194, by kernel_rfl, by kernel_rfl, by kernel_rfl, _, rfl, by kernel_rfl, by kernel_rfl⟩, ⟨_, Tryz.underlying194, rfl⟩⟩
theorem tg198 : GoodT Tryz.prog 198 ⟨.other, 1, 8, [.nilFunc]⟩ := ⟨⟨Tryz.t198, by kernel_rfl, by kernel_rfl, by kernel_rfl, _, rfl, by kernel_rfl, by kernel_rfl⟩, ⟨_, Tryz.underlying198, rfl⟩⟩
theorem tg208 : GoodT Tryz.prog 208 ⟨.int .u8, 1, 1, [.int .u8 0]⟩ := ⟨⟨Tryz.t208, by kernel_rfl, by kernel_rfl, by kernel_rfl, _, rfl, by kernel_rfl, by kernel_rfl⟩, Tryz.underlying208⟩
theorem tg24 : GoodT Tryz.prog 24 ⟨.st [(0, 22), (1, 23)], 2, 48, [.slice none 0 0, .slice none 0 0]⟩ := ⟨⟨Tryz.t24, by kernel_rfl, by kernel_rfl, by kernel_rfl, _, rfl, by kernel_rfl, by kernel_rfl⟩, ⟨_, Tryz.underlying24, rfl⟩⟩
theorem tg37 : GoodT Tryz.prog 37 ⟨.other, 1, 8, [.nilFunc]⟩ := ⟨⟨Tryz.t37, by kernel_rfl, by kernel_rfl, by kernel_rfl, _, rfl, by kernel_rfl, by kernel_rfl⟩, ⟨_, Tryz.underlying37, rfl⟩⟩
theorem tg56 : GoodT Tryz.prog 56 ⟨.other, 1, 8, [.nilFunc]⟩ := ⟨⟨Tryz.t56, by kernel_rfl, by kernel_rfl, by kernel_rfl, _, rfl, by kernel_rfl, by kernel_rfl⟩, ⟨_, Tryz.underlying56, rfl⟩⟩
theorem tg59 : GoodT Tryz.prog 59 ⟨.st [(0, 9), (1, 58)], 2, 40, [.string ⟨#[]⟩, .slice none 0 0]⟩ := ⟨⟨Tryz.t59, by kernel_rfl, by kernel_rfl, by kernel_rfl, _, rfl, by kernel_rfl, by kernel_rfl⟩, ⟨_, Tryz.underlying59, rfl⟩⟩
theorem tg68 : GoodT Tryz.prog 68 ⟨.other, 1, 8, [.nilFunc]⟩ := ⟨⟨Tryz.t68, by kernel_rfl, by kernel_rfl, by kernel_rfl, _, rfl, by kernel_rfl, by kernel_rfl⟩, ⟨_, Tryz.underlying68, rfl⟩⟩
theorem tg71 : GoodT Tryz.prog 71 ⟨.other, 1, 8, [.nilFunc]⟩ := ⟨⟨Tryz.t71, by kernel_rfl, by kernel_rfl, by kernel_rfl, _, rfl, by kernel_rfl, by kernel_rfl⟩, ⟨_, Tryz.underlying71, rfl⟩⟩
theorem tg84 : GoodT Tryz.prog 84 ⟨.other, 1, 8, [.nilFunc]⟩ := ⟨⟨Tryz.t84, by kernel_rfl, by kernel_rfl, by kernel_rfl, _, rfl, by kernel_rfl, by kernel_rfl⟩, ⟨_, Tryz.underlying84, rfl⟩⟩
theorem tg87 : GoodT Tryz.prog 87 ⟨.other, 1, 8, [.nilFunc]⟩ := ⟨⟨Tryz.t87, by kernel_rfl, by kernel_rfl, by kernel_rfl, _, rfl, by kernel_rfl, by kernel_rfl⟩, ⟨_, Tryz.underlying87, rfl⟩⟩
theorem tg120 : GoodT Tryz.prog 120 ⟨.other, 1, 8, [.nilFunc]⟩ := ⟨⟨Tryz.t120, by kernel_rfl, by kernel_rfl, by kernel_rfl, _, rfl, by kernel_rfl, by kernel_rfl⟩, ⟨_, Tryz.underlying120, rfl⟩⟩
theorem tg124 : GoodT Tryz.prog 124 ⟨.other, 1, 8, [.nilFunc]⟩ := ⟨⟨Tryz.t124, by kernel_rfl, by kernel_rfl, by kernel_rfl, _, rfl, by kernel_rfl, by kernel_rfl⟩, ⟨_, Tryz.underlying124, rfl⟩⟩
theorem tg125 : GoodT Tryz.prog 125 ⟨.other, 1, 8, [.nilFunc]⟩ := ⟨⟨Tryz.t125, by kernel_rfl, by kernel_rfl, by kernel_rfl, _, rfl, by kernel_rfl, by kernel_rfl⟩, ⟨_, Tryz.underlying125, rfl⟩⟩
theorem tg130 : GoodT Tryz.prog 130 ⟨.other, 1, 8, [.nilFunc]⟩ := ⟨⟨Tryz.t130, by kernel_rfl, by kernel_rfl, by kernel_rfl, _, rfl, by kernel_rfl, by kernel_rfl⟩, ⟨_, Tryz.underlying130, rfl⟩⟩
theorem tg133 : GoodT Tryz.prog 133 ⟨.st [(0, 3), (1, 132)], 2, 32, [.int .i64 0, .slice none 0 0]⟩ := ⟨⟨Tryz.t133, by kernel_rfl, by kernel_rfl, by kernel_rfl, _, rfl, by kernel_rfl, by kernel_rfl⟩, ⟨_, Tryz.underlying133, rfl⟩⟩
theorem tg136 : GoodT Tryz.prog 136 ⟨.other, 1, 8, [.nilFunc]⟩ := ⟨⟨Tryz.t136, by kernel_rfl, by kernel_rfl, by kernel_rfl, _, rfl, by kernel_rfl, by kernel_rfl⟩, ⟨_, Tryz.underlying136, rfl⟩⟩
theorem tg137 : GoodT Tryz.prog 137 ⟨.other, 1, 8, [.nilFunc]⟩ := ⟨⟨Tryz.t137, by kernel_rfl, by kernel_rfl, by kernel_rfl, _, rfl, by kernel_rfl, by kernel_rfl⟩, ⟨_, Tryz.underlying137, rfl⟩⟩
theorem tg139 : GoodT Tryz.prog 139 ⟨.other, 1, 8, [.nilFunc]⟩ := ⟨⟨Tryz.t139, by kernel_rfl, by kernel_rfl, by kernel_rfl, _, rfl, by kernel_rfl, by kernel_rfl⟩, ⟨_, Tryz.underlying139, rfl⟩⟩
theorem tg141 : GoodT Tryz.prog 141 ⟨.other, 1, 8, [.nilFunc]⟩ := ⟨⟨Tryz.t141, by kernel_rfl, by kernel_rfl, by kernel_rfl, _, rfl, by kernel_rfl, by kernel_rfl⟩, ⟨_, Tryz.underlying141, rfl⟩⟩
theorem tg146 : GoodT Tryz.prog 146 ⟨.other, 1, 8, [.nilFunc]⟩ := ⟨⟨Tryz.t146, by kernel_rfl, by kernel_rfl, by kernel_rfl, _, rfl, by kernel_rfl, by kernel_rfl⟩, ⟨_, Tryz.underlying146, rfl⟩⟩
theorem tg147 : GoodT Tryz.prog 147 ⟨.other, 1, 8, [.nilFunc]⟩ := ⟨⟨Tryz.t147, by kernel_rfl, by kernel_rfl, by kernel_rfl, _, rfl, by kernel_rfl, by kernel_rfl⟩, ⟨_, Tryz.underlying147, rfl⟩⟩
theorem tg151 : GoodT Tryz.prog 151 ⟨.other, 1, 8, [.nilFunc]⟩ := ⟨⟨Tryz.t151, by kernel_rfl, by kernel_rfl, by kernel_rfl, _, rfl, by kernel_rfl, by kernel_rfl⟩, ⟨_, Tryz.underlying151, rfl⟩⟩
theorem tg154 : GoodT Tryz.prog 154 ⟨.other, 1, 8, [.nilFunc]⟩ := ⟨⟨Tryz.t154, by kernel_rfl, by kernel_rfl, by kernel_rfl, _, rfl, by kernel_rfl, by kernel_rfl⟩, ⟨_, Tryz.underlying154, rfl⟩⟩
theorem tg155 : GoodT Tryz.prog 155 ⟨.other, 1, 8, [.nilFunc]⟩ := ⟨⟨Tryz.t155, by kernel_rfl, by kernel_rfl, by kernel_rfl, _, rfl, by kernel_rfl, by kernel_rfl⟩, ⟨_, Tryz.underlying155, rfl⟩⟩
theorem tg156 : GoodT Tryz.prog 156 ⟨.other, 1, 8, [.nilFunc]⟩ := ⟨⟨Tryz.t156, by kernel_rfl, by kernel_rfl, by kernel_rfl, _, rfl, by kernel_rfl, by kernel_rfl⟩, ⟨_, Tryz.underlying156, rfl⟩⟩
theorem tg166 : GoodT Tryz.prog 166 ⟨.other, 1, 8, [.nilFunc]⟩ := ⟨⟨Tryz.t166, by kernel_rfl, by kernel_rfl, by kernel_rfl, _, rfl, by kernel_rfl, by kernel_rfl⟩, ⟨_, Tryz.underlying166, rfl⟩⟩
theorem tg174 : GoodT Tryz.prog 174 ⟨.other, 1, 8, [.nilFunc]⟩ := ⟨⟨Tryz.t174, by kernel_rfl, by kernel_rfl, by kernel_rfl, _, rfl, by kernel_rfl, by kernel_rfl⟩, ⟨_, Tryz.underlying174, rfl⟩⟩
theorem tg175 : GoodT Tryz.prog 175 ⟨.other, 1, 8, [.nilFunc]⟩ := ⟨⟨Tryz.t175, by kernel_rfl, by kernel_rfl, by kernel_rfl, _, rfl, by kernel_rfl, by kernel_rfl⟩, ⟨_, Tryz.underlying175, rfl⟩⟩
theorem tg185 : GoodT Tryz.prog 185 ⟨.other, 1, 8, [.nilFunc]⟩ := ⟨⟨Tryz.t185, by kernel_rfl, by kernel_rfl, by kernel_rfl, _, rfl, by kernel_rfl, by kernel_rfl⟩, ⟨_, Tryz.underlying185, rfl⟩⟩
theorem tg189 : GoodT Tryz.prog 189 ⟨.other, 1, 8, [.nilFunc]⟩ := ⟨⟨Tryz.t189, by kernel_rfl, by kernel_rfl, by kernel_rfl, _, rfl, by kernel_rfl, by kernel_rfl⟩, ⟨_, Tryz.underlying189, rfl⟩⟩
theorem tg191 : GoodT Tryz.prog 191 ⟨.other, 1, 8, [.nilFunc]⟩ := ⟨⟨Tryz.t191, by kernel_rfl, by kernel_rfl, by kernel_rfl, _, rfl, by kernel_rfl, by kernel_rfl⟩, ⟨_, Tryz.underlying191, rfl⟩⟩
theorem tg193 : GoodT Tryz.prog 193 ⟨.other, 1, 8, [.nilFunc]⟩ := ⟨⟨Tryz.t193, by kernel_rfl, by kernel_rfl, by kernel_rfl, _, rfl, by kernel_rfl, by kernel_rfl⟩, ⟨_, Tryz.underlying193, rfl⟩⟩
theorem tg195 : GoodT Tryz.prog 195 ⟨.other, 1, 8, [.nilFunc]⟩ := ⟨⟨Tryz.t195, by kernel_rfl, by kernel_rfl, by kernel_rfl, _, rfl, by kernel_rfl, by kernel_rfl⟩, ⟨_, Tryz.underlying195, rfl⟩⟩
theorem tg196 : GoodT Tryz.prog 196 ⟨.other, 1, 8, [.nilFunc]⟩ := ⟨⟨Tryz.t196, by kernel_rfl, by kernel_rfl, by kernel_rfl, _, rfl, by kernel_rfl, by kernel_rfl⟩, ⟨_, Tryz.underlying196, rfl⟩⟩
theorem tg200 : GoodT Tryz.prog 200 ⟨.other, 1, 8, [.nilFunc]⟩ := ⟨⟨Tryz.t200, by kernel_rfl, by kernel_rfl, by kernel_rfl, _, rfl, by kernel_rfl, by kernel_rfl⟩, ⟨_, Tryz.underlying200, rfl⟩⟩
theorem tg201 : GoodT Tryz.prog 201 ⟨.st [(0, 17), (1, 17), (2, 17), (3, 9)], 4, 40, [.pointer none, .pointer none, .pointer none, .string ⟨#[]⟩]⟩ := ⟨⟨Tryz.t201, by kernel_rfl, by kernel_rfl, by kernel_rfl, _, rfl, by kernel_rfl, by kernel_rfl⟩, ⟨_, Tryz.underlying201, rfl⟩⟩
theorem tg202 : GoodT Tryz.prog 202 ⟨.st [(0, 17), (1, 17), (2, 17), (3, 9)], 4, 40, [.pointer none, .pointer none, .pointer none, .string ⟨#[]⟩]⟩ := ⟨⟨Tryz.t202, by kernel_rfl, by kernel_rfl, by kernel_rfl, _, rfl, by kernel_rfl, by kernel_rfl⟩, ⟨_, Tryz.underlying202, rfl⟩⟩
theorem tg205 : GoodT Tryz.prog 205 ⟨.st [(0, 203)], 0, 0, []⟩ := ⟨⟨Tryz.t205, by kernel_rfl, by kernel_rfl, by kernel_rfl, _, rfl, by kernel_rfl, by kernel_rfl⟩, ⟨_, Tryz.underlying205, rfl⟩⟩
theorem tg206 : GoodT Tryz.prog 206 ⟨.other, 1, 8, [.nilFunc]⟩ := ⟨⟨Tryz.t206, by kernel_rfl, by kernel_rfl, by kernel_rfl, _, rfl, by kernel_rfl, by kernel_rfl⟩, ⟨_, Tryz.underlying206, rfl⟩⟩
theorem tg207 : GoodT Tryz.prog 207 ⟨.int .u8, 1, 1, [.int .u8 0]⟩ := ⟨⟨Tryz.t207, by kernel_rfl, by kernel_rfl, by kernel_rfl, _, rfl, by kernel_rfl, by kernel_rfl⟩, Tryz.underlying207⟩
theorem tg210 : GoodT Tryz.prog 210 ⟨.other, 1, 8, [.pointer none]⟩ := ⟨⟨Tryz.t210, by kernel_rfl, by kernel_rfl, by kernel_rfl, _, rfl, by kernel_rfl, by kernel_rfl⟩, ⟨_, Tryz.underlying210, rfl⟩⟩
theorem tg211 : GoodT Tryz.prog 211 ⟨.int .i32, 1, 4, [.int .i32 0]⟩ := ⟨⟨Tryz.t211, by kernel_rfl, by kernel_rfl, by kernel_rfl, _, rfl, by kernel_rfl, by kernel_rfl⟩, Tryz.underlying211⟩
theorem tg212 : GoodT Tryz.prog 212 ⟨.int .i32, 1, 4, [.int .i32 0]⟩ := ⟨⟨Tryz.t212, by kernel_rfl, by kernel_rfl, by kernel_rfl, _, rfl, by kernel_rfl, by kernel_rfl⟩, Tryz.underlying212⟩
theorem tg213 : GoodT Tryz.prog 213 ⟨.st [(0, 12), (1, 12), (2, 157), (3, 207), (4, 5), (5, 5), (6, 208), (7, 209), (8, 210), (9, 211), (10, 212)], 11, 48, [.int .u64 0, .int .u64 0, .int .u32 0, .int .u8 0, .int .u8 0, .int .u8 0, .int .u8 0, .nilFunc, .pointer none, .int .i32 0, .int .i32 0]⟩ := ⟨⟨Tryz.t213, by kernel_rfl, by kernel_rfl, by kernel_rfl, _, rfl, by kernel_rfl, by kernel_rfl⟩, ⟨_, Tryz.underlying213, rfl⟩⟩
theorem tg214 : GoodT Tryz.prog 214 ⟨.st [(0, 12), (1, 12), (2, 157), (3, 207), (4, 5), (5, 5), (6, 208), (7, 209), (8, 210), (9, 211), (10, 212)], 11, 48, [.int .u64 0, .int .u64 0, .int .u32 0, .int .u8 0, .int .u8 0, .int .u8 0, .int .u8 0, .nilFunc, .pointer none, .int .i32 0, .int .i32 0]⟩ := ⟨⟨Tryz.t214, by kernel_rfl, by kernel_rfl, by kernel_rfl, _, rfl, by kernel_rfl, by kernel_rfl⟩, ⟨_, Tryz.underlying214, rfl⟩⟩
theorem tg215 : GoodT Tryz.prog 215 ⟨.other, 1, 8, [.pointer none]⟩ := ⟨⟨Tryz.t215, by kernel_rfl, by kernel_rfl, by kernel_rfl, _, rfl, by kernel_rfl, by kernel_rfl⟩, ⟨_, Tryz.underlying215, rfl⟩⟩
theorem tg29 : GoodT Tryz.prog 29 ⟨.st [(0, 28), (1, 28), (2, 28)], 3, 72, [.slice none 0 0, .slice none 0 0, .slice none 0 0]⟩ := ⟨⟨Tryz.t29, by kernel_rfl, by kernel_rfl, by kernel_rfl, _, rfl, by kernel_rfl, by kernel_rfl⟩, ⟨_, Tryz.underlying29, rfl⟩⟩
theorem tg43 : GoodT Tryz.prog 43 ⟨.sl 5, 1, 24, [.slice none 0 0]⟩ := ⟨⟨Tryz.t43, by kernel_rfl, by kernel_rfl, by kernel_rfl, _, rfl, by kernel_rfl, by kernel_rfl⟩, Tryz.underlying43⟩
theorem tg51 : GoodT Tryz.prog 51 ⟨.st [(0, 3), (1, 3), (2, 3)], 3, 24, [.int .i64 0, .int .i64 0, .int .i64 0]⟩ := ⟨⟨Tryz.t51, by kernel_rfl, by kernel_rfl, by kernel_rfl, _, rfl, by kernel_rfl, by kernel_rfl⟩, ⟨_, Tryz.underlying51, rfl⟩⟩
theorem tg63 : GoodT Tryz.prog 63 ⟨.st [(0, 9), (1, 3), (2, 9), (3, 28)], 4, 64, [.string ⟨#[]⟩, .int .i64 0, .string ⟨#[]⟩, .slice none 0 0]⟩ := ⟨⟨Tryz.t63, by kernel_rfl, by kernel_rfl, by kernel_rfl, _, rfl, by kernel_rfl, by kernel_rfl⟩, ⟨_, Tryz.underlying63, rfl⟩⟩
theorem tg66 : GoodT Tryz.prog 66 ⟨.other, 1, 8, [.nilFunc]⟩ := ⟨⟨Tryz.t66, by kernel_rfl, by kernel_rfl, by kernel_rfl, _, rfl, by kernel_rfl, by kernel_rfl⟩, ⟨_, Tryz.underlying66, rfl⟩⟩
theorem tg81 : GoodT Tryz.prog 81 ⟨.other, 1, 8, [.nilFunc]⟩ := ⟨⟨Tryz.t81, by kernel_rfl, by kernel_rfl, by kernel_rfl, _, rfl, by kernel_rfl, by kernel_rfl⟩, ⟨_, Tryz.underlying81, rfl⟩⟩
theorem tg100 : GoodT Tryz.prog 100 ⟨.st [(0, 25), (2, 38), (3, 99), (4, 28)], 5, 120, [.slice none 0 0, .slice none 0 0, .slice none 0 0, .slice none 0 0, .slice none 0 0]⟩ := ⟨⟨Tryz.t100, by kernel_rfl, by kernel_rfl, by kernel_rfl, _, rfl, by kernel_rfl, by kernel_rfl⟩, ⟨_, Tryz.underlying100, rfl⟩⟩
theorem tg163 : GoodT Tryz.prog 163 ⟨.st [(0, 3), (1, 3)], 2, 16, [.int .i64 0, .int .i64 0]⟩ := ⟨⟨Tryz.t163, by kernel_rfl, by kernel_rfl, by kernel_rfl, _, rfl, by kernel_rfl, by kernel_rfl⟩, ⟨_, Tryz.underlying163, rfl⟩⟩
theorem tg203 : GoodT Tryz.prog 203 ⟨.ar 0 16, 0, 0, []⟩ := ⟨⟨Tryz.t203, by kernel_rfl, by kernel_rfl, by kernel_rfl, _, rfl, by kernel_rfl, by kernel_rfl⟩, Tryz.underlying203⟩
theorem tg204 : GoodT Tryz.prog 204 ⟨.st [(0, 203)], 0, 0, []⟩ := ⟨⟨Tryz.t204, by kernel_rfl, by kernel_rfl, by kernel_rfl, _, rfl, by kernel_rfl, by kernel_rfl⟩, ⟨_, Tryz.underlying204, rfl⟩⟩
theorem tg209 : GoodT Tryz.prog 209 ⟨.other, 1, 8, [.nilFunc]⟩ := ⟨⟨Tryz.t209, by kernel_rfl, by kernel_rfl, by kernel_rfl, _, rfl, by kernel_rfl, by kernel_rfl⟩, ⟨_, Tryz.underlying209, rfl⟩⟩
theorem tall : ∀ p ∈ tt, GoodT Tryz.prog p.1 p.2 := by
  unfold tt
  refine List.forall_mem_cons.2 ⟨tg3, ?_⟩
  refine List.forall_mem_cons.2 ⟨tg4, ?_⟩
  refine List.forall_mem_cons.2 ⟨tg28, ?_⟩
  refine List.forall_mem_cons.2 ⟨tg1, ?_⟩
  refine List.forall_mem_cons.2 ⟨tg25, ?_⟩
  refine List.forall_mem_cons.2 ⟨tg2, ?_⟩
  refine List.forall_mem_cons.2 ⟨tg31, ?_⟩
  refine List.forall_mem_cons.2 ⟨tg5, ?_⟩
  refine List.forall_mem_cons.2 ⟨tg38, ?_⟩
  refine List.forall_mem_cons.2 ⟨tg6, ?_⟩
  refine List.forall_mem_cons.2 ⟨tg7, ?_⟩
  refine List.forall_mem_cons.2 ⟨tg132, ?_⟩
  refine List.forall_mem_cons.2 ⟨tg8, ?_⟩
  refine List.forall_mem_cons.2 ⟨tg9, ?_⟩
  refine List.forall_mem_cons.2 ⟨tg22, ?_⟩
  refine List.forall_mem_cons.2 ⟨tg52, ?_⟩
  refine List.forall_mem_cons.2 ⟨tg164, ?_⟩
  refine List.forall_mem_cons.2 ⟨tg64, ?_⟩
  refine List.forall_mem_cons.2 ⟨tg10, ?_⟩
  refine List.forall_mem_cons.2 ⟨tg30, ?_⟩
  refine List.forall_mem_cons.2 ⟨tg23, ?_⟩
  refine List.forall_mem_cons.2 ⟨tg129, ?_⟩
  refine List.forall_mem_cons.2 ⟨tg101, ?_⟩
  refine List.forall_mem_cons.2 ⟨tg182, ?_⟩
  refine List.forall_mem_cons.2 ⟨tg11, ?_⟩
  refine List.forall_mem_cons.2 ⟨tg60, ?_⟩
  refine List.forall_mem_cons.2 ⟨tg12, ?_⟩
  refine List.forall_mem_cons.2 ⟨tg99, ?_⟩
  refine List.forall_mem_cons.2 ⟨tg58, ?_⟩
  refine List.forall_mem_cons.2 ⟨tg13, ?_⟩
  refine List.forall_mem_cons.2 ⟨tg15, ?_⟩
  refine List.forall_mem_cons.2 ⟨tg134, ?_⟩
  refine List.forall_mem_cons.2 ⟨tg111, ?_⟩
  refine List.forall_mem_cons.2 ⟨tg114, ?_⟩
  refine List.forall_mem_cons.2 ⟨tg19, ?_⟩
  refine List.forall_mem_cons.2 ⟨tg149, ?_⟩
  refine List.forall_mem_cons.2 ⟨tg180, ?_⟩
  refine List.forall_mem_cons.2 ⟨tg14, ?_⟩
  refine List.forall_mem_cons.2 ⟨tg96, ?_⟩
  refine List.forall_mem_cons.2 ⟨tg26, ?_⟩
  refine List.forall_mem_cons.2 ⟨tg16, ?_⟩
  refine List.forall_mem_cons.2 ⟨tg18, ?_⟩
  refine List.forall_mem_cons.2 ⟨tg44, ?_⟩
  refine List.forall_mem_cons.2 ⟨tg153, ?_⟩
  refine List.forall_mem_cons.2 ⟨tg176, ?_⟩
  refine List.forall_mem_cons.2 ⟨tg93, ?_⟩
  refine List.forall_mem_cons.2 ⟨tg98, ?_⟩
  refine List.forall_mem_cons.2 ⟨tg159, ?_⟩
  refine List.forall_mem_cons.2 ⟨tg65, ?_⟩
  refine List.forall_mem_cons.2 ⟨tg123, ?_⟩
  refine List.forall_mem_cons.2 ⟨tg17, ?_⟩
  refine List.forall_mem_cons.2 ⟨tg21, ?_⟩
  refine List.forall_mem_cons.2 ⟨tg27, ?_⟩
  refine List.forall_mem_cons.2 ⟨tg34, ?_⟩
  refine List.forall_mem_cons.2 ⟨tg76, ?_⟩
  refine List.forall_mem_cons.2 ⟨tg157, ?_⟩
  refine List.forall_mem_cons.2 ⟨tg41, ?_⟩
  refine List.forall_mem_cons.2 ⟨tg106, ?_⟩
  refine List.forall_mem_cons.2 ⟨tg165, ?_⟩
  refine List.forall_mem_cons.2 ⟨tg42, ?_⟩
  refine List.forall_mem_cons.2 ⟨tg116, ?_⟩
  refine List.forall_mem_cons.2 ⟨tg140, ?_⟩
  refine List.forall_mem_cons.2 ⟨tg161, ?_⟩
  refine List.forall_mem_cons.2 ⟨tg171, ?_⟩
  refine List.forall_mem_cons.2 ⟨tg186, ?_⟩
  refine List.forall_mem_cons.2 ⟨tg47, ?_⟩
  refine List.forall_mem_cons.2 ⟨tg53, ?_⟩
  refine List.forall_mem_cons.2 ⟨tg69, ?_⟩
  refine List.forall_mem_cons.2 ⟨tg119, ?_⟩
  refine List.forall_mem_cons.2 ⟨tg35, ?_⟩
  refine List.forall_mem_cons.2 ⟨tg46, ?_⟩
  refine List.forall_mem_cons.2 ⟨tg50, ?_⟩
  refine List.forall_mem_cons.2 ⟨tg89, ?_⟩
  refine List.forall_mem_cons.2 ⟨tg95, ?_⟩
  refine List.forall_mem_cons.2 ⟨tg121, ?_⟩
  refine List.forall_mem_cons.2 ⟨tg126, ?_⟩
  refine List.forall_mem_cons.2 ⟨tg173, ?_⟩
  refine List.forall_mem_cons.2 ⟨tg33, ?_⟩
  refine List.forall_mem_cons.2 ⟨tg74, ?_⟩
  refine List.forall_mem_cons.2 ⟨tg144, ?_⟩
  refine List.forall_mem_cons.2 ⟨tg190, ?_⟩
  refine List.forall_mem_cons.2 ⟨tg40, ?_⟩
  refine List.forall_mem_cons.2 ⟨tg45, ?_⟩
  refine List.forall_mem_cons.2 ⟨tg54, ?_⟩
  refine List.forall_mem_cons.2 ⟨tg55, ?_⟩
  refine List.forall_mem_cons.2 ⟨tg75, ?_⟩
  refine List.forall_mem_cons.2 ⟨tg82, ?_⟩
  refine List.forall_mem_cons.2 ⟨tg97, ?_⟩
  refine List.forall_mem_cons.2 ⟨tg107, ?_⟩
  refine List.forall_mem_cons.2 ⟨tg118, ?_⟩
  refine List.forall_mem_cons.2 ⟨tg127, ?_⟩
  refine List.forall_mem_cons.2 ⟨tg142, ?_⟩
  refine List.forall_mem_cons.2 ⟨tg192, ?_⟩
  refine List.forall_mem_cons.2 ⟨tg49, ?_⟩
  refine List.forall_mem_cons.2 ⟨tg61, ?_⟩
  refine List.forall_mem_cons.2 ⟨tg62, ?_⟩
  refine List.forall_mem_cons.2 ⟨tg77, ?_⟩
  refine List.forall_mem_cons.2 ⟨tg94, ?_⟩
  refine List.forall_mem_cons.2 ⟨tg102, ?_⟩
  refine List.forall_mem_cons.2 ⟨tg109, ?_⟩
  refine List.forall_mem_cons.2 ⟨tg110, ?_⟩
  refine List.forall_mem_cons.2 ⟨tg122, ?_⟩
  refine List.forall_mem_cons.2 ⟨tg128, ?_⟩
  refine List.forall_mem_cons.2 ⟨tg131, ?_⟩
  refine List.forall_mem_cons.2 ⟨tg148, ?_⟩
  refine List.forall_mem_cons.2 ⟨tg20, ?_⟩
  refine List.forall_mem_cons.2 ⟨tg36, ?_⟩
  refine List.forall_mem_cons.2 ⟨tg78, ?_⟩
  refine List.forall_mem_cons.2 ⟨tg79, ?_⟩
  refine List.forall_mem_cons.2 ⟨tg88, ?_⟩
  refine List.forall_mem_cons.2 ⟨tg91, ?_⟩
  refine List.forall_mem_cons.2 ⟨tg108, ?_⟩
  refine List.forall_mem_cons.2 ⟨tg112, ?_⟩
  refine List.forall_mem_cons.2 ⟨tg135, ?_⟩
  refine List.forall_mem_cons.2 ⟨tg158, ?_⟩
  refine List.forall_mem_cons.2 ⟨tg177, ?_⟩
  refine List.forall_mem_cons.2 ⟨tg179, ?_⟩
  refine List.forall_mem_cons.2 ⟨tg184, ?_⟩
  refine List.forall_mem_cons.2 ⟨tg188, ?_⟩
  refine List.forall_mem_cons.2 ⟨tg197, ?_⟩
  refine List.forall_mem_cons.2 ⟨tg199, ?_⟩
  refine List.forall_mem_cons.2 ⟨tg57, ?_⟩
  refine List.forall_mem_cons.2 ⟨tg67, ?_⟩
  refine List.forall_mem_cons.2 ⟨tg70, ?_⟩
  refine List.forall_mem_cons.2 ⟨tg72, ?_⟩
  refine List.forall_mem_cons.2 ⟨tg80, ?_⟩
  refine List.forall_mem_cons.2 ⟨tg86, ?_⟩
  refine List.forall_mem_cons.2 ⟨tg92, ?_⟩
  refine List.forall_mem_cons.2 ⟨tg103, ?_⟩
  refine List.forall_mem_cons.2 ⟨tg104, ?_⟩
  refine List.forall_mem_cons.2 ⟨tg105, ?_⟩
  refine List.forall_mem_cons.2 ⟨tg113, ?_⟩
  refine List.forall_mem_cons.2 ⟨tg115, ?_⟩
  refine List.forall_mem_cons.2 ⟨tg117, ?_⟩
  refine List.forall_mem_cons.2 ⟨tg138, ?_⟩
  refine List.forall_mem_cons.2 ⟨tg143, ?_⟩
  refine List.forall_mem_cons.2 ⟨tg145, ?_⟩
  refine List.forall_mem_cons.2 ⟨tg152, ?_⟩
  refine List.forall_mem_cons.2 ⟨tg160, ?_⟩
  refine List.forall_mem_cons.2 ⟨tg162, ?_⟩
  refine List.forall_mem_cons.2 ⟨tg168, ?_⟩
  refine List.forall_mem_cons.2 ⟨tg169, ?_⟩
  refine List.forall_mem_cons.2 ⟨tg170, ?_⟩
  refine List.forall_mem_cons.2 ⟨tg172, ?_⟩
  refine List.forall_mem_cons.2 ⟨tg178, ?_⟩
  refine List.forall_mem_cons.2 ⟨tg181, ?_⟩
  refine List.forall_mem_cons.2 ⟨tg183, ?_⟩
  refine List.forall_mem_cons.2 ⟨tg194, ?_⟩
  refine List.forall_mem_cons.2 ⟨tg198, ?_⟩
  refine List.forall_mem_cons.2 ⟨tg208, ?_⟩
  refine List.forall_mem_cons.2 ⟨tg24, ?_⟩
  refine List.forall_mem_cons.2 ⟨tg37, ?_⟩
  refine List.forall_mem_cons.2 ⟨tg56, ?_⟩
  refine List.forall_mem_cons.2 ⟨tg59, ?_⟩
  refine List.forall_mem_cons.2 ⟨tg68, ?_⟩
  refine List.forall_mem_cons.2 ⟨tg71, ?_⟩
  refine List.forall_mem_cons.2 ⟨tg84, ?_⟩
  refine List.forall_mem_cons.2 ⟨tg87, ?_⟩
  refine List.forall_mem_cons.2 ⟨tg120, ?_⟩
  refine List.forall_mem_cons.2 ⟨tg124, ?_⟩
  refine List.forall_mem_cons.2 ⟨tg125, ?_⟩
  refine List.forall_mem_cons.2 ⟨tg130, ?_⟩
  refine List.forall_mem_cons.2 ⟨tg133, ?_⟩
  refine List.forall_mem_cons.2 ⟨tg136, ?_⟩
  refine List.forall_mem_cons.2 ⟨tg137, ?_⟩
  refine List.forall_mem_cons.2 ⟨tg139, ?_⟩
  refine List.forall_mem_cons.2 ⟨tg141, ?_⟩
  refine List.forall_mem_cons.2 ⟨tg146, ?_⟩
  refine List.forall_mem_cons.2 ⟨tg147, ?_⟩
  refine List.forall_mem_cons.2 ⟨tg151, ?_⟩
  refine List.forall_mem_cons.2 ⟨tg154, ?_⟩
  refine List.forall_mem_cons.2 ⟨tg155, ?_⟩
  refine List.forall_mem_cons.2 ⟨tg156, ?_⟩
  refine List.forall_mem_cons.2 ⟨tg166, ?_⟩
  refine List.forall_mem_cons.2 ⟨tg174, ?_⟩
  refine List.forall_mem_cons.2 ⟨tg175, ?_⟩
  refine List.forall_mem_cons.2 ⟨tg185, ?_⟩
  refine List.forall_mem_cons.2 ⟨tg189, ?_⟩
  refine List.forall_mem_cons.2 ⟨tg191, ?_⟩
  refine List.forall_mem_cons.2 ⟨tg193, ?_⟩
  refine List.forall_mem_cons.2 ⟨tg195, ?_⟩
  refine List.forall_mem_cons.2 ⟨tg196, ?_⟩
  refine List.forall_mem_cons.2 ⟨tg200, ?_⟩
  refine List.forall_mem_cons.2 ⟨tg201, ?_⟩
  refine List.forall_mem_cons.2 ⟨tg202, ?_⟩
  refine List.forall_mem_cons.2 ⟨tg205, ?_⟩
  refine List.forall_mem_cons.2 ⟨tg206, ?_⟩
  refine List.forall_mem_cons.2 ⟨tg207, ?_⟩
  refine List.forall_mem_cons.2 ⟨tg210, ?_⟩
  refine List.forall_mem_cons.2 ⟨tg211, ?_⟩
  refine List.forall_mem_cons.2 ⟨tg212, ?_⟩
  refine List.forall_mem_cons.2 ⟨tg213, ?_⟩
  refine List.forall_mem_cons.2 ⟨tg214, ?_⟩
  refine List.forall_mem_cons.2 ⟨tg215, ?_⟩
  refine List.forall_mem_cons.2 ⟨tg29, ?_⟩
  refine List.forall_mem_cons.2 ⟨tg43, ?_⟩
  refine List.forall_mem_cons.2 ⟨tg51, ?_⟩
  refine List.forall_mem_cons.2 ⟨tg63, ?_⟩
  refine List.forall_mem_cons.2 ⟨tg66, ?_⟩
  refine List.forall_mem_cons.2 ⟨tg81, ?_⟩
  refine List.forall_mem_cons.2 ⟨tg100, ?_⟩
  refine List.forall_mem_cons.2 ⟨tg163, ?_⟩
  refine List.forall_mem_cons.2 ⟨tg203, ?_⟩
  refine List.forall_mem_cons.2 ⟨tg204, ?_⟩
  refine List.forall_mem_cons.2 ⟨tg209, ?_⟩
  exact fun p hp => by cases hp
theorem tget_mem : ∀ (l : List (Nat × TI)) (t : Nat) (i : TI), tget l t = some i → (t, i) ∈ l
  | [], _, _, h => by cases h
  | (d, x) :: r, t, i, h => by
    simp only [tget] at h
    cases e : Nat.beq d t with
    | true => rw [e] at h; cases h; rw [Nat.eq_of_beq_eq_true e]; exact List.mem_cons_self
    | false => rw [e] at h; exact List.mem_cons_of_mem _ (tget_mem r t i h)
noncomputable def cx (n : Nat) : Ctx := ⟨Tryz.prog, n, tt⟩
theorem follows : Tryz.prog.follows .mixedOrders = true := by kernel_rfl
theorem cxg (n : Nat) : (cx n).Good := by
  refine And.intro follows (fun t i h => ?_)
  exact tall (t, i) (tget_mem tt t i h)
end Go.Dw
