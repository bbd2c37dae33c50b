/- The table of types of this translation, and that it is right. Written by program (mktt.py). No condition. -/
import Derived.Test.YtdjhgcpmipglfaaXA
import Derived.Test.YtdjhgcpmipglfaaProg
namespace Go.Dw
open Go Go.RowKit Go.Proofs
def tt : List (Nat × TI) := [
  (3, ⟨.int .i64, 1, 8, [.int .i64 0]⟩),
  (4, ⟨.bool, 1, 1, [.bool false]⟩),
  (42, ⟨.sl 3, 1, 24, [.slice none 0 0]⟩),
  (27, ⟨.int .i64, 1, 8, [.int .i64 0]⟩),
  (26, ⟨.st [(0, 3), (1, 22)], 2, 32, [.int .i64 0, .slice none 0 0]⟩),
  (1, ⟨.other, 1, 8, [.nilFunc]⟩),
  (22, ⟨.sl 32, 1, 24, [.slice none 0 0]⟩),
  (5, ⟨.int .u8, 1, 1, [.int .u8 0]⟩),
  (2, ⟨.int .i64, 1, 8, [.int .i64 0]⟩),
  (58, ⟨.sl 42, 1, 24, [.slice none 0 0]⟩),
  (32, ⟨.st [(0, 3), (1, 3)], 2, 16, [.int .i64 0, .int .i64 0]⟩),
  (6, ⟨.int .u8, 1, 1, [.int .u8 0]⟩),
  (35, ⟨.st [(0, 3), (1, 33)], 2, 32, [.int .i64 0, .slice none 0 0]⟩),
  (7, ⟨.st [(0, 2), (1, 3), (2, 4), (3, 6)], 4, 24, [.int .i64 0, .int .i64 0, .bool false, .int .u8 0]⟩),
  (8, ⟨.st [(0, 2), (1, 3), (2, 4), (3, 6)], 4, 24, [.int .i64 0, .int .i64 0, .bool false, .int .u8 0]⟩),
  (33, ⟨.sl 85, 1, 24, [.slice none 0 0]⟩),
  (9, ⟨.str, 1, 16, [.string ⟨#[]⟩]⟩),
  (92, ⟨.other, 1, 8, [.nilFunc]⟩),
  (10, ⟨.str, 1, 16, [.string ⟨#[]⟩]⟩),
  (85, ⟨.ar 2 3, 2, 16, [.int .i64 0, .int .i64 0]⟩),
  (11, ⟨.str, 1, 16, [.string ⟨#[]⟩]⟩),
  (101, ⟨.sl 4, 1, 24, [.slice none 0 0]⟩),
  (124, ⟨.int .u64, 1, 8, [.int .u64 0]⟩),
  (12, ⟨.int .u64, 1, 8, [.int .u64 0]⟩),
  (23, ⟨.other, 1, 8, [.nilFunc]⟩),
  (45, ⟨.other, 1, 8, [.nilFunc]⟩),
  (47, ⟨.other, 1, 8, [.nilFunc]⟩),
  (119, ⟨.sl 101, 1, 24, [.slice none 0 0]⟩),
  (60, ⟨.other, 1, 8, [.nilFunc]⟩),
  (13, ⟨.st [(0, 9), (1, 12)], 2, 24, [.string ⟨#[]⟩, .int .u64 0]⟩),
  (24, ⟨.other, 1, 8, [.nilFunc]⟩),
  (140, ⟨.int .u64, 1, 8, [.int .u64 0]⟩),
  (141, ⟨.int .u64, 1, 8, [.int .u64 0]⟩),
  (49, ⟨.other, 1, 8, [.nilFunc]⟩),
  (145, ⟨.other, 1, 8, [.pointer none]⟩),
  (14, ⟨.st [(0, 9), (1, 12)], 2, 24, [.string ⟨#[]⟩, .int .u64 0]⟩),
  (64, ⟨.other, 1, 8, [.nilFunc]⟩),
  (131, ⟨.int .i64, 1, 8, [.int .i64 0]⟩),
  (40, ⟨.other, 1, 8, [.nilFunc]⟩),
  (72, ⟨.other, 1, 8, [.nilFunc]⟩),
  (15, ⟨.other, 1, 8, [.pointer none]⟩),
  (30, ⟨.other, 1, 8, [.nilFunc]⟩),
  (52, ⟨.other, 1, 8, [.nilFunc]⟩),
  (71, ⟨.other, 1, 8, [.nilFunc]⟩),
  (138, ⟨.int .u32, 1, 4, [.int .u32 0]⟩),
  (16, ⟨.other, 1, 8, [.pointer none]⟩),
  (39, ⟨.other, 1, 8, [.nilFunc]⟩),
  (147, ⟨.other, 1, 8, [.pointer none]⟩),
  (48, ⟨.other, 1, 8, [.nilFunc]⟩),
  (63, ⟨.other, 1, 8, [.nilFunc]⟩),
  (65, ⟨.other, 1, 8, [.nilFunc]⟩),
  (80, ⟨.other, 1, 8, [.nilFunc]⟩),
  (90, ⟨.other, 1, 8, [.nilFunc]⟩),
  (96, ⟨.other, 1, 8, [.nilFunc]⟩),
  (126, ⟨.other, 1, 8, [.nilFunc]⟩),
  (17, ⟨.other, 1, 8, [.pointer none]⟩),
  (57, ⟨.other, 1, 8, [.nilFunc]⟩),
  (68, ⟨.other, 1, 8, [.nilFunc]⟩),
  (94, ⟨.other, 1, 8, [.nilFunc]⟩),
  (122, ⟨.other, 1, 8, [.nilFunc]⟩),
  (37, ⟨.other, 1, 8, [.nilFunc]⟩),
  (55, ⟨.other, 1, 8, [.nilFunc]⟩),
  (73, ⟨.other, 1, 8, [.nilFunc]⟩),
  (86, ⟨.other, 1, 8, [.nilFunc]⟩),
  (89, ⟨.other, 1, 8, [.nilFunc]⟩),
  (97, ⟨.other, 1, 8, [.nilFunc]⟩),
  (100, ⟨.other, 1, 8, [.nilFunc]⟩),
  (102, ⟨.other, 1, 8, [.nilFunc]⟩),
  (107, ⟨.other, 1, 8, [.nilFunc]⟩),
  (114, ⟨.other, 1, 8, [.nilFunc]⟩),
  (128, ⟨.sl 22, 1, 24, [.slice none 0 0]⟩),
  (130, ⟨.other, 1, 8, [.nilFunc]⟩),
  (144, ⟨.other, 1, 8, [.nilFunc]⟩),
  (29, ⟨.other, 1, 8, [.nilFunc]⟩),
  (38, ⟨.other, 1, 8, [.nilFunc]⟩),
  (46, ⟨.other, 1, 8, [.nilFunc]⟩),
  (53, ⟨.other, 1, 8, [.nilFunc]⟩),
  (54, ⟨.other, 1, 8, [.nilFunc]⟩),
  (74, ⟨.other, 1, 8, [.nilFunc]⟩),
  (75, ⟨.other, 1, 8, [.nilFunc]⟩),
  (77, ⟨.other, 1, 8, [.nilFunc]⟩),
  (79, ⟨.other, 1, 8, [.nilFunc]⟩),
  (82, ⟨.other, 1, 8, [.nilFunc]⟩),
  (91, ⟨.other, 1, 8, [.nilFunc]⟩),
  (98, ⟨.other, 1, 8, [.nilFunc]⟩),
  (103, ⟨.other, 1, 8, [.nilFunc]⟩),
  (104, ⟨.other, 1, 8, [.nilFunc]⟩),
  (149, ⟨.other, 1, 8, [.nilFunc]⟩),
  (18, ⟨.st [(0, 17)], 1, 8, [.pointer none]⟩),
  (19, ⟨.st [(0, 17)], 1, 8, [.pointer none]⟩),
  (44, ⟨.other, 1, 8, [.nilFunc]⟩),
  (50, ⟨.other, 1, 8, [.nilFunc]⟩),
  (61, ⟨.other, 1, 8, [.nilFunc]⟩),
  (62, ⟨.other, 1, 8, [.nilFunc]⟩),
  (76, ⟨.other, 1, 8, [.nilFunc]⟩),
  (78, ⟨.other, 1, 8, [.nilFunc]⟩),
  (83, ⟨.other, 1, 8, [.nilFunc]⟩),
  (87, ⟨.other, 1, 8, [.nilFunc]⟩),
  (93, ⟨.other, 1, 8, [.nilFunc]⟩),
  (99, ⟨.other, 1, 8, [.nilFunc]⟩),
  (105, ⟨.other, 1, 8, [.nilFunc]⟩),
  (109, ⟨.other, 1, 8, [.nilFunc]⟩),
  (111, ⟨.other, 1, 8, [.nilFunc]⟩),
  (116, ⟨.other, 1, 8, [.nilFunc]⟩),
  (120, ⟨.other, 1, 8, [.nilFunc]⟩),
  (123, ⟨.other, 1, 8, [.nilFunc]⟩),
  (129, ⟨.other, 1, 8, [.nilFunc]⟩),
  (133, ⟨.other, 1, 8, [.nilFunc]⟩),
  (143, ⟨.other, 1, 8, [.nilFunc]⟩),
  (146, ⟨.other, 1, 8, [.nilFunc]⟩),
  (155, ⟨.st [(0, 153)], 0, 0, []⟩),
  (157, ⟨.int .u8, 1, 1, [.int .u8 0]⟩),
  (158, ⟨.int .u8, 1, 1, [.int .u8 0]⟩),
  (41, ⟨.other, 1, 8, [.nilFunc]⟩),
  (70, ⟨.other, 1, 8, [.nilFunc]⟩),
  (81, ⟨.other, 1, 8, [.nilFunc]⟩),
  (84, ⟨.other, 1, 8, [.nilFunc]⟩),
  (88, ⟨.other, 1, 8, [.nilFunc]⟩),
  (95, ⟨.other, 1, 8, [.nilFunc]⟩),
  (110, ⟨.other, 1, 8, [.nilFunc]⟩),
  (112, ⟨.other, 1, 8, [.nilFunc]⟩),
  (113, ⟨.other, 1, 8, [.nilFunc]⟩),
  (117, ⟨.other, 1, 8, [.nilFunc]⟩),
  (118, ⟨.other, 1, 8, [.nilFunc]⟩),
  (121, ⟨.other, 1, 8, [.nilFunc]⟩),
  (125, ⟨.other, 1, 8, [.nilFunc]⟩),
  (127, ⟨.other, 1, 8, [.nilFunc]⟩),
  (134, ⟨.other, 1, 8, [.nilFunc]⟩),
  (135, ⟨.other, 1, 8, [.nilFunc]⟩),
  (136, ⟨.other, 1, 8, [.nilFunc]⟩),
  (137, ⟨.other, 1, 8, [.nilFunc]⟩),
  (139, ⟨.other, 1, 8, [.nilFunc]⟩),
  (142, ⟨.other, 1, 8, [.nilFunc]⟩),
  (152, ⟨.st [(0, 17), (1, 17), (2, 17), (3, 9)], 4, 40, [.pointer none, .pointer none, .pointer none, .string ⟨#[]⟩]⟩),
  (159, ⟨.other, 1, 8, [.nilFunc]⟩),
  (160, ⟨.other, 1, 8, [.pointer none]⟩),
  (161, ⟨.int .i32, 1, 4, [.int .i32 0]⟩),
  (162, ⟨.int .i32, 1, 4, [.int .i32 0]⟩),
  (164, ⟨.st [(0, 12), (1, 12), (2, 138), (3, 157), (4, 5), (5, 5), (6, 158), (7, 159), (8, 160), (9, 161), (10, 162)], 11, 48, [.int .u64 0, .int .u64 0, .int .u32 0, .int .u8 0, .int .u8 0, .int .u8 0, .int .u8 0, .nilFunc, .pointer none, .int .i32 0, .int .i32 0]⟩),
  (20, ⟨.other, 1, 16, [.nilIface]⟩),
  (21, ⟨.int .i32, 1, 4, [.int .i32 0]⟩),
  (25, ⟨.st [(0, 3), (1, 22)], 2, 32, [.int .i64 0, .slice none 0 0]⟩),
  (31, ⟨.st [(0, 3), (1, 3)], 2, 16, [.int .i64 0, .int .i64 0]⟩),
  (34, ⟨.st [(0, 3), (1, 33)], 2, 32, [.int .i64 0, .slice none 0 0]⟩),
  (51, ⟨.other, 1, 8, [.nilFunc]⟩),
  (66, ⟨.other, 1, 8, [.nilFunc]⟩),
  (150, ⟨.other, 1, 8, [.nilFunc]⟩),
  (151, ⟨.st [(0, 17), (1, 17), (2, 17), (3, 9)], 4, 40, [.pointer none, .pointer none, .pointer none, .string ⟨#[]⟩]⟩),
  (153, ⟨.ar 0 16, 0, 0, []⟩),
  (154, ⟨.st [(0, 153)], 0, 0, []⟩),
  (156, ⟨.other, 1, 8, [.nilFunc]⟩),
  (163, ⟨.st [(0, 12), (1, 12), (2, 138), (3, 157), (4, 5), (5, 5), (6, 158), (7, 159), (8, 160), (9, 161), (10, 162)], 11, 48, [.int .u64 0, .int .u64 0, .int .u32 0, .int .u8 0, .int .u8 0, .int .u8 0, .int .u8 0, .nilFunc, .pointer none, .int .i32 0, .int .i32 0]⟩),
  (165, ⟨.other, 1, 8, [.pointer none]⟩)]
theorem tg3 : GoodT Try.prog 3 ⟨.int .i64, 1, 8, [.int .i64 0]⟩ := ⟨⟨Try.t3, by kernel_rfl, by kernel_rfl, by kernel_rfl, _, rfl, by kernel_rfl, by kernel_rfl⟩, Try.underlying3⟩
theorem tg4 : GoodT Try.prog 4 ⟨.bool, 1, 1, [.bool false]⟩ := ⟨⟨Try.t4, by kernel_rfl, by kernel_rfl, by kernel_rfl, _, rfl, by kernel_rfl, by kernel_rfl⟩, Try.underlying4⟩
theorem tg42 : GoodT Try.prog 42 ⟨.sl 3, 1, 24, [.slice none 0 0]⟩ := ⟨⟨Try.t42, by kernel_rfl, by kernel_rfl, by kernel_rfl, _, rfl, by kernel_rfl, by kernel_rfl⟩, Try.underlying42⟩
theorem tg27 : GoodT Try.prog 27 ⟨.int .i64, 1, 8, [.int .i64 0]⟩ := ⟨⟨Try.t27, by kernel_rfl, by kernel_rfl, by kernel_rfl, _, rfl, by kernel_rfl, by kernel_rfl⟩, Try.underlying27⟩
theorem tg26 : GoodT Try.prog 26 ⟨.st [(0, 3), (1, 22)], 2, 32, [.int .i64 0, .slice none 0 0]⟩ := ⟨⟨Try.t26, by kernel_rfl, by kernel_rfl, by kernel_rfl, _, rfl, by kernel_rfl, by kernel_rfl⟩, ⟨_, Try.underlying26, rfl⟩⟩
theorem tg1 : GoodT Try.prog 1 ⟨.other, 1, 8, [.nilFunc]⟩ := ⟨⟨Try.t1, by kernel_rfl, by kernel_rfl, by kernel_rfl, _, rfl, by kernel_rfl, by kernel_rfl⟩, ⟨_, Try.underlying1, rfl⟩⟩
theorem tg22 : GoodT Try.prog 22 ⟨.sl 32, 1, 24, [.slice none 0 0]⟩ := ⟨⟨Try.t22, by kernel_rfl, by kernel_rfl, by kernel_rfl, _, rfl, by kernel_rfl, by kernel_rfl⟩, Try.underlying22⟩
theorem tg5 : GoodT Try.prog 5 ⟨.int .u8, 1, 1, [.int .u8 0]⟩ := ⟨⟨Try.t5, by kernel_rfl, by kernel_rfl, by kernel_rfl, _, rfl, by kernel_rfl, by kernel_rfl⟩, Try.underlying5⟩
theorem tg2 : GoodT Try.prog 2 ⟨.int .i64, 1, 8, [.int .i64 0]⟩ := ⟨⟨Try.t2, by kernel_rfl, by kernel_rfl, by kernel_rfl, _, rfl, by kernel_rfl, by kernel_rfl⟩, Try.underlying2⟩
theorem tg58 : GoodT Try.prog 58 ⟨.sl 42, 1, 24, [.slice none 0 0]⟩ := ⟨⟨Try.t58, by kernel_rfl, by kernel_rfl, by kernel_rfl, _, rfl, by kernel_rfl, by kernel_rfl⟩, Try.underlying58⟩
theorem tg32 : GoodT Try.prog 32 ⟨.st [(0, 3), (1, 3)], 2, 16, [.int .i64 0, .int .i64 0]⟩ := ⟨⟨Try.t32, by kernel_rfl, by kernel_rfl, by kernel_rfl, _, rfl, by kernel_rfl, by kernel_rfl⟩, ⟨_, Try.underlying32, rfl⟩⟩
theorem tg6 : GoodT Try.prog 6 ⟨.int .u8, 1, 1, [.int .u8 0]⟩ := ⟨⟨Try.t6, by kernel_rfl, by kernel_rfl, by kernel_rfl, _, rfl, by kernel_rfl, by kernel_rfl⟩, Try.underlying6⟩
theorem tg35 : GoodT Try.prog 35 ⟨.st [(0, 3), (1, 33)], 2, 32, [.int .i64 0, .slice none 0 0]⟩ := ⟨⟨Try.t35, by kernel_rfl, by kernel_rfl, by kernel_rfl, _, rfl, by kernel_rfl, by kernel_rfl⟩, ⟨_, Try.underlying35, rfl⟩⟩
theorem tg7 : GoodT Try.prog 7 ⟨.st [(0, 2), (1, 3), (2, 4), (3, 6)], 4, 24, [.int .i64 0, .int .i64 0, .bool false, .int .u8 0]⟩ := ⟨⟨Try.t7, by kernel_rfl, by kernel_rfl, by kernel_rfl, _, rfl, by kernel_rfl, by kernel_rfl⟩, ⟨_, Try.underlying7, rfl⟩⟩
theorem tg8 : GoodT Try.prog 8 ⟨.st [(0, 2), (1, 3), (2, 4), (3, 6)], 4, 24, [.int .i64 0, .int .i64 0, .bool false, .int .u8 0]⟩ := ⟨⟨Try.t8, by kernel_rfl, by kernel_rfl, by kernel_rfl, _, rfl, by kernel_rfl, by kernel_rfl⟩, ⟨_, Try.underlying8, rfl⟩⟩
theorem tg33 : GoodT Try.prog 33 ⟨.sl 85, 1, 24, [.slice none 0 0]⟩ := ⟨⟨Try.t33, by kernel_rfl, by kernel_rfl, by kernel_rfl, _, rfl, by kernel_rfl, by kernel_rfl⟩, Try.underlying33⟩
theorem tg9 : GoodT Try.prog 9 ⟨.str, 1, 16, [.string ⟨#[]⟩]⟩ := ⟨⟨Try.t9, by kernel_rfl, by kernel_rfl, by kernel_rfl, _, rfl, by kernel_rfl, by kernel_rfl⟩, Try.underlying9⟩
theorem tg92 : GoodT Try.prog 92 ⟨.other, 1, 8, [.nilFunc]⟩ := ⟨⟨Try.t92, by kernel_rfl, by kernel_rfl, by kernel_rfl, _, rfl, by kernel_rfl, by kernel_rfl⟩, ⟨_, Try.underlying92, rfl⟩⟩
theorem tg10 : GoodT Try.prog 10 ⟨.str, 1, 16, [.string ⟨#[]⟩]⟩ := ⟨⟨Try.t10, by kernel_rfl, by kernel_rfl, by kernel_rfl, _, rfl, by kernel_rfl, by kernel_rfl⟩, Try.underlying10⟩
theorem tg85 : GoodT Try.prog 85 ⟨.ar 2 3, 2, 16, [.int .i64 0, .int .i64 0]⟩ := ⟨⟨Try.t85, by kernel_rfl, by kernel_rfl, by kernel_rfl, _, rfl, by kernel_rfl, by kernel_rfl⟩, Try.underlying85⟩
theorem tg11 : GoodT Try.prog 11 ⟨.str, 1, 16, [.string ⟨#[]⟩]⟩ := ⟨⟨Try.t11, by kernel_rfl, by kernel_rfl, by kernel_rfl, _, rfl, by kernel_rfl, by kernel_rfl⟩, Try.underlying11⟩
theorem tg101 : GoodT Try.prog 101 ⟨.sl 4, 1, 24, [.slice none 0 0]⟩ := ⟨⟨Try.t101, by kernel_rfl, by kernel_rfl, by kernel_rfl, _, rfl, by kernel_rfl, by kernel_rfl⟩, Try.underlying101⟩
theorem tg124 : GoodT Try.prog 124 ⟨.int .u64, 1, 8, [.int .u64 0]⟩ := ⟨⟨Try.t124, by kernel_rfl, by kernel_rfl, by kernel_rfl, _, rfl, by kernel_rfl, by kernel_rfl⟩, Try.underlying124⟩
theorem tg12 : GoodT Try.prog 12 ⟨.int .u64, 1, 8, [.int .u64 0]⟩ := ⟨⟨Try.t12, by kernel_rfl, by kernel_rfl, by kernel_rfl, _, rfl, by kernel_rfl, by kernel_rfl⟩, Try.underlying12⟩
theorem tg23 : GoodT Try.prog 23 ⟨.other, 1, 8, [.nilFunc]⟩ := ⟨⟨Try.t23, by kernel_rfl, by kernel_rfl, by kernel_rfl, _, rfl, by kernel_rfl, by kernel_rfl⟩, ⟨_, Try.underlying23, rfl⟩⟩
theorem tg45 : GoodT Try.prog 45 ⟨.other, 1, 8, [.nilFunc]⟩ := ⟨⟨Try.t45, by kernel_rfl, by kernel_rfl, by kernel_rfl, _, rfl, by kernel_rfl, by kernel_rfl⟩, ⟨_, Try.underlying45, rfl⟩⟩
theorem tg47 : GoodT Try.prog 47 ⟨.other, 1, 8, [.nilFunc]⟩ := ⟨⟨Try.t47, by kernel_rfl, by kernel_rfl, by kernel_rfl, _, rfl, by kernel_rfl, by kernel_rfl⟩, ⟨_, Try.underlying47, rfl⟩⟩
theorem tg119 : GoodT Try.prog 119 ⟨.sl 101, 1, 24, [.slice none 0 0]⟩ := ⟨⟨Try.t119, by kernel_rfl, by kernel_rfl, by kernel_rfl, _, rfl, by kernel_rfl, by kernel_rfl⟩, Try.underlying119⟩
theorem tg60 : GoodT Try.prog 60 ⟨.other, 1, 8, [.nilFunc]⟩ := ⟨⟨Try.t60, by kernel_rfl, by kernel_rfl, by kernel_rfl, _, rfl, by kernel_rfl, by kernel_rfl⟩, ⟨_, Try.underlying60, rfl⟩⟩
theorem tg13 : GoodT Try.prog 13 ⟨.st [(0, 9), (1, 12)], 2, 24, [.string ⟨#[]⟩, .int .u64 0]⟩ := ⟨⟨Try.t13, by kernel_rfl, by kernel_rfl, by kernel_rfl, _, rfl, by kernel_rfl, by kernel_rfl⟩, ⟨_, Try.underlying13, rfl⟩⟩
theorem tg24 : GoodT Try.prog 24 ⟨.other, 1, 8, [.nilFunc]⟩ := ⟨⟨Try.t24, by kernel_rfl, by kernel_rfl, by kernel_rfl, _, rfl, by kernel_rfl, by kernel_rfl⟩, ⟨_, Try.underlying24, rfl⟩⟩
theorem tg140 : GoodT Try.prog 140 ⟨.int .u64, 1, 8, [.int .u64 0]⟩ := ⟨⟨Try.t140, by kernel_rfl, by kernel_rfl, by kernel_rfl, _, rfl, by kernel_rfl, by kernel_rfl⟩, Try.underlying140⟩
theorem tg141 : GoodT Try.prog 141 ⟨.int .u64, 1, 8, [.int .u64 0]⟩ := ⟨⟨Try.t141, by kernel_rfl, by kernel_rfl, by kernel_rfl, _, rfl, by kernel_rfl, by kernel_rfl⟩, Try.underlying141⟩
theorem tg49 : GoodT Try.prog 49 ⟨.other, 1, 8, [.nilFunc]⟩ := ⟨⟨Try.t49, by kernel_rfl, by kernel_rfl, by kernel_rfl, _, rfl, by kernel_rfl, by kernel_rfl⟩, ⟨_, Try.underlying49, rfl⟩⟩
theorem tg145 : GoodT Try.prog 145 ⟨.other, 1, 8, [.pointer none]⟩ := ⟨⟨Try.t145, by kernel_rfl, by kernel_rfl, by kernel_rfl, _, rfl, by kernel_rfl, by kernel_rfl⟩, ⟨_, Try.underlying145, rfl⟩⟩
theorem tg14 : GoodT Try.prog 14 ⟨.st [(0, 9), (1, 12)], 2, 24, [.string ⟨#[]⟩, .int .u64 0]⟩ := ⟨⟨Try.t14, by kernel_rfl, by kernel_rfl, by kernel_rfl, _, rfl, by kernel_rfl, by kernel_rfl⟩, ⟨_, Try.underlying14, rfl⟩⟩
theorem tg64 : GoodT Try.prog 64 ⟨.other, 1, 8, [.nilFunc]⟩ := ⟨⟨Try.t64, by kernel_rfl, by kernel_rfl, by kernel_rfl, _, rfl, by kernel_rfl, by kernel_rfl⟩, ⟨_, Try.underlying64, rfl⟩⟩
theorem tg131 : GoodT Try.prog 131 ⟨.int .i64, 1, 8, [.int .i64 0]⟩ := ⟨⟨Try.t131, by kernel_rfl, by kernel_rfl, by kernel_rfl, _, rfl, by kernel_rfl, by kernel_rfl⟩, Try.underlying131⟩
theorem tg40 : GoodT Try.prog 40 ⟨.other, 1, 8, [.nilFunc]⟩ := ⟨⟨Try.t40, by kernel_rfl, by kernel_rfl, by kernel_rfl, _, rfl, by kernel_rfl, by kernel_rfl⟩, ⟨_, Try.underlying40, rfl⟩⟩
theorem tg72 : GoodT Try.prog 72 ⟨.other, 1, 8, [.nilFunc]⟩ := ⟨⟨Try.t72, by kernel_rfl, by kernel_rfl, by kernel_rfl, _, rfl, by kernel_rfl, by kernel_rfl⟩, ⟨_, Try.underlying72, rfl⟩⟩
theorem tg15 : GoodT Try.prog 15 ⟨.other, 1, 8, [.pointer none]⟩ := ⟨⟨Try.t15, by kernel_rfl, by kernel_rfl, by kernel_rfl, _, rfl, by kernel_rfl, by kernel_rfl⟩, ⟨_, Try.underlying15, rfl⟩⟩
theorem tg30 : GoodT Try.prog 30 ⟨.other, 1, 8, [.nilFunc]⟩ := ⟨⟨Try.t30, by kernel_rfl, by kernel_rfl, by kernel_rfl, _, rfl, by kernel_rfl, by kernel_rfl⟩, ⟨_, Try.underlying30, rfl⟩⟩
theorem tg52 : GoodT Try.prog 52 ⟨.other, 1, 8, [.nilFunc]⟩ := ⟨⟨Try.t52, by kernel_rfl, by kernel_rfl, by kernel_rfl, _, rfl, by kernel_rfl, by kernel_rfl⟩, ⟨_, Try.underlying52, rfl⟩⟩
theorem tg71 : GoodT Try.prog 71 ⟨.other, 1, 8, [.nilFunc]⟩ := ⟨⟨Try.t71, by kernel_rfl, by kernel_rfl, by kernel_rfl, _, rfl, by kernel_rfl, by kernel_rfl⟩, ⟨_, Try.underlying71, rfl⟩⟩
theorem tg138 : GoodT Try.prog 138 ⟨.int .u32, 1, 4, [.int .u32 0]⟩ := ⟨⟨Try.t138, by kernel_rfl, by kernel_rfl, by kernel_rfl, _, rfl, by kernel_rfl, by kernel_rfl⟩, Try.underlying138⟩
theorem tg16 : GoodT Try.prog 16 ⟨.other, 1, 8, [.pointer none]⟩ := ⟨⟨Try.t16, by kernel_rfl, by kernel_rfl, by kernel_rfl, _, rfl, by kernel_rfl, by kernel_rfl⟩, ⟨_, Try.underlying16, rfl⟩⟩
theorem tg39 : GoodT Try.prog 39 ⟨.other, 1, 8, [.nilFunc]⟩ := ⟨⟨Try.t39, by kernel_rfl, by kernel_rfl, by kernel_rfl, _, rfl, by kernel_rfl, by kernel_rfl⟩, ⟨_, Try.underlying39, rfl⟩⟩
theorem tg147 : GoodT Try.prog 147 ⟨.other, 1, 8, [.pointer none]⟩ := ⟨⟨Try.t147, by kernel_rfl, by kernel_rfl, by kernel_rfl, _, rfl, by kernel_rfl, by kernel_rfl⟩, ⟨_, Try.underlying147, rfl⟩⟩
theorem tg48 : GoodT Try.prog 48 ⟨.other, 1, 8, [.nilFunc]⟩ := ⟨⟨Try.t48, by kernel_rfl, by kernel_rfl, by kernel_rfl, _, rfl, by kernel_rfl, by kernel_rfl⟩, ⟨_, Try.underlying48, rfl⟩⟩
theorem tg63 : GoodT Try.prog 63 ⟨.other, 1, 8, [.nilFunc]⟩ := ⟨⟨Try.t63, by kernel_rfl, by kernel_rfl, by kernel_rfl, _, rfl, by kernel_rfl, by kernel_rfl⟩, ⟨_, Try.underlying63, rfl⟩⟩
theorem tg65 : GoodT Try.prog 65 ⟨.other, 1, 8, [.nilFunc]⟩ := ⟨⟨Try.t65, by kernel_rfl, by kernel_rfl, by kernel_rfl, _, rfl, by kernel_rfl, by kernel_rfl⟩, ⟨_, Try.underlying65, rfl⟩⟩
theorem tg80 : GoodT Try.prog 80 ⟨.other, 1, 8, [.nilFunc]⟩ := ⟨⟨Try.t80, by kernel_rfl, by kernel_rfl, by kernel_rfl, _, rfl, by kernel_rfl, by kernel_rfl⟩, ⟨_, Try.underlying80, rfl⟩⟩
theorem tg90 : GoodT Try.prog 90 ⟨.other, 1, 8, [.nilFunc]⟩ := ⟨⟨Try.t90, by kernel_rfl, by kernel_rfl, by kernel_rfl, _, rfl, by kernel_rfl, by kernel_rfl⟩, ⟨_, Try.underlying90, rfl⟩⟩
theorem tg96 : GoodT Try.prog 96 ⟨.other, 1, 8, [.nilFunc]⟩ := ⟨⟨Try.t96, by kernel_rfl, by kernel_rfl, by kernel_rfl, _, rfl, by kernel_rfl, by kernel_rfl⟩, ⟨_, Try.underlying96, rfl⟩⟩
theorem tg126 : GoodT Try.prog 126 ⟨.other, 1, 8, [.nilFunc]⟩ := ⟨⟨Try.t126, by kernel_rfl, by kernel_rfl, by kernel_rfl, _, rfl, by kernel_rfl, by kernel_rfl⟩, ⟨_, Try.underlying126, rfl⟩⟩
theorem tg17 : GoodT Try.prog 17 ⟨.other, 1, 8, [.pointer none]⟩ := ⟨⟨Try.t17, by kernel_rfl, by kernel_rfl, by kernel_rfl, _, rfl, by kernel_rfl, by kernel_rfl⟩, ⟨_, Try.underlying17, rfl⟩⟩
theorem tg57 : GoodT Try.prog 57 ⟨.other, 1, 8, [.nilFunc]⟩ := ⟨⟨Try.t57, by kernel_rfl, by kernel_rfl, by kernel_rfl, _, rfl, by kernel_rfl, by kernel_rfl⟩, ⟨_, Try.underlying57, rfl⟩⟩
theorem tg68 : GoodT Try.prog 68 ⟨.other, 1, 8, [.nilFunc]⟩ := ⟨⟨Try.t68, by kernel_rfl, by kernel_rfl, by kernel_rfl, _, rfl, by kernel_rfl, by kernel_rfl⟩, ⟨_, Try.underlying68, rfl⟩⟩
theorem tg94 : GoodT Try.prog 94 ⟨.other, 1, 8, [.nilFunc]⟩ := ⟨⟨Try.t94, by kernel_rfl, by kernel_rfl, by kernel_rfl, _, rfl, by kernel_rfl, by kernel_rfl⟩, ⟨_, Try.underlying94, rfl⟩⟩
theorem tg122 : GoodT Try.prog 122 ⟨.other, 1, 8, [.nilFunc]⟩ := ⟨⟨Try.t122, by kernel_rfl, by kernel_rfl, by kernel_rfl, _, rfl, by kernel_rfl, by kernel_rfl⟩, ⟨_, Try.underlying122, rfl⟩⟩
theorem tg37 : GoodT Try.prog 37 ⟨.other, 1, 8, [.nilFunc]⟩ := ⟨⟨Try.t37, by kernel_rfl, by kernel_rfl, by kernel_rfl, _, rfl, by kernel_rfl, by kernel_rfl⟩, ⟨_, Try.underlying37, rfl⟩⟩
theorem tg55 : GoodT Try.prog 55 ⟨.other, 1, 8, [.nilFunc]⟩ := ⟨⟨Try.t55, by kernel_rfl, by kernel_rfl, by kernel_rfl, _, rfl, by kernel_rfl, by kernel_rfl⟩, ⟨_, Try.underlying55, rfl⟩⟩
theorem tg73 : GoodT Try.prog 73 ⟨.other, 1, 8, [.nilFunc]⟩ := ⟨⟨Try.t73, by kernel_rfl, by kernel_rfl, by kernel_rfl, _, rfl, by kernel_rfl, by kernel_rfl⟩, ⟨_, Try.underlying73, rfl⟩⟩
theorem tg86 : GoodT Try.prog 86 ⟨.other, 1, 8, [.nilFunc]⟩ := ⟨⟨Try.t86, by kernel_rfl, by kernel_rfl, by kernel_rfl, _, rfl, by kernel_rfl, by kernel_rfl⟩, ⟨_, Try.underlying86, rfl⟩⟩
theorem tg89 : GoodT Try.prog 89 ⟨.other, 1, 8, [.nilFunc]⟩ := ⟨⟨Try.t89, by kernel_rfl, by kernel_rfl, by kernel_rfl, _, rfl, by kernel_rfl, by kernel_rfl⟩, ⟨_, Try.underlying89, rfl⟩⟩
theorem tg97 : GoodT Try.prog 97 ⟨.other, 1, 8, [.nilFunc]⟩ := ⟨⟨Try.t97, by kernel_rfl, by kernel_rfl, by kernel_rfl, _, rfl, by kernel_rfl, by kernel_rfl⟩, ⟨_, Try.underlying97, rfl⟩⟩
theorem tg100 : GoodT Try.prog 100 ⟨.other, 1, 8, [.nilFunc]⟩ := ⟨⟨Try.t100, by kernel_rfl, by kernel_rfl, by kernel_rfl, _, rfl, by kernel_rfl, by kernel_rfl⟩, ⟨_, Try.underlying100, rfl⟩⟩
theorem tg102 : GoodT Try.prog 102 ⟨.other, 1, 8, [.nilFunc]⟩ := ⟨⟨Try.t102, by kernel_rfl, by kernel_rfl, by kernel_rfl, _, rfl, by kernel_rfl, by kernel_rfl⟩, ⟨_, Try.underlying102, rfl⟩⟩
theorem tg107 : GoodT Try.prog 107 ⟨.other, 1, 8, [.nilFunc]⟩ := ⟨⟨Try.t107, by kernel_rfl, by kernel_rfl, by kernel_rfl, _, rfl, by kernel_rfl, by kernel_rfl⟩, ⟨_, Try.underlying107, rfl⟩⟩
theorem tg114 : GoodT Try.prog 114 ⟨.other, 1, 8, [.nilFunc]⟩ := ⟨⟨Try.t114, by kernel_rfl, by kernel_rfl, by kernel_rfl, _, rfl, by kernel_rfl, by kernel_rfl⟩, ⟨_, Try.underlying114, rfl⟩⟩
theorem tg128 : GoodT Try.prog 128 ⟨.sl 22, 1, 24, [.slice none 0 0]⟩ := ⟨⟨Try.t128, by kernel_rfl, by kernel_rfl, by kernel_rfl, _, rfl, by kernel_rfl, by kernel_rfl⟩, Try.underlying128⟩
theorem tg130 : GoodT Try.prog 130 ⟨.other, 1, 8, [.nilFunc]⟩ := ⟨⟨Try.t130, by kernel_rfl, by kernel_rfl, by kernel_rfl, _, rfl, by kernel_rfl, by kernel_rfl⟩, ⟨_, Try.underlying130, rfl⟩⟩
theorem tg144 : GoodT Try.prog 144 ⟨.other, 1, 8, [.nilFunc]⟩ := ⟨⟨Try.t144, by kernel_rfl, by kernel_rfl, by kernel_rfl, _, rfl, by kernel_rfl, by kernel_rfl⟩, ⟨_, Try.underlying144, rfl⟩⟩
theorem tg29 : GoodT Try.prog 29 ⟨.other, 1, 8, [.nilFunc]⟩ := ⟨⟨Try.t29, by kernel_rfl, by kernel_rfl, by kernel_rfl, _, rfl, by kernel_rfl, by kernel_rfl⟩, ⟨_, Try.underlying29, rfl⟩⟩
theorem tg38 : GoodT Try.prog 38 ⟨.other, 1, 8, [.nilFunc]⟩ := ⟨⟨Try.t38, by kernel_rfl, by kernel_rfl, by kernel_rfl, _, rfl, by kernel_rfl, by kernel_rfl⟩, ⟨_, Try.underlying38, rfl⟩⟩
theorem tg46 : GoodT Try.prog 46 ⟨.other, 1, 8, [.nilFunc]⟩ := ⟨⟨Try.t46, by kernel_rfl, by kernel_rfl, by kernel_rfl, _, rfl, by kernel_rfl, by kernel_rfl⟩, ⟨_, Try.underlying46, rfl⟩⟩
theorem tg53 : GoodT Try.prog 53 ⟨.other, 1, 8, [.nilFunc]⟩ := ⟨⟨Try.t53, by kernel_rfl, by kernel_rfl, by kernel_rfl, _, rfl, by kernel_rfl, by kernel_rfl⟩, ⟨_, Try.underlying53, rfl⟩⟩
theorem tg54 : GoodT Try.prog 54 ⟨.other, 1, 8, [.nilFunc]⟩ := ⟨⟨Try.t54, by kernel_rfl, by kernel_rfl, by kernel_rfl, _, rfl, by kernel_rfl, by kernel_rfl⟩, ⟨_, Try.underlying54, rfl⟩⟩
theorem tg74 : GoodT Try.prog 74 ⟨.other, 1, 8, [.nilFunc]⟩ := ⟨⟨Try.t74, by kernel_rfl, by kernel_rfl, by kernel_rfl, _, rfl, by kernel_rfl, by kernel_rfl⟩, ⟨_, Try.underlying74, rfl⟩⟩
theorem tg75 : GoodT Try.prog 75 ⟨.other, 1, 8, [.nilFunc]⟩ := ⟨⟨Try.t75, by kernel_rfl, by kernel_rfl, by kernel_rfl, _, rfl, by kernel_rfl, by kernel_rfl⟩, ⟨_, Try.underlying75, rfl⟩⟩
theorem tg77 : GoodT Try.prog 77 ⟨.other, 1, 8, [.nilFunc]⟩ := ⟨⟨Try.t77, by kernel_rfl, by kernel_rfl, by kernel_rfl, _, rfl, by kernel_rfl, by kernel_rfl⟩, ⟨_, Try.underlying77, rfl⟩⟩
theorem tg79 : GoodT Try.prog 79 ⟨.other, 1, 8, [.nilFunc]⟩ := ⟨⟨Try.t79, by kernel_rfl, by kernel_rfl, by kernel_rfl, _, rfl, by kernel_rfl, by kernel_rfl⟩, ⟨_, Try.underlying79, rfl⟩⟩
theorem tg82 : GoodT Try.prog 82 ⟨.other, 1, 8, [.nilFunc]⟩ := ⟨⟨Try.t82, by kernel_rfl, by kernel_rfl, by kernel_rfl, _, rfl, by kernel_rfl, by kernel_rfl⟩, ⟨_, Try.underlying82, rfl⟩⟩
theorem tg91 : GoodT Try.prog 91 ⟨.other, 1, 8, [.nilFunc]⟩ := ⟨⟨Try.t91, by kernel_rfl, by kernel_rfl, by kernel_rfl, _, rfl, by kernel_rfl, by kernel_rfl⟩, ⟨_, Try.underlying91, rfl⟩⟩
theorem tg98 : GoodT Try.prog 98 ⟨.other, 1, 8, [.nilFunc]⟩ := ⟨⟨Try.t98, by kernel_rfl, by kernel_rfl, by kernel_rfl, _, rfl, by kernel_rfl, by kernel_rfl⟩, ⟨_, Try.underlying98, rfl⟩⟩
theorem tg103 : GoodT Try.prog 103 ⟨.other, 1, 8, [.nilFunc]⟩ := ⟨⟨Try.t103, by kernel_rfl, by kernel_rfl, by kernel_rfl, _, rfl, by kernel_rfl, by kernel_rfl⟩, ⟨_, Try.underlying103, rfl⟩⟩
theorem tg104 : GoodT Try.prog 104 ⟨.other, 1, 8, [.nilFunc]⟩ := ⟨⟨Try.t104, by kernel_rfl, by kernel_rfl, by kernel_rfl, _, rfl, by kernel_rfl, by kernel_rfl⟩, ⟨_, Try.underlying104, rfl⟩⟩
theorem tg149 : GoodT Try.prog 149 ⟨.other, 1, 8, [.nilFunc]⟩ := ⟨⟨Try.t149, by kernel_rfl, by kernel_rfl, by kernel_rfl, _, rfl, by kernel_rfl, by kernel_rfl⟩, ⟨_, Try.underlying149, rfl⟩⟩
theorem tg18 : GoodT Try.prog 18 ⟨.st [(0, 17)], 1, 8, [.pointer none]⟩ := ⟨⟨Try.t18, by kernel_rfl, by kernel_rfl, by kernel_rfl, _, rfl, by kernel_rfl, by kernel_rfl⟩, ⟨_, Try.underlying18, rfl⟩⟩
theorem tg19 : GoodT Try.prog 19 ⟨.st [(0, 17)], 1, 8, [.pointer none]⟩ := ⟨⟨Try.t19, by kernel_rfl, by kernel_rfl, by kernel_rfl, _, rfl, by kernel_rfl, by kernel_rfl⟩, ⟨_, Try.underlying19, rfl⟩⟩
theorem tg44 : GoodT Try.prog 44 ⟨.other, 1, 8, [.nilFunc]⟩ := ⟨⟨Try.t44, by kernel_rfl, by kernel_rfl, by kernel_rfl, _, rfl, by kernel_rfl, by kernel_rfl⟩, ⟨_, Try.underlying44, rfl⟩⟩
theorem tg50 : GoodT Try.prog 50 ⟨.other, 1, 8, [.nilFunc]⟩ := ⟨⟨Try.t50, by kernel_rfl, by kernel_rfl, by kernel_rfl, _, rfl, by kernel_rfl, by kernel_rfl⟩, ⟨_, Try.underlying50, rfl⟩⟩
theorem tg61 : GoodT Try.prog 61 ⟨.other, 1, 8, [.nilFunc]⟩ := ⟨⟨Try.t61, by kernel_rfl, by kernel_rfl, by kernel_rfl, _, rfl, by kernel_rfl, by kernel_rfl⟩, ⟨_, Try.underlying61, rfl⟩⟩
theorem tg62 : GoodT Try.prog 62 ⟨.other, 1, 8, [.nilFunc]⟩ := ⟨⟨Try.t62, by kernel_rfl, by kernel_rfl, by kernel_rfl, _, rfl, by kernel_rfl, by kernel_rfl⟩, ⟨_, Try.underlying62, rfl⟩⟩
theorem tg76 : GoodT Try.prog 76 ⟨.other, 1, 8, [.nilFunc]⟩ := ⟨⟨Try.t76, by kernel_rfl, by kernel_rfl, by kernel_rfl, _, rfl, by kernel_rfl, by kernel_rfl⟩, ⟨_, Try.underlying76, rfl⟩⟩
theorem tg78 : GoodT Try.prog 78 ⟨.other, 1, 8, [.nilFunc]⟩ := ⟨⟨Try.t78, by kernel_rfl, by kernel_rfl, by kernel_rfl, _, rfl, by kernel_rfl, by kernel_rfl⟩, ⟨_, Try.underlying78, rfl⟩⟩
theorem tg83 : GoodT Try.prog 83 ⟨.other, 1, 8, [.nilFunc]⟩ := ⟨⟨Try.t83, by kernel_rfl, by kernel_rfl, by kernel_rfl, _, rfl, by kernel_rfl, by kernel_rfl⟩, ⟨_, Try.underlying83, rfl⟩⟩
theorem tg87 : GoodT Try.prog 87 ⟨.other, 1, 8, [.nilFunc]⟩ := ⟨⟨Try.t87, by kernel_rfl, by kernel_rfl, by kernel_rfl, _, rfl, by kernel_rfl, by kernel_rfl⟩, ⟨_, Try.underlying87, rfl⟩⟩
theorem tg93 : GoodT Try.prog 93 ⟨.other, 1, 8, [.nilFunc]⟩ := ⟨⟨Try.t93, by kernel_rfl, by kernel_rfl, by kernel_rfl, _, rfl, by kernel_rfl, by kernel_rfl⟩, ⟨_, Try.underlying93, rfl⟩⟩
theorem tg99 : GoodT Try.prog 99 ⟨.other, 1, 8, [.nilFunc]⟩ := ⟨⟨Try.t99, by kernel_rfl, by kernel_rfl, by kernel_rfl, _, rfl, by kernel_rfl, by kernel_rfl⟩, ⟨_, Try.underlying99, rfl⟩⟩
theorem tg105 : GoodT Try.prog 105 ⟨.other, 1, 8, [.nilFunc]⟩ := ⟨⟨Try.t105, by kernel_rfl, by kernel_rfl, by kernel_rfl, _, rfl, by kernel_rfl, by kernel_rfl⟩, ⟨_, Try.underlying105, rfl⟩⟩
theorem tg109 : GoodT Try.prog 109 ⟨.other, 1, 8, [.nilFunc]⟩ := ⟨⟨Try.t109, by kernel_rfl, by kernel_rfl, by kernel_rfl, _, rfl, by kernel_rfl, by kernel_rfl⟩, ⟨_, Try.underlying109, rfl⟩⟩
theorem tg111 : GoodT Try.prog 111 ⟨.other, 1, 8, [.nilFunc]⟩ := ⟨⟨Try.t111, by kernel_rfl, by kernel_rfl, by kernel_rfl, _, rfl, by kernel_rfl, by kernel_rfl⟩, ⟨_, Try.underlying111, rfl⟩⟩
theorem tg116 : GoodT Try.prog 116 ⟨.other, 1, 8, [.nilFunc]⟩ := ⟨⟨Try.t116, by kernel_rfl, by kernel_rfl, by kernel_rfl, _, rfl, by kernel_rfl, by kernel_rfl⟩, ⟨_, Try.underlying116, rfl⟩⟩
theorem tg120 : GoodT Try.prog 120 ⟨.other, 1, 8, [.nilFunc]⟩ := ⟨⟨Try.t120, by kernel_rfl, by kernel_rfl, by kernel_rfl, _, rfl, by kernel_rfl, by kernel_rfl⟩, ⟨_, Try.underlying120, rfl⟩⟩
theorem tg123 : GoodT Try.prog 123 ⟨.other, 1, 8, [.nilFunc]⟩ := ⟨⟨Try.t123, by kernel_rfl, by kernel_rfl, by kernel_rfl, _, rfl, by kernel_rfl, by kernel_rfl⟩, ⟨_, Try.underlying123, rfl⟩⟩
theorem tg129 : GoodT Try.prog 129 ⟨.other, 1, 8, [.nilFunc]⟩ := ⟨⟨Try.t129, by kernel_rfl, by kernel_rfl, by kernel_rfl, _, rfl, by kernel_rfl, by kernel_rfl⟩, ⟨_, Try.underlying129, rfl⟩⟩
theorem tg133 : GoodT Try.prog 133 ⟨.other, 1, 8, [.nilFunc]⟩ := ⟨⟨Try.t133, by kernel_rfl, by kernel_rfl, by kernel_rfl, _, rfl, by kernel_rfl, by kernel_rfl⟩, ⟨_, Try.underlying133, rfl⟩⟩
theorem tg143 : GoodT Try.prog 143 ⟨.other, 1, 8, [.nilFunc]⟩ := ⟨⟨Try.t143, by kernel_rfl, by kernel_rfl, by kernel_rfl, _, rfl, by kernel_rfl, by kernel_rfl⟩, ⟨_, Try.underlying143, rfl⟩⟩
theorem tg146 : GoodT Try.prog 146 ⟨.other, 1, 8, [.nilFunc]⟩ := ⟨⟨Try.t146, by kernel_rfl, by kernel_rfl, by kernel_rfl, _, rfl, by kernel_rfl, by kernel_rfl⟩, ⟨_, Try.underlying146, rfl⟩⟩
theorem tg155 : GoodT Try.prog 155 ⟨.st [(0, 153)], 0, 0, []⟩ := ⟨⟨Try.t155, by kernel_rfl, by kernel_rfl, by kernel_rfl, _, rfl, by kernel_rfl, by kernel_rfl⟩, ⟨_, Try.underlying155, rfl⟩⟩
theorem tg157 : GoodT Try.prog 157 ⟨.int .u8, 1, 1, [.int .u8 0]⟩ := ⟨⟨Try.t157, by kernel_rfl, by kernel_rfl, by kernel_rfl, _, rfl, by kernel_rfl, by kernel_rfl⟩, Try.underlying157⟩
theorem tg158 : GoodT Try.prog 158 ⟨.int .u8, 1, 1, [.int .u8 0]⟩ := ⟨⟨Try.t158, by kernel_rfl, by kernel_rfl, by kernel_rfl, _, rfl, by kernel_rfl, by kernel_rfl⟩, Try.underlying158⟩
theorem tg41 : GoodT Try.prog 41 ⟨.other, 1, 8, [.nilFunc]⟩ := ⟨⟨Try.t41, by kernel_rfl, by kernel_rfl, by kernel_rfl, _, rfl, by kernel_rfl, by kernel_rfl⟩, ⟨_, Try.underlying41, rfl⟩⟩
theorem tg70 : GoodT Try.prog 70 ⟨.other, 1, 8, [.nilFunc]⟩ := ⟨⟨Try.t70, by kernel_rfl, by kernel_rfl, by kernel_rfl, _, rfl, by kernel_rfl, by kernel_rfl⟩, ⟨_, Try.underlying70, rfl⟩⟩
theorem tg81 : GoodT Try.prog 81 ⟨.other, 1, 8, [.nilFunc]⟩ := ⟨⟨Try.t81, by kernel_rfl, by kernel_rfl, by kernel_rfl, _, rfl, by kernel_rfl, by kernel_rfl⟩, ⟨_, Try.underlying81, rfl⟩⟩
theorem tg84 : GoodT Try.prog 84 ⟨.other, 1, 8, [.nilFunc]⟩ := ⟨⟨Try.t84, by kernel_rfl, by kernel_rfl, by kernel_rfl, _, rfl, by kernel_rfl, by kernel_rfl⟩, ⟨_, Try.underlying84, rfl⟩⟩
theorem tg88 : GoodT Try.prog 88 ⟨.other, 1, 8, [.nilFunc]⟩ := ⟨⟨Try.t88, by kernel_rfl, by kernel_rfl, by kernel_rfl, _, rfl, by kernel_rfl, by kernel_rfl⟩, ⟨_, Try.underlying88, rfl⟩⟩
theorem tg95 : GoodT Try.prog 95 ⟨.other, 1, 8, [.nilFunc]⟩ := ⟨⟨Try.t95, by kernel_rfl, by kernel_rfl, by kernel_rfl, _, rfl, by kernel_rfl, by kernel_rfl⟩, ⟨_, Try.underlying95, rfl⟩⟩
theorem tg110 : GoodT Try.prog 110 ⟨.other, 1, 8, [.nilFunc]⟩ := ⟨⟨Try.t110, by kernel_rfl, by kernel_rfl, by kernel_rfl, _, rfl, by kernel_rfl, by kernel_rfl⟩, ⟨_, Try.underlying110, rfl⟩⟩
theorem tg112 : GoodT Try.prog 112 ⟨.other, 1, 8, [.nilFunc]⟩ := ⟨⟨Try.t112, by kernel_rfl, by kernel_rfl, by kernel_rfl, _, rfl, by kernel_rfl, by kernel_rfl⟩, ⟨_, Try.underlying112, rfl⟩⟩
theorem tg113 : GoodT Try.prog 113 ⟨.other, 1, 8, [.nilFunc]⟩ := ⟨⟨Try.t113, by kernel_rfl, by kernel_rfl, by kernel_rfl, _, rfl, by kernel_rfl, by kernel_rfl⟩, ⟨_, Try.underlying113, rfl⟩⟩
theorem tg117 : GoodT Try.prog 117 ⟨.other, 1, 8, [.nilFunc]⟩ := ⟨⟨Try.t117, by kernel_rfl, by kernel_rfl, by kernel_rfl, _, rfl, by kernel_rfl, by kernel_rfl⟩, ⟨_, Try.underlying117, rfl⟩⟩
theorem tg118 : GoodT Try.prog 118 ⟨.other, 1, 8, [.nilFunc]⟩ := ⟨⟨Try.t118, by kernel_rfl, by kernel_rfl, by kernel_rfl, _, rfl, by kernel_rfl, by kernel_rfl⟩, ⟨_, Try.underlying118, rfl⟩⟩
theorem tg121 : GoodT Try.prog 121 ⟨.other, 1, 8, [.nilFunc]⟩ := ⟨⟨Try.t121, by kernel_rfl, by kernel_rfl, by kernel_rfl, _, rfl, by kernel_rfl, by kernel_rfl⟩, ⟨_, Try.underlying121, rfl⟩⟩
theorem tg125 : GoodT Try.prog 125 ⟨.other, 1, 8, [.nilFunc]⟩ := ⟨⟨Try.t125, by kernel_rfl, by kernel_rfl, by kernel_rfl, _, rfl, by kernel_rfl, by kernel_rfl⟩, ⟨_, Try.underlying125, rfl⟩⟩
theorem tg127 : GoodT Try.prog 127 ⟨.other, 1, 8, [.nilFunc]⟩ := ⟨⟨Try.t127, by kernel_rfl, by kernel_rfl, by kernel_rfl, _, rfl, by kernel_rfl, by kernel_rfl⟩, ⟨_, Try.underlying127, rfl⟩⟩
theorem tg134 : GoodT Try.prog 134 ⟨.other, 1, 8, [.nilFunc]⟩ := ⟨⟨Try.t134, by kernel_rfl, by kernel_rfl, by kernel_rfl, _, rfl, by kernel_rfl, by kernel_rfl⟩, ⟨_, Try.underlying134, rfl⟩⟩
theorem tg135 : GoodT Try.prog 135 ⟨.other, 1, 8, [.nilFunc]⟩ := ⟨⟨Try.t135, by kernel_rfl, by kernel_rfl, by kernel_rfl, _, rfl, by kernel_rfl, by kernel_rfl⟩, ⟨_, Try.underlying135, rfl⟩⟩
theorem tg136 : GoodT Try.prog 136 ⟨.other, 1, 8, [.nilFunc]⟩ := ⟨⟨Try.t136, by kernel_rfl, by kernel_rfl, by kernel_rfl, _, rfl, by kernel_rfl, by kernel_rfl⟩, ⟨_, Try.underlying136, rfl⟩⟩
theorem tg137 : GoodT Try.prog 137 ⟨.other, 1, 8, [.nilFunc]⟩ := ⟨⟨Try.t137, by kernel_rfl, by kernel_rfl, by kernel_rfl, _, rfl, by kernel_rfl, by kernel_rfl⟩, ⟨_, Try.underlying137, rfl⟩⟩
theorem tg139 : GoodT Try.prog 139 ⟨.other, 1, 8, [.nilFunc]⟩ := ⟨⟨Try.t139, by kernel_rfl, by kernel_rfl, by kernel_rfl, _, rfl, by kernel_rfl, by kernel_rfl⟩, ⟨_, Try.underlying139, rfl⟩⟩
theorem tg142 : GoodT Try.prog 142 ⟨.other, 1, 8, [.nilFunc]⟩ := ⟨⟨Try.t142, by kernel_rfl, by kernel_rfl, by kernel_rfl, _, rfl, by kernel_rfl, by kernel_rfl⟩, ⟨_, Try.underlying142, rfl⟩⟩
theorem tg152 : GoodT Try.prog 152 ⟨.st [(0, 17), (1, 17), (2, 17), (3, 9)], 4, 40, [.pointer none, .pointer none, .pointer none, .string ⟨#[]⟩]⟩ := ⟨⟨Try.t152, by kernel_rfl, by kernel_rfl, by kernel_rfl, _, rfl, by kernel_rfl, by kernel_rfl⟩, ⟨_, Try.underlying152, rfl⟩⟩
theorem tg159 : GoodT Try.prog 159 ⟨.other, 1, 8, [.nilFunc]⟩ := ⟨⟨Try.t159, by kernel_rfl, by kernel_rfl, by kernel_rfl, _, rfl, by kernel_rfl, by kernel_rfl⟩, ⟨_, Try.underlying159, rfl⟩⟩
theorem tg160 : GoodT Try.prog 160 ⟨.other, 1, 8, [.pointer none]⟩ := ⟨⟨Try.t160, by kernel_rfl, by kernel_rfl, by kernel_rfl, _, rfl, by kernel_rfl, by kernel_rfl⟩, ⟨_, Try.underlying160, rfl⟩⟩
theorem tg161 : GoodT Try.prog 161 ⟨.int .i32, 1, 4, [.int .i32 0]⟩ := ⟨⟨Try.t161, by kernel_rfl, by kernel_rfl, by kernel_rfl, _, rfl, by kernel_rfl, by kernel_rfl⟩, Try.underlying161⟩
theorem tg162 : GoodT Try.prog 162 ⟨.int .i32, 1, 4, [.int .i32 0]⟩ := ⟨⟨Try.t162, by kernel_rfl, by kernel_rfl, by kernel_rfl, _, rfl, by kernel_rfl, by kernel_rfl⟩, Try.underlying162⟩
theorem tg164 : GoodT Try.prog 164 ⟨.st [(0, 12), (1, 12), (2, 138), (3, 157), (4, 5), (5, 5), (6, 158), (7, 159), (8, 160), (9, 161), (10, 162)], 11, 48, [.int .u64 0, .int .u64 0, .int .u32 0, .int .u8 0, .int .u8 0, .int .u8 0, .int .u8 0, .nilFunc, .pointer none, .int .i32 0, .int .i32 0]⟩ := ⟨⟨Try.t164, by kernel_rfl, by kernel_rfl, by kernel_rfl, _, rfl, by kernel_rfl, by kernel_rfl⟩, ⟨_, Try.underlying164, rfl⟩⟩
theorem tg20 : GoodT Try.prog 20 ⟨.other, 1, 16, [.nilIface]⟩ := ⟨⟨Try.t20, by kernel_rfl, by kernel_rfl, by kernel_rfl, _, rfl, by kernel_rfl, by kernel_rfl⟩, ⟨_, Try.underlying20, rfl⟩⟩
theorem tg21 : GoodT Try.prog 21 ⟨.int .i32, 1, 4, [.int .i32 0]⟩ := ⟨⟨Try.t21, by kernel_rfl, by kernel_rfl, by kernel_rfl, _, rfl, by kernel_rfl, by kernel_rfl⟩, Try.underlying21⟩
theorem tg25 : GoodT Try.prog 25 ⟨.st [(0, 3), (1, 22)], 2, 32, [.int .i64 0, .slice none 0 0]⟩ := ⟨⟨Try.t25, by kernel_rfl, by kernel_rfl, by kernel_rfl, _, rfl, by kernel_rfl, by kernel_rfl⟩, ⟨_, Try.underlying25, rfl⟩⟩
theorem tg31 : GoodT Try.prog 31 ⟨.st [(0, 3), (1, 3)], 2, 16, [.int .i64 0, .int .i64 0]⟩ := ⟨⟨Try.t31, by kernel_rfl, by kernel_rfl, by kernel_rfl, _, rfl, by kernel_rfl, by kernel_rfl⟩, ⟨_, Try.underlying31, rfl⟩⟩
theorem tg34 : GoodT Try.prog 34 ⟨.st [(0, 3), (1, 33)], 2, 32, [.int .i64 0, .slice none 0 0]⟩ := ⟨⟨Try.t34, by kernel_rfl, by kernel_rfl, by kernel_rfl, _, rfl, by kernel_rfl, by kernel_rfl⟩, ⟨_, Try.underlying34, rfl⟩⟩
theorem tg51 : GoodT Try.prog 51 ⟨.other, 1, 8, [.nilFunc]⟩ := ⟨⟨Try.t51, by kernel_rfl, by kernel_rfl, by kernel_rfl, _, rfl, by kernel_rfl, by kernel_rfl⟩, ⟨_, Try.underlying51, rfl⟩⟩
theorem tg66 : GoodT Try.prog 66 ⟨.other, 1, 8, [.nilFunc]⟩ := ⟨⟨Try.t66, by kernel_rfl, by kernel_rfl, by kernel_rfl, _, rfl, by kernel_rfl, by kernel_rfl⟩, ⟨_, Try.underlying66, rfl⟩⟩
theorem tg150 : GoodT Try.prog 150 ⟨.other, 1, 8, [.nilFunc]⟩ := ⟨⟨Try.t150, by kernel_rfl, by kernel_rfl, by kernel_rfl, _, rfl, by kernel_rfl, by kernel_rfl⟩, ⟨_, Try.underlying150, rfl⟩⟩
theorem tg151 : GoodT Try.prog 151 ⟨.st [(0, 17), (1, 17), (2, 17), (3, 9)], 4, 40, [.pointer none, .pointer none, .pointer none, .string ⟨#[]⟩]⟩ := ⟨⟨Try.t151, by kernel_rfl, by kernel_rfl, by kernel_rfl, _, rfl, by kernel_rfl, by kernel_rfl⟩, ⟨_, Try.underlying151, rfl⟩⟩
theorem tg153 : GoodT Try.prog 153 ⟨.ar 0 16, 0, 0, []⟩ := ⟨⟨Try.t153, by kernel_rfl, by kernel_rfl, by kernel_rfl, _, rfl, by kernel_rfl, by kernel_rfl⟩, Try.underlying153⟩
theorem tg154 : GoodT Try.prog 154 ⟨.st [(0, 153)], 0, 0, []⟩ := ⟨⟨Try.t154, by kernel_rfl, by kernel_rfl, by kernel_rfl, _, rfl, by kernel_rfl, by kernel_rfl⟩, ⟨_, Try.underlying154, rfl⟩⟩
theorem tg156 : GoodT Try.prog 156 ⟨.other, 1, 8, [.nilFunc]⟩ := ⟨⟨Try.t156, by kernel_rfl, by kernel_rfl, by kernel_rfl, _, rfl, by kernel_rfl, by kernel_rfl⟩, ⟨_, Try.underlying156, rfl⟩⟩
theorem tg163 : GoodT Try.prog 163 ⟨.st [(0, 12), (1, 12), (2, 138), (3, 157), (4, 5), (5, 5), (6, 158), (7, 159), (8, 160), (9, 161), (10, 162)], 11, 48, [.int .u64 0, .int .u64 0, .int .u32 0, .int .u8 0, .int .u8 0, .int .u8 0, .int .u8 0, .nilFunc, .pointer none, .int .i32 0, .int .i32 0]⟩ := ⟨⟨Try.t163, by kernel_rfl, by kernel_rfl, by kernel_rfl, _, rfl, by kernel_rfl, by kernel_rfl⟩, ⟨_, Try.underlying163, rfl⟩⟩
theorem tg165 : GoodT Try.prog 165 ⟨.other, 1, 8, [.pointer none]⟩ := ⟨⟨Try.t165, by kernel_rfl, by kernel_rfl, by kernel_rfl, _, rfl, by kernel_rfl, by kernel_rfl⟩, ⟨_, Try.underlying165, rfl⟩⟩
theorem tall : ∀ p ∈ tt, GoodT Try.prog p.1 p.2 := by
  unfold tt
  refine List.forall_mem_cons.2 ⟨tg3, ?_⟩
  refine List.forall_mem_cons.2 ⟨tg4, ?_⟩
  refine List.forall_mem_cons.2 ⟨tg42, ?_⟩
  refine List.forall_mem_cons.2 ⟨tg27, ?_⟩
  refine List.forall_mem_cons.2 ⟨tg26, ?_⟩
  refine List.forall_mem_cons.2 ⟨tg1, ?_⟩
  refine List.forall_mem_cons.2 ⟨tg22, ?_⟩
  refine List.forall_mem_cons.2 ⟨tg5, ?_⟩
  refine List.forall_mem_cons.2 ⟨tg2, ?_⟩
  refine List.forall_mem_cons.2 ⟨tg58, ?_⟩
  refine List.forall_mem_cons.2 ⟨tg32, ?_⟩
  refine List.forall_mem_cons.2 ⟨tg6, ?_⟩
  refine List.forall_mem_cons.2 ⟨tg35, ?_⟩
  refine List.forall_mem_cons.2 ⟨tg7, ?_⟩
  refine List.forall_mem_cons.2 ⟨tg8, ?_⟩
  refine List.forall_mem_cons.2 ⟨tg33, ?_⟩
  refine List.forall_mem_cons.2 ⟨tg9, ?_⟩
  refine List.forall_mem_cons.2 ⟨tg92, ?_⟩
  refine List.forall_mem_cons.2 ⟨tg10, ?_⟩
  refine List.forall_mem_cons.2 ⟨tg85, ?_⟩
  refine List.forall_mem_cons.2 ⟨tg11, ?_⟩
  refine List.forall_mem_cons.2 ⟨tg101, ?_⟩
  refine List.forall_mem_cons.2 ⟨tg124, ?_⟩
  refine List.forall_mem_cons.2 ⟨tg12, ?_⟩
  refine List.forall_mem_cons.2 ⟨tg23, ?_⟩
  refine List.forall_mem_cons.2 ⟨tg45, ?_⟩
  refine List.forall_mem_cons.2 ⟨tg47, ?_⟩
  refine List.forall_mem_cons.2 ⟨tg119, ?_⟩
  refine List.forall_mem_cons.2 ⟨tg60, ?_⟩
  refine List.forall_mem_cons.2 ⟨tg13, ?_⟩
  refine List.forall_mem_cons.2 ⟨tg24, ?_⟩
  refine List.forall_mem_cons.2 ⟨tg140, ?_⟩
  refine List.forall_mem_cons.2 ⟨tg141, ?_⟩
  refine List.forall_mem_cons.2 ⟨tg49, ?_⟩
  refine List.forall_mem_cons.2 ⟨tg145, ?_⟩
  refine List.forall_mem_cons.2 ⟨tg14, ?_⟩
  refine List.forall_mem_cons.2 ⟨tg64, ?_⟩
  refine List.forall_mem_cons.2 ⟨tg131, ?_⟩
  refine List.forall_mem_cons.2 ⟨tg40, ?_⟩
  refine List.forall_mem_cons.2 ⟨tg72, ?_⟩
  refine List.forall_mem_cons.2 ⟨tg15, ?_⟩
  refine List.forall_mem_cons.2 ⟨tg30, ?_⟩
  refine List.forall_mem_cons.2 ⟨tg52, ?_⟩
  refine List.forall_mem_cons.2 ⟨tg71, ?_⟩
  refine List.forall_mem_cons.2 ⟨tg138, ?_⟩
  refine List.forall_mem_cons.2 ⟨tg16, ?_⟩
  refine List.forall_mem_cons.2 ⟨tg39, ?_⟩
  refine List.forall_mem_cons.2 ⟨tg147, ?_⟩
  refine List.forall_mem_cons.2 ⟨tg48, ?_⟩
  refine List.forall_mem_cons.2 ⟨tg63, ?_⟩
  refine List.forall_mem_cons.2 ⟨tg65, ?_⟩
  refine List.forall_mem_cons.2 ⟨tg80, ?_⟩
  refine List.forall_mem_cons.2 ⟨tg90, ?_⟩
  refine List.forall_mem_cons.2 ⟨tg96, ?_⟩
  refine List.forall_mem_cons.2 ⟨tg126, ?_⟩
  refine List.forall_mem_cons.2 ⟨tg17, ?_⟩
  refine List.forall_mem_cons.2 ⟨tg57, ?_⟩
  refine List.forall_mem_cons.2 ⟨tg68, ?_⟩
  refine List.forall_mem_cons.2 ⟨tg94, ?_⟩
  refine List.forall_mem_cons.2 ⟨tg122, ?_⟩
  refine List.forall_mem_cons.2 ⟨tg37, ?_⟩
  refine List.forall_mem_cons.2 ⟨tg55, ?_⟩
  refine List.forall_mem_cons.2 ⟨tg73, ?_⟩
  refine List.forall_mem_cons.2 ⟨tg86, ?_⟩
  refine List.forall_mem_cons.2 ⟨tg89, ?_⟩
  refine List.forall_mem_cons.2 ⟨tg97, ?_⟩
  refine List.forall_mem_cons.2 ⟨tg100, ?_⟩
  refine List.forall_mem_cons.2 ⟨tg102, ?_⟩
  refine List.forall_mem_cons.2 ⟨tg107, ?_⟩
  refine List.forall_mem_cons.2 ⟨tg114, ?_⟩
  refine List.forall_mem_cons.2 ⟨tg128, ?_⟩
  refine List.forall_mem_cons.2 ⟨tg130, ?_⟩
  refine List.forall_mem_cons.2 ⟨tg144, ?_⟩
  refine List.forall_mem_cons.2 ⟨tg29, ?_⟩
  refine List.forall_mem_cons.2 ⟨tg38, ?_⟩
  refine List.forall_mem_cons.2 ⟨tg46, ?_⟩
  refine List.forall_mem_cons.2 ⟨tg53, ?_⟩
  refine List.forall_mem_cons.2 ⟨tg54, ?_⟩
  refine List.forall_mem_cons.2 ⟨tg74, ?_⟩
  refine List.forall_mem_cons.2 ⟨tg75, ?_⟩
  refine List.forall_mem_cons.2 ⟨tg77, ?_⟩
  refine List.forall_mem_cons.2 ⟨tg79, ?_⟩
  refine List.forall_mem_cons.2 ⟨tg82, ?_⟩
  refine List.forall_mem_cons.2 ⟨tg91, ?_⟩
  refine List.forall_mem_cons.2 ⟨tg98, ?_⟩
  refine List.forall_mem_cons.2 ⟨tg103, ?_⟩
  refine List.forall_mem_cons.2 ⟨tg104, ?_⟩
  refine List.forall_mem_cons.2 ⟨tg149, ?_⟩
  refine List.forall_mem_cons.2 ⟨tg18, ?_⟩
  refine List.forall_mem_cons.2 ⟨tg19, ?_⟩
  refine List.forall_mem_cons.2 ⟨tg44, ?_⟩
  refine List.forall_mem_cons.2 ⟨tg50, ?_⟩
  refine List.forall_mem_cons.2 ⟨tg61, ?_⟩
  refine List.forall_mem_cons.2 ⟨tg62, ?_⟩
  refine List.forall_mem_cons.2 ⟨tg76, ?_⟩
  refine List.forall_mem_cons.2 ⟨tg78, ?_⟩
  refine List.forall_mem_cons.2 ⟨tg83, ?_⟩
  refine List.forall_mem_cons.2 ⟨tg87, ?_⟩
  refine List.forall_mem_cons.2 ⟨tg93, ?_⟩
  refine List.forall_mem_cons.2 ⟨tg99, ?_⟩
  refine List.forall_mem_cons.2 ⟨tg105, ?_⟩
  refine List.forall_mem_cons.2 ⟨tg109, ?_⟩
  refine List.forall_mem_cons.2 ⟨tg111, ?_⟩
  refine List.forall_mem_cons.2 ⟨tg116, ?_⟩
  refine List.forall_mem_cons.2 ⟨tg120, ?_⟩
  refine List.forall_mem_cons.2 ⟨tg123, ?_⟩
  refine List.forall_mem_cons.2 ⟨tg129, ?_⟩
  refine List.forall_mem_cons.2 ⟨tg133, ?_⟩
  refine List.forall_mem_cons.2 ⟨tg143, ?_⟩
  refine List.forall_mem_cons.2 ⟨tg146, ?_⟩
  refine List.forall_mem_cons.2 ⟨tg155, ?_⟩
  refine List.forall_mem_cons.2 ⟨tg157, ?_⟩
  refine List.forall_mem_cons.2 ⟨tg158, ?_⟩
  refine List.forall_mem_cons.2 ⟨tg41, ?_⟩
  refine List.forall_mem_cons.2 ⟨tg70, ?_⟩
  refine List.forall_mem_cons.2 ⟨tg81, ?_⟩
  refine List.forall_mem_cons.2 ⟨tg84, ?_⟩
  refine List.forall_mem_cons.2 ⟨tg88, ?_⟩
  refine List.forall_mem_cons.2 ⟨tg95, ?_⟩
  refine List.forall_mem_cons.2 ⟨tg110, ?_⟩
  refine List.forall_mem_cons.2 ⟨tg112, ?_⟩
  refine List.forall_mem_cons.2 ⟨tg113, ?_⟩
  refine List.forall_mem_cons.2 ⟨tg117, ?_⟩
  refine List.forall_mem_cons.2 ⟨tg118, ?_⟩
  refine List.forall_mem_cons.2 ⟨tg121, ?_⟩
  refine List.forall_mem_cons.2 ⟨tg125, ?_⟩
  refine List.forall_mem_cons.2 ⟨tg127, ?_⟩
  refine List.forall_mem_cons.2 ⟨tg134, ?_⟩
  refine List.forall_mem_cons.2 ⟨tg135, ?_⟩
  refine List.forall_mem_cons.2 ⟨tg136, ?_⟩
  refine List.forall_mem_cons.2 ⟨tg137, ?_⟩
  refine List.forall_mem_cons.2 ⟨tg139, ?_⟩
  refine List.forall_mem_cons.2 ⟨tg142, ?_⟩
  refine List.forall_mem_cons.2 ⟨tg152, ?_⟩
  refine List.forall_mem_cons.2 ⟨tg159, ?_⟩
  refine List.forall_mem_cons.2 ⟨tg160, ?_⟩
  refine List.forall_mem_cons.2 ⟨tg161, ?_⟩
  refine List.forall_mem_cons.2 ⟨tg162, ?_⟩
  refine List.forall_mem_cons.2 ⟨tg164, ?_⟩
  refine List.forall_mem_cons.2 ⟨tg20, ?_⟩
  refine List.forall_mem_cons.2 ⟨tg21, ?_⟩
  refine List.forall_mem_cons.2 ⟨tg25, ?_⟩
  refine List.forall_mem_cons.2 ⟨tg31, ?_⟩
  refine List.forall_mem_cons.2 ⟨tg34, ?_⟩
  refine List.forall_mem_cons.2 ⟨tg51, ?_⟩
  refine List.forall_mem_cons.2 ⟨tg66, ?_⟩
  refine List.forall_mem_cons.2 ⟨tg150, ?_⟩
  refine List.forall_mem_cons.2 ⟨tg151, ?_⟩
  refine List.forall_mem_cons.2 ⟨tg153, ?_⟩
  refine List.forall_mem_cons.2 ⟨tg154, ?_⟩
  refine List.forall_mem_cons.2 ⟨tg156, ?_⟩
  refine List.forall_mem_cons.2 ⟨tg163, ?_⟩
  refine List.forall_mem_cons.2 ⟨tg165, ?_⟩
  exact fun p hp => by cases hp
theorem tget_mem : ∀ (l : List (Nat × TI)) (t : Nat) (i : TI), tget l t = some i → (t, i) ∈ l
  | [], _, _, h => by cases h
  | (d, x) :: r, t, i, h => by
    simp only [tget] at h
    cases e : Nat.beq d t with
    | true => rw [e] at h; cases h; rw [Nat.eq_of_beq_eq_true e]; exact List.mem_cons_self
    | false => rw [e] at h; exact List.mem_cons_of_mem _ (tget_mem r t i h)
noncomputable def cx (n : Nat) : Ctx := ⟨Try.prog, n, tt⟩
theorem follows : Try.prog.follows .mixedOrders = true := by kernel_rfl
theorem cxg (n : Nat) : (cx n).Good := by
  refine And.intro follows (fun t i h => ?_)
  exact tall (t, i) (tget_mem tt t i h)
end Go.Dw
