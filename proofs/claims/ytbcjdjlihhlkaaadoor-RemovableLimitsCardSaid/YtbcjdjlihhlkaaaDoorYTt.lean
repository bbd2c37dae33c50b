/- The table of types of this translation, and that it is right. Written by program (mktt.py). No condition. -/
import Derived.Test.YtbcjdjlihhlkaaaDoorXA
import Derived.Test.YtbcjdjlihhlkaaaDoorProg
namespace Go.Dw
open Go Go.RowKit Go.Proofs
def tt : List (Nat × TI) := [
  (3, ⟨.int .i64, 1, 8, [.int .i64 0]⟩),
  (4, ⟨.bool, 1, 1, [.bool false]⟩),
  (1, ⟨.other, 1, 8, [.nilFunc]⟩),
  (5, ⟨.int .u8, 1, 1, [.int .u8 0]⟩),
  (32, ⟨.int .i64, 1, 8, [.int .i64 0]⟩),
  (26, ⟨.sl 58, 1, 24, [.slice none 0 0]⟩),
  (35, ⟨.sl 3, 1, 24, [.slice none 0 0]⟩),
  (60, ⟨.int .u64, 1, 8, [.int .u64 0]⟩),
  (28, ⟨.st [(0, 3), (1, 26)], 2, 32, [.int .i64 0, .slice none 0 0]⟩),
  (2, ⟨.int .i64, 1, 8, [.int .i64 0]⟩),
  (65, ⟨.sl 60, 1, 24, [.slice none 0 0]⟩),
  (6, ⟨.int .u8, 1, 1, [.int .u8 0]⟩),
  (7, ⟨.st [(0, 2), (1, 3), (2, 4), (3, 6)], 4, 24, [.int .i64 0, .int .i64 0, .bool false, .int .u8 0]⟩),
  (30, ⟨.sl 35, 1, 24, [.slice none 0 0]⟩),
  (8, ⟨.st [(0, 2), (1, 3), (2, 4), (3, 6)], 4, 24, [.int .i64 0, .int .i64 0, .bool false, .int .u8 0]⟩),
  (58, ⟨.st [(0, 3), (1, 3)], 2, 16, [.int .i64 0, .int .i64 0]⟩),
  (59, ⟨.int .u64, 1, 8, [.int .u64 0]⟩),
  (9, ⟨.str, 1, 16, [.string ⟨#[]⟩]⟩),
  (71, ⟨.other, 1, 8, [.nilFunc]⟩),
  (91, ⟨.other, 1, 8, [.nilFunc]⟩),
  (10, ⟨.str, 1, 16, [.string ⟨#[]⟩]⟩),
  (11, ⟨.str, 1, 16, [.string ⟨#[]⟩]⟩),
  (99, ⟨.int .u64, 1, 8, [.int .u64 0]⟩),
  (126, ⟨.other, 1, 8, [.pointer none]⟩),
  (110, ⟨.int .i64, 1, 8, [.int .i64 0]⟩),
  (24, ⟨.st [(0, 5), (1, 22)], 2, 32, [.int .u8 0, .slice none 0 0]⟩),
  (13, ⟨.st [(0, 9), (1, 12)], 2, 24, [.string ⟨#[]⟩, .int .u64 0]⟩),
  (95, ⟨.sl 4, 1, 24, [.slice none 0 0]⟩),
  (122, ⟨.int .u64, 1, 8, [.int .u64 0]⟩),
  (12, ⟨.int .u64, 1, 8, [.int .u64 0]⟩),
  (14, ⟨.st [(0, 9), (1, 12)], 2, 24, [.string ⟨#[]⟩, .int .u64 0]⟩),
  (62, ⟨.st [(0, 60), (1, 3), (2, 3)], 3, 24, [.int .u64 0, .int .i64 0, .int .i64 0]⟩),
  (15, ⟨.other, 1, 8, [.pointer none]⟩),
  (100, ⟨.sl 95, 1, 24, [.slice none 0 0]⟩),
  (129, ⟨.other, 1, 8, [.pointer none]⟩),
  (16, ⟨.other, 1, 8, [.pointer none]⟩),
  (22, ⟨.sl 5, 1, 24, [.slice none 0 0]⟩),
  (29, ⟨.other, 1, 8, [.nilFunc]⟩),
  (50, ⟨.other, 1, 8, [.nilFunc]⟩),
  (118, ⟨.int .u32, 1, 4, [.int .u32 0]⟩),
  (41, ⟨.other, 1, 8, [.nilFunc]⟩),
  (43, ⟨.other, 1, 8, [.nilFunc]⟩),
  (70, ⟨.other, 1, 8, [.nilFunc]⟩),
  (17, ⟨.other, 1, 8, [.pointer none]⟩),
  (25, ⟨.other, 1, 8, [.nilFunc]⟩),
  (39, ⟨.other, 1, 8, [.nilFunc]⟩),
  (73, ⟨.other, 1, 8, [.nilFunc]⟩),
  (102, ⟨.other, 1, 8, [.nilFunc]⟩),
  (34, ⟨.other, 1, 8, [.nilFunc]⟩),
  (38, ⟨.other, 1, 8, [.nilFunc]⟩),
  (40, ⟨.other, 1, 8, [.nilFunc]⟩),
  (42, ⟨.other, 1, 8, [.nilFunc]⟩),
  (90, ⟨.other, 1, 8, [.nilFunc]⟩),
  (128, ⟨.other, 1, 8, [.nilFunc]⟩),
  (37, ⟨.other, 1, 8, [.nilFunc]⟩),
  (49, ⟨.other, 1, 8, [.nilFunc]⟩),
  (89, ⟨.other, 1, 8, [.nilFunc]⟩),
  (92, ⟨.other, 1, 8, [.map none]⟩),
  (97, ⟨.other, 1, 8, [.nilFunc]⟩),
  (109, ⟨.other, 1, 8, [.nilFunc]⟩),
  (131, ⟨.other, 1, 8, [.nilFunc]⟩),
  (19, ⟨.st [(0, 17)], 1, 8, [.pointer none]⟩),
  (53, ⟨.other, 1, 8, [.nilFunc]⟩),
  (69, ⟨.other, 1, 8, [.nilFunc]⟩),
  (72, ⟨.other, 1, 8, [.nilFunc]⟩),
  (77, ⟨.other, 1, 8, [.nilFunc]⟩),
  (79, ⟨.other, 1, 8, [.nilFunc]⟩),
  (81, ⟨.other, 1, 8, [.nilFunc]⟩),
  (103, ⟨.ar 64 5, 64, 64, [.int .u8 0, .int .u8 0, .int .u8 0, .int .u8 0, .int .u8 0, .int .u8 0, .int .u8 0, .int .u8 0, .int .u8 0, .int .u8 0, .int .u8 0, .int .u8 0, .int .u8 0, .int .u8 0, .int .u8 0, .int .u8 0, .int .u8 0, .int .u8 0, .int .u8 0, .int .u8 0, .int .u8 0, .int .u8 0, .int .u8 0, .int .u8 0, .int .u8 0, .int .u8 0, .int .u8 0, .int .u8 0, .int .u8 0, .int .u8 0, .int .u8 0, .int .u8 0, .int .u8 0, .int .u8 0, .int .u8 0, .int .u8 0, .int .u8 0, .int .u8 0, .int .u8 0, .int .u8 0, .int .u8 0, .int .u8 0, .int .u8 0, .int .u8 0, .int .u8 0, .int .u8 0, .int .u8 0, .int .u8 0, .int .u8 0, .int .u8 0, .int .u8 0, .int .u8 0, .int .u8 0, .int .u8 0, .int .u8 0, .int .u8 0, .int .u8 0, .int .u8 0, .int .u8 0, .int .u8 0, .int .u8 0, .int .u8 0, .int .u8 0, .int .u8 0]⟩),
  (132, ⟨.other, 1, 8, [.nilFunc]⟩),
  (18, ⟨.st [(0, 17)], 1, 8, [.pointer none]⟩),
  (21, ⟨.int .i32, 1, 4, [.int .i32 0]⟩),
  (31, ⟨.other, 1, 8, [.nilFunc]⟩),
  (45, ⟨.other, 1, 8, [.nilFunc]⟩),
  (83, ⟨.other, 1, 8, [.nilFunc]⟩),
  (85, ⟨.other, 1, 8, [.nilFunc]⟩),
  (96, ⟨.other, 1, 8, [.nilFunc]⟩),
  (98, ⟨.other, 1, 8, [.nilFunc]⟩),
  (114, ⟨.other, 1, 8, [.nilFunc]⟩),
  (124, ⟨.other, 1, 8, [.nilFunc]⟩),
  (125, ⟨.other, 1, 8, [.nilFunc]⟩),
  (137, ⟨.other, 1, 8, [.nilFunc]⟩),
  (139, ⟨.other, 1, 8, [.nilFunc]⟩),
  (20, ⟨.other, 1, 16, [.nilIface]⟩),
  (27, ⟨.st [(0, 3), (1, 26)], 2, 32, [.int .i64 0, .slice none 0 0]⟩),
  (54, ⟨.other, 1, 8, [.nilFunc]⟩),
  (64, ⟨.other, 1, 8, [.nilFunc]⟩),
  (67, ⟨.other, 1, 8, [.nilFunc]⟩),
  (68, ⟨.other, 1, 8, [.nilFunc]⟩),
  (75, ⟨.other, 1, 8, [.nilFunc]⟩),
  (76, ⟨.other, 1, 8, [.nilFunc]⟩),
  (80, ⟨.other, 1, 8, [.nilFunc]⟩),
  (88, ⟨.other, 1, 8, [.nilFunc]⟩),
  (94, ⟨.other, 1, 8, [.nilFunc]⟩),
  (101, ⟨.other, 1, 8, [.nilFunc]⟩),
  (106, ⟨.other, 1, 8, [.nilFunc]⟩),
  (107, ⟨.other, 1, 8, [.nilFunc]⟩),
  (113, ⟨.other, 1, 8, [.nilFunc]⟩),
  (119, ⟨.other, 1, 8, [.nilFunc]⟩),
  (121, ⟨.other, 1, 8, [.nilFunc]⟩),
  (123, ⟨.other, 1, 8, [.nilFunc]⟩),
  (127, ⟨.other, 1, 8, [.nilFunc]⟩),
  (138, ⟨.other, 1, 8, [.nilFunc]⟩),
  (145, ⟨.st [(0, 143)], 0, 0, []⟩),
  (147, ⟨.int .u8, 1, 1, [.int .u8 0]⟩),
  (150, ⟨.int .i32, 1, 4, [.int .i32 0]⟩),
  (151, ⟨.int .i32, 1, 4, [.int .i32 0]⟩),
  (153, ⟨.st [(0, 12), (1, 12), (2, 118), (3, 146), (4, 5), (5, 5), (6, 147), (7, 148), (8, 149), (9, 150), (10, 151)], 11, 48, [.int .u64 0, .int .u64 0, .int .u32 0, .int .u8 0, .int .u8 0, .int .u8 0, .int .u8 0, .nilFunc, .pointer none, .int .i32 0, .int .i32 0]⟩),
  (23, ⟨.st [(0, 5), (1, 22)], 2, 32, [.int .u8 0, .slice none 0 0]⟩),
  (61, ⟨.st [(0, 60), (1, 3), (2, 3)], 3, 24, [.int .u64 0, .int .i64 0, .int .i64 0]⟩),
  (74, ⟨.other, 1, 8, [.nilFunc]⟩),
  (78, ⟨.other, 1, 8, [.nilFunc]⟩),
  (82, ⟨.other, 1, 8, [.nilFunc]⟩),
  (87, ⟨.other, 1, 8, [.nilFunc]⟩),
  (93, ⟨.other, 1, 8, [.nilFunc]⟩),
  (105, ⟨.other, 1, 8, [.nilFunc]⟩),
  (108, ⟨.other, 1, 8, [.nilFunc]⟩),
  (112, ⟨.other, 1, 8, [.nilFunc]⟩),
  (116, ⟨.other, 1, 8, [.nilFunc]⟩),
  (117, ⟨.other, 1, 8, [.nilFunc]⟩),
  (120, ⟨.other, 1, 8, [.nilFunc]⟩),
  (133, ⟨.other, 1, 8, [.nilFunc]⟩),
  (134, ⟨.other, 1, 8, [.nilFunc]⟩),
  (135, ⟨.other, 1, 8, [.nilFunc]⟩),
  (136, ⟨.other, 1, 8, [.nilFunc]⟩),
  (142, ⟨.st [(0, 17), (1, 17), (2, 17), (3, 9)], 4, 40, [.pointer none, .pointer none, .pointer none, .string ⟨#[]⟩]⟩),
  (146, ⟨.int .u8, 1, 1, [.int .u8 0]⟩),
  (148, ⟨.other, 1, 8, [.nilFunc]⟩),
  (46, ⟨.other, 1, 8, [.nilFunc]⟩),
  (47, ⟨.other, 1, 8, [.nilFunc]⟩),
  (51, ⟨.other, 1, 8, [.nilFunc]⟩),
  (55, ⟨.other, 1, 8, [.nilFunc]⟩),
  (56, ⟨.other, 1, 8, [.nilFunc]⟩),
  (57, ⟨.st [(0, 3), (1, 3)], 2, 16, [.int .i64 0, .int .i64 0]⟩),
  (140, ⟨.other, 1, 8, [.nilFunc]⟩),
  (141, ⟨.st [(0, 17), (1, 17), (2, 17), (3, 9)], 4, 40, [.pointer none, .pointer none, .pointer none, .string ⟨#[]⟩]⟩),
  (143, ⟨.ar 0 16, 0, 0, []⟩),
  (144, ⟨.st [(0, 143)], 0, 0, []⟩),
  (149, ⟨.other, 1, 8, [.pointer none]⟩),
  (152, ⟨.st [(0, 12), (1, 12), (2, 118), (3, 146), (4, 5), (5, 5), (6, 147), (7, 148), (8, 149), (9, 150), (10, 151)], 11, 48, [.int .u64 0, .int .u64 0, .int .u32 0, .int .u8 0, .int .u8 0, .int .u8 0, .int .u8 0, .nilFunc, .pointer none, .int .i32 0, .int .i32 0]⟩),
  (154, ⟨.other, 1, 8, [.pointer none]⟩)]
theorem tg3 : GoodT Tryd.prog 3 ⟨.int .i64, 1, 8, [.int .i64 0]⟩ := ⟨⟨Tryd.t3, by kernel_rfl, by kernel_rfl, by kernel_rfl, _, rfl, by kernel_rfl, by kernel_rfl⟩, Tryd.underlying3⟩
theorem tg4 : GoodT Tryd.prog 4 ⟨.bool, 1, 1, [.bool false]⟩ := ⟨⟨Tryd.t4, by kernel_rfl, by kernel_rfl, by kernel_rfl, _, rfl, by kernel_rfl, by kernel_rfl⟩, Tryd.underlying4⟩
theorem tg1 : GoodT Tryd.prog 1 ⟨.other, 1, 8, [.nilFunc]⟩ := ⟨⟨Tryd.t1, by kernel_rfl, by kernel_rfl, by kernel_rfl, _, rfl, by kernel_rfl, by kernel_rfl⟩, ⟨_, Tryd.underlying1, rfl⟩⟩
theorem tg5 : GoodT Tryd.prog 5 ⟨.int .u8, 1, 1, [.int .u8 0]⟩ := ⟨⟨Tryd.t5, by kernel_rfl, by kernel_rfl, by kernel_rfl, _, rfl, by kernel_rfl, by kernel_rfl⟩, Tryd.underlying5⟩
theorem tg32 : GoodT Tryd.prog 32 ⟨.int .i64, 1, 8, [.int .i64 0]⟩ := ⟨⟨Tryd.t32, by kernel_rfl, by kernel_rfl, by kernel_rfl, _, rfl, by kernel_rfl, by kernel_rfl⟩, Tryd.underlying32⟩
theorem tg26 : GoodT Tryd.prog 26 ⟨.sl 58, 1, 24, [.slice none 0 0]⟩ := ⟨⟨Tryd.t26, by kernel_rfl, by kernel_rfl, by kernel_rfl, _, rfl, by kernel_rfl, by kernel_rfl⟩, Tryd.underlying26⟩
theorem tg35 : GoodT Tryd.prog 35 ⟨.sl 3, 1, 24, [.slice none 0 0]⟩ := ⟨⟨Tryd.t35, by kernel_rfl, by kernel_rfl, by kernel_rfl, _, rfl, by kernel_rfl, by kernel_rfl⟩, Tryd.underlying35⟩
theorem tg60 : GoodT Tryd.prog 60 ⟨.int .u64, 1, 8, [.int .u64 0]⟩ := ⟨⟨Tryd.t60, by kernel_rfl, by kernel_rfl, by kernel_rfl, _, rfl, by kernel_rfl, by kernel_rfl⟩, Tryd.underlying60⟩
theorem tg28 : GoodT Tryd.prog 28 ⟨.st [(0, 3), (1, 26)], 2, 32, [.int .i64 0, .slice none 0 0]⟩ := ⟨⟨Tryd.t28, by kernel_rfl, by kernel_rfl, by kernel_rfl, _, rfl, by kernel_rfl, by kernel_rfl⟩, ⟨_, Tryd.underlying28, rfl⟩⟩
theorem tg2 : GoodT Tryd.prog 2 ⟨.int .i64, 1, 8, [.int .i64 0]⟩ := ⟨⟨Tryd.t2, by kernel_rfl, by kernel_rfl, by kernel_rfl, _, rfl, by kernel_rfl, by kernel_rfl⟩, Tryd.underlying2⟩
theorem tg65 : GoodT Tryd.prog 65 ⟨.sl 60, 1, 24, [.slice none 0 0]⟩ := ⟨⟨Tryd.t65, by kernel_rfl, by kernel_rfl, by kernel_rfl, _, rfl, by kernel_rfl, by kernel_rfl⟩, Tryd.underlying65⟩
theorem tg6 : GoodT Tryd.prog 6 ⟨.int .u8, 1, 1, [.int .u8 0]⟩ := ⟨⟨Tryd.t6, by kernel_rfl, by kernel_rfl, by kernel_rfl, _, rfl, by kernel_rfl, by kernel_rfl⟩, Tryd.underlying6⟩
theorem tg7 : GoodT Tryd.prog 7 ⟨.st [(0, 2), (1, 3), (2, 4), (3, 6)], 4, 24, [.int .i64 0, .int .i64 0, .bool false, .int .u8 0]⟩ := ⟨⟨Tryd.t7, by kernel_rfl, by kernel_rfl, by kernel_rfl, _, rfl, by kernel_rfl, by kernel_rfl⟩, ⟨_, Tryd.underlying7, rfl⟩⟩
theorem tg30 : GoodT Tryd.prog 30 ⟨.sl 35, 1, 24, [.slice none 0 0]⟩ := ⟨⟨Tryd.t30, by kernel_rfl, by kernel_rfl, by kernel_rfl, _, rfl, by kernel_rfl, by kernel_rfl⟩, Tryd.underlying30⟩
theorem tg8 : GoodT Tryd.prog 8 ⟨.st [(0, 2), (1, 3), (2, 4), (3, 6)], 4, 24, [.int .i64 0, .int .i64 0, .bool false, .int .u8 0]⟩ := ⟨⟨Tryd.t8, by kernel_rfl, by kernel_rfl, by kernel_rfl, _, rfl, by kernel_rfl, by kernel_rfl⟩, ⟨_, Tryd.underlying8, rfl⟩⟩
theorem tg58 : GoodT Tryd.prog 58 ⟨.st [(0, 3), (1, 3)], 2, 16, [.int .i64 0, .int .i64 0]⟩ := ⟨⟨Tryd.t58, by kernel_rfl, by kernel_rfl, by kernel_rfl, _, rfl, by kernel_rfl, by kernel_rfl⟩, ⟨_, Tryd.underlying58, rfl⟩⟩
theorem tg59 : GoodT Tryd.prog 59 ⟨.int .u64, 1, 8, [.int .u64 0]⟩ := ⟨⟨Tryd.t59, by kernel_rfl, by kernel_rfl, by kernel_rfl, _, rfl, by kernel_rfl, by kernel_rfl⟩, Tryd.underlying59⟩
theorem tg9 : GoodT Tryd.prog 9 ⟨.str, 1, 16, [.string ⟨#[]⟩]⟩ := ⟨⟨Tryd.t9, by kernel_rfl, by kernel_rfl, by kernel_rfl, _, rfl, by kernel_rfl, by kernel_rfl⟩, Tryd.underlying9⟩
theorem tg71 : GoodT Tryd.prog 71 ⟨.other, 1, 8, [.nilFunc]⟩ := ⟨⟨Tryd.t71, by kernel_rfl, by kernel_rfl, by kernel_rfl, _, rfl, by kernel_rfl, by kernel_rfl⟩, ⟨_, Tryd.underlying71, rfl⟩⟩
theorem tg91 : GoodT Tryd.prog 91 ⟨.other, 1, 8, [.nilFunc]⟩ := ⟨⟨Tryd.t91, by kernel_rfl, by kernel_rfl, by kernel_rfl, _, rfl, by kernel_rfl, by kernel_rfl⟩, ⟨_, Tryd.underlying91, rfl⟩⟩
theorem tg10 : GoodT Tryd.prog 10 ⟨.str, 1, 16, [.string ⟨#[]⟩]⟩ := ⟨⟨Tryd.t10, by kernel_rfl, by kernel_rfl, by kernel_rfl, _, rfl, by kernel_rfl, by kernel_rfl⟩, Tryd.underlying10⟩
theorem tg11 : GoodT Tryd.prog 11 ⟨.str, 1, 16, [.string ⟨#[]⟩]⟩ := ⟨⟨Tryd.t11, by kernel_rfl, by kernel_rfl, by kernel_rfl, _, rfl, by kernel_rfl, by kernel_rfl⟩, Tryd.underlying11⟩
theorem tg99 : GoodT Tryd.prog 99 ⟨.int .u64, 1, 8, [.int .u64 0]⟩ := ⟨⟨Tryd.t99, by kernel_rfl, by kernel_rfl, by kernel_rfl, _, rfl, by kernel_rfl, by kernel_rfl⟩, Tryd.underlying99⟩
theorem tg126 : GoodT Tryd.prog 126 ⟨.other, 1, 8, [.pointer none]⟩ := ⟨⟨Tryd.t126, by kernel_rfl, by kernel_rfl, by kernel_rfl, _, rfl, by kernel_rfl, by kernel_rfl⟩, ⟨_, Tryd.underlying126, rfl⟩⟩
theorem tg110 : GoodT Tryd.prog 110 ⟨.int .i64, 1, 8, [.int .i64 0]⟩ := ⟨⟨Tryd.t110, by kernel_rfl, by kernel_rfl, by kernel_rfl, _, rfl, by kernel_rfl, by kernel_rfl⟩, Tryd.underlying110⟩
theorem tg24 : GoodT Tryd.prog 24 ⟨.st [(0, 5), (1, 22)], 2, 32, [.int .u8 0, .slice none 0 0]⟩ := ⟨⟨Tryd.t24, by kernel_rfl, by kernel_rfl, by kernel_rfl, _, rfl, by kernel_rfl, by kernel_rfl⟩, ⟨_, Tryd.underlying24, rfl⟩⟩
theorem tg13 : GoodT Tryd.prog 13 ⟨.st [(0, 9), (1, 12)], 2, 24, [.string ⟨#[]⟩, .int .u64 0]⟩ := ⟨⟨Tryd.t13, by kernel_rfl, by kernel_rfl, by kernel_rfl, _, rfl, by kernel_rfl, by kernel_rfl⟩, ⟨_, Tryd.underlying13, rfl⟩⟩
theorem tg95 : GoodT Tryd.prog 95 ⟨.sl 4, 1, 24, [.slice none 0 0]⟩ := ⟨⟨Tryd.t95, by kernel_rfl, by kernel_rfl, by kernel_rfl, _, rfl, by kernel_rfl, by kernel_rfl⟩, Tryd.underlying95⟩
theorem tg122 : GoodT Tryd.prog 122 ⟨.int .u64, 1, 8, [.int .u64 0]⟩ := ⟨⟨Tryd.t122, by kernel_rfl, by kernel_rfl, by kernel_rfl, _, rfl, by kernel_rfl, by kernel_rfl⟩, Tryd.underlying122⟩
theorem tg12 : GoodT Tryd.prog 12 ⟨.int .u64, 1, 8, [.int .u64 0]⟩ := ⟨⟨Tryd.t12, by kernel_rfl, by kernel_rfl, by kernel_rfl, _, rfl, by kernel_rfl, by kernel_rfl⟩, Tryd.underlying12⟩
theorem tg14 : GoodT Tryd.prog 14 ⟨.st [(0, 9), (1, 12)], 2, 24, [.string ⟨#[]⟩, .int .u64 0]⟩ := ⟨⟨Tryd.t14, by kernel_rfl, by kernel_rfl, by kernel_rfl, _, rfl, by kernel_rfl, by kernel_rfl⟩, ⟨_, Tryd.underlying14, rfl⟩⟩
theorem tg62 : GoodT Tryd.prog 62 ⟨.st [(0, 60), (1, 3), (2, 3)], 3, 24, [.int .u64 0, .int .i64 0, .int .i64 0]⟩ := ⟨⟨Tryd.t62, by kernel_rfl, by kernel_rfl, by kernel_rfl, _, rfl, by kernel_rfl, by kernel_rfl⟩, ⟨_, Tryd.underlying62, rfl⟩⟩
theorem tg15 : GoodT Tryd.prog 15 ⟨.other, 1, 8, [.pointer none]⟩ := ⟨⟨Tryd.t15, by kernel_rfl, by kernel_rfl, by kernel_rfl, _, rfl, by kernel_rfl, by kernel_rfl⟩, ⟨_, Tryd.underlying15, rfl⟩⟩
theorem tg100 : GoodT Tryd.prog 100 ⟨.sl 95, 1, 24, [.slice none 0 0]⟩ := ⟨⟨Tryd.t100, by kernel_rfl, by kernel_rfl, by kernel_rfl, _, rfl, by kernel_rfl, by kernel_rfl⟩, Tryd.underlying100⟩
theorem tg129 : GoodT Tryd.prog 129 ⟨.other, 1, 8, [.pointer none]⟩ := ⟨⟨Tryd.t129, by kernel_rfl, by kernel_rfl, by kernel_rfl, _, rfl, by kernel_rfl, by kernel_rfl⟩, ⟨_, Tryd.underlying129, rfl⟩⟩
theorem tg16 : GoodT Tryd.prog 16 ⟨.other, 1, 8, [.pointer none]⟩ := ⟨⟨Tryd.t16, by kernel_rfl, by kernel_rfl, by kernel_rfl, _, rfl, by kernel_rfl, by kernel_rfl⟩, ⟨_, Tryd.underlying16, rfl⟩⟩
theorem tg22 : GoodT Tryd.prog 22 ⟨.sl 5, 1, 24, [.slice none 0 0]⟩ := ⟨⟨Tryd.t22, by kernel_rfl, by kernel_rfl, by kernel_rfl, _, rfl, by kernel_rfl, by kernel_rfl⟩, Tryd.underlying22⟩
theorem tg29 : GoodT Tryd.prog 29 ⟨.other, 1, 8, [.nilFunc]⟩ := ⟨⟨Tryd.t29, by kernel_rfl, by kernel_rfl, by kernel_rfl, _, rfl, by kernel_rfl, by kernel_rfl⟩, ⟨_, Tryd.underlying29, rfl⟩⟩
theorem tg50 : GoodT Tryd.prog 50 ⟨.other, 1, 8, [.nilFunc]⟩ := ⟨⟨Tryd.t50, by kernel_rfl, by kernel_rfl, by kernel_rfl, _, rfl, by kernel_rfl, by kernel_rfl⟩, ⟨_, Tryd.underlying50, rfl⟩⟩
theorem tg118 : GoodT Tryd.prog 118 ⟨.int .u32, 1, 4, [.int .u32 0]⟩ := ⟨⟨Tryd.t118, by kernel_rfl, by kernel_rfl, by kernel_rfl, _, rfl, by kernel_rfl, by kernel_rfl⟩, Tryd.underlying118⟩
theorem tg41 : GoodT Tryd.prog 41 ⟨.other, 1, 8, [.nilFunc]⟩ := ⟨⟨Tryd.t41, by kernel_rfl, by kernel_rfl, by kernel_rfl, _, rfl, by kernel_rfl, by kernel_rfl⟩, ⟨_, Tryd.underlying41, rfl⟩⟩
theorem tg43 : GoodT Tryd.prog 43 ⟨.other, 1, 8, [.nilFunc]⟩ := ⟨⟨Tryd.t43, by kernel_rfl, by kernel_rfl, by kernel_rfl, _, rfl, by kernel_rfl, by kernel_rfl⟩, ⟨_, Tryd.underlying43, rfl⟩⟩
theorem tg70 : GoodT Tryd.prog 70 ⟨.other, 1, 8, [.nilFunc]⟩ := ⟨⟨Tryd.t70, by kernel_rfl, by kernel_rfl, by kernel_rfl, _, rfl, by kernel_rfl, by kernel_rfl⟩, ⟨_, Tryd.underlying70, rfl⟩⟩
theorem tg17 : GoodT Tryd.prog 17 ⟨.other, 1, 8, [.pointer none]⟩ := ⟨⟨Tryd.t17, by kernel_rfl, by kernel_rfl, by kernel_rfl, _, rfl, by kernel_rfl, by kernel_rfl⟩, ⟨_, Tryd.underlying17, rfl⟩⟩
theorem tg25 : GoodT Tryd.prog 25 ⟨.other, 1, 8, [.nilFunc]⟩ := ⟨⟨Tryd.t25, by kernel_rfl, by kernel_rfl, by kernel_rfl, _, rfl, by kernel_rfl, by kernel_rfl⟩, ⟨_, Tryd.underlying25, rfl⟩⟩
theorem tg39 : GoodT Tryd.prog 39 ⟨.other, 1, 8, [.nilFunc]⟩ := ⟨⟨Tryd.t39, by kernel_rfl, by kernel_rfl, by kernel_rfl, _, rfl, by kernel_rfl, by kernel_rfl⟩, ⟨_, Tryd.underlying39, rfl⟩⟩
theorem tg73 : GoodT Tryd.prog 73 ⟨.other, 1, 8, [.nilFunc]⟩ := ⟨⟨Tryd.t73, by kernel_rfl, by kernel_rfl, by kernel_rfl, _, rfl, by kernel_rfl, by kernel_rfl⟩, ⟨_, Tryd.underlying73, rfl⟩⟩
theorem tg102 : GoodT Tryd.prog 102 ⟨.other, 1, 8, [.nilFunc]⟩ := ⟨⟨Tryd.t102, by kernel_rfl, by kernel_rfl, by kernel_rfl, _, rfl, by kernel_rfl, by kernel_rfl⟩, ⟨_, Tryd.underlying102, rfl⟩⟩
theorem tg34 : GoodT Tryd.prog 34 ⟨.other, 1, 8, [.nilFunc]⟩ := ⟨⟨Tryd.t34, by kernel_rfl, by kernel_rfl, by kernel_rfl, _, rfl, by kernel_rfl, by kernel_rfl⟩, ⟨_, Tryd.underlying34, rfl⟩⟩
theorem tg38 : GoodT Tryd.prog 38 ⟨.other, 1, 8, [.nilFunc]⟩ := ⟨⟨Tryd.t38, by kernel_rfl, by kernel_rfl, by kernel_rfl, _, rfl, by kernel_rfl, by kernel_rfl⟩, ⟨_, Tryd.underlying38, rfl⟩⟩
theorem tg40 : GoodT Tryd.prog 40 ⟨.other, 1, 8, [.nilFunc]⟩ := ⟨⟨Tryd.t40, by kernel_rfl, by kernel_rfl, by kernel_rfl, _, rfl, by kernel_rfl, by kernel_rfl⟩, ⟨_, Tryd.underlying40, rfl⟩⟩
theorem tg42 : GoodT Tryd.prog 42 ⟨.other, 1, 8, [.nilFunc]⟩ := ⟨⟨Tryd.t42, by kernel_rfl, by kernel_rfl, by kernel_rfl, _, rfl, by kernel_rfl, by kernel_rfl⟩, ⟨_, Tryd.underlying42, rfl⟩⟩
theorem tg90 : GoodT Tryd.prog 90 ⟨.other, 1, 8, [.nilFunc]⟩ := ⟨⟨Tryd.t90, by kernel_rfl, by kernel_rfl, by kernel_rfl, _, rfl, by kernel_rfl, by kernel_rfl⟩, ⟨_, Tryd.underlying90, rfl⟩⟩
theorem tg128 : GoodT Tryd.prog 128 ⟨.other, 1, 8, [.nilFunc]⟩ := ⟨⟨Tryd.t128, by kernel_rfl, by kernel_rfl, by kernel_rfl, _, rfl, by kernel_rfl, by kernel_rfl⟩, ⟨_, Tryd.underlying128, rfl⟩⟩
theorem tg37 : GoodT Tryd.prog 37 ⟨.other, 1, 8, [.nilFunc]⟩ := ⟨⟨Tryd.t37, by kernel_rfl, by kernel_rfl, by kernel_rfl, _, rfl, by kernel_rfl, by kernel_rfl⟩, ⟨_, Tryd.underlying37, rfl⟩⟩
theorem tg49 : GoodT Tryd.prog 49 ⟨.other, 1, 8, [.nilFunc]⟩ := ⟨⟨Tryd.t49, by kernel_rfl, by kernel_rfl, by kernel_rfl, _, rfl, by kernel_rfl, by kernel_rfl⟩, ⟨_, Tryd.underlying49, rfl⟩⟩
theorem tg89 : GoodT Tryd.prog 89 ⟨.other, 1, 8, [.nilFunc]⟩ := ⟨⟨Tryd.t89, by kernel_rfl, by kernel_rfl, by kernel_rfl, _, rfl, by kernel_rfl, by kernel_rfl⟩, ⟨_, Tryd.underlying89, rfl⟩⟩
theorem tg92 : GoodT Tryd.prog 92 ⟨.other, 1, 8, [.map none]⟩ := ⟨⟨Tryd.t92, by kernel_rfl, by kernel_rfl, by kernel_rfl, _, rfl, by kernel_rfl, by kernel_rfl⟩, ⟨_, Tryd.underlying92, rfl⟩⟩
theorem tg97 : GoodT Tryd.prog 97 ⟨.other, 1, 8, [.nilFunc]⟩ := ⟨⟨Tryd.t97, by kernel_rfl, by kernel_rfl, by kernel_rfl, _, rfl, by kernel_rfl, by kernel_rfl⟩, ⟨_, Tryd.underlying97, rfl⟩⟩
theorem tg109 : GoodT Tryd.prog 109 ⟨.other, 1, 8, [.nilFunc]⟩ := ⟨⟨Tryd.t109, by kernel_rfl, by kernel_rfl, by kernel_rfl, _, rfl, by kernel_rfl, by kernel_rfl⟩, ⟨_, Tryd.underlying109, rfl⟩⟩
theorem tg131 : GoodT Tryd.prog 131 ⟨.other, 1, 8, [.nilFunc]⟩ := ⟨⟨Tryd.t131, by kernel_rfl, by kernel_rfl, by kernel_rfl, _, rfl, by kernel_rfl, by kernel_rfl⟩, ⟨_, Tryd.underlying131, rfl⟩⟩
theorem tg19 : GoodT Tryd.prog 19 ⟨.st [(0, 17)], 1, 8, [.pointer none]⟩ := ⟨⟨Tryd.t19, by kernel_rfl, by kernel_rfl, by kernel_rfl, _, rfl, by kernel_rfl, by kernel_rfl⟩, ⟨_, Tryd.underlying19, rfl⟩⟩
theorem tg53 : GoodT Tryd.prog 53 ⟨.other, 1, 8, [.nilFunc]⟩ := ⟨⟨Tryd.t53, by kernel_rfl, by kernel_rfl, by kernel_rfl, _, rfl, by kernel_rfl, by kernel_rfl⟩, ⟨_, Tryd.underlying53, rfl⟩⟩
theorem tg69 : GoodT Tryd.prog 69 ⟨.other, 1, 8, [.nilFunc]⟩ := ⟨⟨Tryd.t69, by kernel_rfl, by kernel_rfl, by kernel_rfl, _, rfl, by kernel_rfl, by kernel_rfl⟩, ⟨_, Tryd.underlying69, rfl⟩⟩
theorem tg72 : GoodT Tryd.prog 72 ⟨.other, 1, 8, [.nilFunc]⟩ := ⟨⟨Tryd.t72, by kernel_rfl, by kernel_rfl, by kernel_rfl, _, rfl, by kernel_rfl, by kernel_rfl⟩, ⟨_, Tryd.underlying72, rfl⟩⟩
theorem tg77 : GoodT Tryd.prog 77 ⟨.other, 1, 8, [.nilFunc]⟩ := ⟨⟨Tryd.t77, by kernel_rfl, by kernel_rfl, by kernel_rfl, _, rfl, by kernel_rfl, by kernel_rfl⟩, ⟨_, Tryd.underlying77, rfl⟩⟩
theorem tg79 : GoodT Tryd.prog 79 ⟨.other, 1, 8, [.nilFunc]⟩ := ⟨⟨Tryd.t79, by kernel_rfl, by kernel_rfl, by kernel_rfl, _, rfl, by kernel_rfl, by kernel_rfl⟩, ⟨_, Tryd.underlying79, rfl⟩⟩
theorem tg81 : GoodT Tryd.prog 81 ⟨.other, 1, 8, [.nilFunc]⟩ := ⟨⟨Tryd.t81, by kernel_rfl, by kernel_rfl, by kernel_rfl, _, rfl, by kernel_rfl, by kernel_rfl⟩, ⟨_, Tryd.underlying81, rfl⟩⟩
theorem tg103 : GoodT Tryd.prog 103 ⟨.ar 64 5, 64, 64, [.int .u8 0, .int .u8 0, .int .u8 0, .int .u8 0, .int .u8 0, .int .u8 0, .int .u8 0, .int .u8 0, .int .u8 0, .int .u8 0, .int .u8 0, .int .u8 0, .int .u8 0, .int .u8 0, .int .u8 0, .int .u8 0, .int .u8 0, .int .u8 0, .int .u8 0, .int .u8 0, .int .u8 0, .int .u8 0, .int .u8 0, .int .u8 0, .int .u8 0, .int .u8 0, .int .u8 0, .int .u8 0, .int .u8 0, .int .u8 0, .int .u8 0, .int .u8 0, .int .u8 0, .int .u8 0, .int .u8 0, .int .u8 0, .int .u8 0, .int .u8 0, .int .u8 0, .int .u8 0, .int .u8 0, .int .u8 0, .int .u8 0, .int .u8 0, .int .u8 0, .int .u8 0, .int .u8 0, .int .u8 0, .int .u8 0, .int .u8 0, .int .u8 0, .int .u8 0, .int .u8 0, .int .u8 0, .int .u8 0, .int .u8 0, .int .u8 0, .int .u8 0, .int .u8 0, .int .u8 0, .int .u8 0, .int .u8 0, .int .u8 0, .int .u8 0]⟩ := ⟨⟨Tryd.t103, by kernel_rfl, by kernel_rfl, by kernel_rfl, _, rfl, by kernel_rfl, by kernel_rfl⟩, Tryd.underlying103⟩
theorem tg132 : GoodT Tryd.prog 132 ⟨.other, 1, 8, [.nilFunc]⟩ := ⟨⟨Tryd.t132, by kernel_rfl, by kernel_rfl, by kernel_rfl, _, rfl, by kernel_rfl, by kernel_rfl⟩, ⟨_, Tryd.underlying132, rfl⟩⟩
theorem tg18 : GoodT Tryd.prog 18 ⟨.st [(0, 17)], 1, 8, [.pointer none]⟩ := ⟨⟨Tryd.t18, by kernel_rfl, by kernel_rfl, by kernel_rfl, _, rfl, by kernel_rfl, by kernel_rfl⟩, ⟨_, Tryd.underlying18, rfl⟩⟩
theorem tg21 : GoodT Tryd.prog 21 ⟨.int .i32, 1, 4, [.int .i32 0]⟩ := ⟨⟨Tryd.t21, by kernel_rfl, by kernel_rfl, by kernel_rfl, _, rfl, by kernel_rfl, by kernel_rfl⟩, Tryd.underlying21⟩
theorem tg31 : GoodT Tryd.prog 31 ⟨.other, 1, 8, [.nilFunc]⟩ := ⟨⟨Tryd.t31, by kernel_rfl, by kernel_rfl, by kernel_rfl, _, rfl, by kernel_rfl, by kernel_rfl⟩, ⟨_, Tryd.underlying31, rfl⟩⟩
theorem tg45 : GoodT Tryd.prog 45 ⟨.other, 1, 8, [.nilFunc]⟩ := ⟨⟨Tryd.t45, by kernel_rfl, by kernel_rfl, by kernel_rfl, _, rfl, by kernel_rfl, by kernel_rfl⟩, ⟨_, Tryd.underlying45, rfl⟩⟩
theorem tg83 : GoodT Tryd.prog 83 ⟨.other, 1, 8, [.nilFunc]⟩ := ⟨⟨Tryd.t83, by kernel_rfl, by kernel_rfl, by kernel_rfl, _, rfl, by kernel_rfl, by kernel_rfl⟩, ⟨_, Tryd.underlying83, rfl⟩⟩
theorem tg85 : GoodT Tryd.prog 85 ⟨.other, 1, 8, [.nilFunc]⟩ := ⟨⟨Tryd.t85, by kernel_rfl, by kernel_rfl, by kernel_rfl, _, rfl, by kernel_rfl, by kernel_rfl⟩, ⟨_, Tryd.underlying85, rfl⟩⟩
theorem tg96 : GoodT Tryd.prog 96 ⟨.other, 1, 8, [.nilFunc]⟩ := ⟨⟨Tryd.t96, by kernel_rfl, by kernel_rfl, by kernel_rfl, _, rfl, by kernel_rfl, by kernel_rfl⟩, ⟨_, Tryd.underlying96, rfl⟩⟩
theorem tg98 : GoodT Tryd.prog 98 ⟨.other, 1, 8, [.nilFunc]⟩ := ⟨⟨Tryd.t98, by kernel_rfl, by kernel_rfl, by kernel_rfl, _, rfl, by kernel_rfl, by kernel_rfl⟩, ⟨_, Tryd.underlying98, rfl⟩⟩
theorem tg114 : GoodT Tryd.prog 114 ⟨.other, 1, 8, [.nilFunc]⟩ := ⟨⟨Tryd.t114, by kernel_rfl, by kernel_rfl, by kernel_rfl, _, rfl, by kernel_rfl, by kernel_rfl⟩, ⟨_, Tryd.underlying114, rfl⟩⟩
theorem tg124 : GoodT Tryd.prog 124 ⟨.other, 1, 8, [.nilFunc]⟩ := ⟨⟨Tryd.t124, by kernel_rfl, by kernel_rfl, by kernel_rfl, _, rfl, by kernel_rfl, by kernel_rfl⟩, ⟨_, Tryd.underlying124, rfl⟩⟩
theorem tg125 : GoodT Tryd.prog 125 ⟨.other, 1, 8, [.nilFunc]⟩ := ⟨⟨Tryd.t125, by kernel_rfl, by kernel_rfl, by kernel_rfl, _, rfl, by kernel_rfl, by kernel_rfl⟩, ⟨_, Tryd.underlying125, rfl⟩⟩
theorem tg137 : GoodT Tryd.prog 137 ⟨.other, 1, 8, [.nilFunc]⟩ := ⟨⟨Tryd.t137, by kernel_rfl, by kernel_rfl, by kernel_rfl, _, rfl, by kernel_rfl, by kernel_rfl⟩, ⟨_, Tryd.underlying137, rfl⟩⟩
theorem tg139 : GoodT Tryd.prog 139 ⟨.other, 1, 8, [.nilFunc]⟩ := ⟨⟨Tryd.t139, by kernel_rfl, by kernel_rfl, by kernel_rfl, _, rfl, by kernel_rfl, by kernel_rfl⟩, ⟨_, Tryd.underlying139, rfl⟩⟩
theorem tg20 : GoodT Tryd.prog 20 ⟨.other, 1, 16, [.nilIface]⟩ := ⟨⟨Tryd.t20, by kernel_rfl, by kernel_rfl, by kernel_rfl, _, rfl, by kernel_rfl, by kernel_rfl⟩, ⟨_, Tryd.underlying20, rfl⟩⟩
theorem tg27 : GoodT Tryd.prog 27 ⟨.st [(0, 3), (1, 26)], 2, 32, [.int .i64 0, .slice none 0 0]⟩ := ⟨⟨Tryd.t27, by kernel_rfl, by kernel_rfl, by kernel_rfl, _, rfl, by kernel_rfl, by kernel_rfl⟩, ⟨_, Tryd.underlying27, rfl⟩⟩
theorem tg54 : GoodT Tryd.prog 54 ⟨.other, 1, 8, [.nilFunc]⟩ := ⟨⟨Tryd.t54, by kernel_rfl, by kernel_rfl, by kernel_rfl, _, rfl, by kernel_rfl, by kernel_rfl⟩, ⟨_, Tryd.underlying54, rfl⟩⟩
theorem tg64 : GoodT Tryd.prog 64 ⟨.other, 1, 8, [.nilFunc]⟩ := ⟨⟨Tryd.t64, by kernel_rfl, by kernel_rfl, by kernel_rfl, _, rfl, by kernel_rfl, by kernel_rfl⟩, ⟨_, Tryd.underlying64, rfl⟩⟩
theorem tg67 : GoodT Tryd.prog 67 ⟨.other, 1, 8, [.nilFunc]⟩ := ⟨⟨Tryd.t67, by kernel_rfl, by kernel_rfl, by kernel_rfl, _, rfl, by kernel_rfl, by kernel_rfl⟩, ⟨_, Tryd.underlying67, rfl⟩⟩
theorem tg68 : GoodT Tryd.prog 68 ⟨.other, 1, 8, [.nilFunc]⟩ := ⟨⟨Tryd.t68, by kernel_rfl, by kernel_rfl, by kernel_rfl, _, rfl, by kernel_rfl, by kernel_rfl⟩, ⟨_, Tryd.underlying68, rfl⟩⟩
theorem tg75 : GoodT Tryd.prog 75 ⟨.other, 1, 8, [.nilFunc]⟩ := ⟨⟨Tryd.t75, by kernel_rfl, by kernel_rfl, by kernel_rfl, _, rfl, by kernel_rfl, by kernel_rfl⟩, ⟨_, Tryd.underlying75, rfl⟩⟩
theorem tg76 : GoodT Tryd.prog 76 ⟨.other, 1, 8, [.nilFunc]⟩ := ⟨⟨Tryd.t76, by kernel_rfl, by kernel_rfl, by kernel_rfl, _, rfl, by kernel_rfl, by kernel_rfl⟩, ⟨_, Tryd.underlying76, rfl⟩⟩
theorem tg80 : GoodT Tryd.prog 80 ⟨.other, 1, 8, [.nilFunc]⟩ := ⟨⟨Tryd.t80, by kernel_rfl, by kernel_rfl, by kernel_rfl, _, rfl, by kernel_rfl, by kernel_rfl⟩, ⟨_, Tryd.underlying80, rfl⟩⟩
theorem tg88 : GoodT Tryd.prog 88 ⟨.other, 1, 8, [.nilFunc]⟩ := ⟨⟨Tryd.t88, by kernel_rfl, by kernel_rfl, by kernel_rfl, _, rfl, by kernel_rfl, by kernel_rfl⟩, ⟨_, Tryd.underlying88, rfl⟩⟩
theorem tg94 : GoodT Tryd.prog 94 ⟨.other, 1, 8, [.nilFunc]⟩ := ⟨⟨Tryd.t94, by kernel_rfl, by kernel_rfl, by kernel_rfl, _, rfl, by kernel_rfl, by kernel_rfl⟩, ⟨_, Tryd.underlying94, rfl⟩⟩
theorem tg101 : GoodT Tryd.prog 101 ⟨.other, 1, 8, [.nilFunc]⟩ := ⟨⟨Tryd.t101, by kernel_rfl, by kernel_rfl, by kernel_rfl, _, rfl, by kernel_rfl, by kernel_rfl⟩, ⟨_, Tryd.underlying101, rfl⟩⟩
theorem tg106 : GoodT Tryd.prog 106 ⟨.other, 1, 8, [.nilFunc]⟩ := ⟨⟨Tryd.t106, by kernel_rfl, by kernel_rfl, by kernel_rfl, _, rfl, by kernel_rfl, by kernel_rfl⟩, ⟨_, Tryd.underlying106, rfl⟩⟩
theorem tg107 : GoodT Tryd.prog 107 ⟨.other, 1, 8, [.nilFunc]⟩ := ⟨⟨Tryd.t107, by kernel_rfl, by kernel_rfl, by kernel_rfl, _, rfl, by kernel_rfl, by kernel_rfl⟩, ⟨_, Tryd.underlying107, rfl⟩⟩
theorem tg113 : GoodT Tryd.prog 113 ⟨.other, 1, 8, [.nilFunc]⟩ := ⟨⟨Tryd.t113, by kernel_rfl, by kernel_rfl, by kernel_rfl, _, rfl, by kernel_rfl, by kernel_rfl⟩, ⟨_, Tryd.underlying113, rfl⟩⟩
theorem tg119 : GoodT Tryd.prog 119 ⟨.other, 1, 8, [.nilFunc]⟩ := ⟨⟨Tryd.t119, by kernel_rfl, by kernel_rfl, by kernel_rfl, _, rfl, by kernel_rfl, by kernel_rfl⟩, ⟨_, Tryd.underlying119, rfl⟩⟩
theorem tg121 : GoodT Tryd.prog 121 ⟨.other, 1, 8, [.nilFunc]⟩ := ⟨⟨Tryd.t121, by kernel_rfl, by kernel_rfl, by kernel_rfl, _, rfl, by kernel_rfl, by kernel_rfl⟩, ⟨_, Tryd.underlying121, rfl⟩⟩
theorem tg123 : GoodT Tryd.prog 123 ⟨.other, 1, 8, [.nilFunc]⟩ := ⟨⟨Tryd.t123, by kernel_rfl, by kernel_rfl, by kernel_rfl, _, rfl, by kernel_rfl, by kernel_rfl⟩, ⟨_, Tryd.underlying123, rfl⟩⟩
theorem tg127 : GoodT Tryd.prog 127 ⟨.other, 1, 8, [.nilFunc]⟩ := ⟨⟨Tryd.t127, by kernel_rfl, by kernel_rfl, by kernel_rfl, _, rfl, by kernel_rfl, by kernel_rfl⟩, ⟨_, Tryd.underlying127, rfl⟩⟩
theorem tg138 : GoodT Tryd.prog 138 ⟨.other, 1, 8, [.nilFunc]⟩ := ⟨⟨Tryd.t138, by kernel_rfl, by kernel_rfl, by kernel_rfl, _, rfl, by kernel_rfl, by kernel_rfl⟩, ⟨_, Tryd.underlying138, rfl⟩⟩
theorem tg145 : GoodT Tryd.prog 145 ⟨.st [(0, 143)], 0, 0, []⟩ := ⟨⟨Tryd.t145, by kernel_rfl, by kernel_rfl, by kernel_rfl, _, rfl, by kernel_rfl, by kernel_rfl⟩, ⟨_, Tryd.underlying145, rfl⟩⟩
theorem tg147 : GoodT Tryd.prog 147 ⟨.int .u8, 1, 1, [.int .u8 0]⟩ := ⟨⟨Tryd.t147, by kernel_rfl, by kernel_rfl, by kernel_rfl, _, rfl, by kernel_rfl, by kernel_rfl⟩, Tryd.underlying147⟩
theorem tg150 : GoodT Tryd.prog 150 ⟨.int .i32, 1, 4, [.int .i32 0]⟩ := ⟨⟨Tryd.t150, by kernel_rfl, by kernel_rfl, by kernel_rfl, _, rfl, by kernel_rfl, by kernel_rfl⟩, Tryd.underlying150⟩
theorem tg151 : GoodT Tryd.prog 151 ⟨.int .i32, 1, 4, [.int .i32 0]⟩ := ⟨⟨Tryd.t151, by kernel_rfl, by kernel_rfl, by kernel_rfl, _, rfl, by kernel_rfl, by kernel_rfl⟩, Tryd.underlying151⟩
theorem tg153 : GoodT Tryd.prog 153 ⟨.st [(0, 12), (1, 12), (2, 118), (3, 146), (4, 5), (5, 5), (6, 147), (7, 148), (8, 149), (9, 150), (10, 151)], 11, 48, [.int .u64 0, .int .u64 0, .int .u32 0, .int .u8 0, .int .u8 0, .int .u8 0, .int .u8 0, .nilFunc, .pointer none, .int .i32 0, .int .i32 0]⟩ := ⟨⟨Tryd.t153, by kernel_rfl, by kernel_rfl, by kernel_rfl, _, rfl, by kernel_rfl, by kernel_rfl⟩, ⟨_, Tryd.underlying153, rfl⟩⟩
theorem tg23 : GoodT Tryd.prog 23 ⟨.st [(0, 5), (1, 22)], 2, 32, [.int .u8 0, .slice none 0 0]⟩ := ⟨⟨Tryd.t23, by kernel_rfl, by kernel_rfl, by kernel_rfl, _, rfl, by kernel_rfl, by kernel_rfl⟩, ⟨_, Tryd.underlying23, rfl⟩⟩
theorem tg61 : GoodT Tryd.prog 61 ⟨.st [(0, 60), (1, 3), (2, 3)], 3, 24, [.int .u64 0, .int .i64 0, .int .i64 0]⟩ := ⟨⟨Tryd.t61, by kernel_rfl, by kernel_rfl, by kernel_rfl, _, rfl, by kernel_rfl, by kernel_rfl⟩, ⟨_, Tryd.underlying61, rfl⟩⟩
theorem tg74 : GoodT Tryd.prog 74 ⟨.other, 1, 8, [.nilFunc]⟩ := ⟨⟨Tryd.t74, by kernel_rfl, by kernel_rfl, by kernel_rfl, _, rfl, by kernel_rfl, by kernel_rfl⟩, ⟨_, Tryd.underlying74, rfl⟩⟩
theorem tg78 : GoodT Tryd.prog 78 ⟨.other, 1, 8, [.nilFunc]⟩ := ⟨⟨Tryd.t78, by kernel_rfl, by kernel_rfl, by kernel_rfl, _, rfl, by kernel_rfl, by kernel_rfl⟩, ⟨_, Tryd.underlying78, rfl⟩⟩
theorem tg82 : GoodT Tryd.prog 82 ⟨.other, 1, 8, [.nilFunc]⟩ := ⟨⟨Tryd.t82, by kernel_rfl, by kernel_rfl, by kernel_rfl, _, rfl, by kernel_rfl, by kernel_rfl⟩, ⟨_, Tryd.underlying82, rfl⟩⟩
theorem tg87 : GoodT Tryd.prog 87 ⟨.other, 1, 8, [.nilFunc]⟩ := ⟨⟨Tryd.t87, by kernel_rfl, by kernel_rfl, by kernel_rfl, _, rfl, by kernel_rfl, by kernel_rfl⟩, ⟨_, Tryd.underlying87, rfl⟩⟩
theorem tg93 : GoodT Tryd.prog 93 ⟨.other, 1, 8, [.nilFunc]⟩ := ⟨⟨Tryd.t93, by kernel_rfl, by kernel_rfl, by kernel_rfl, _, rfl, by kernel_rfl, by kernel_rfl⟩, ⟨_, Tryd.underlying93, rfl⟩⟩
theorem tg105 : GoodT Tryd.prog 105 ⟨.other, 1, 8, [.nilFunc]⟩ := ⟨⟨Tryd.t105, by kernel_rfl, by kernel_rfl, by kernel_rfl, _, rfl, by kernel_rfl, by kernel_rfl⟩, ⟨_, Tryd.underlying105, rfl⟩⟩
theorem tg108 : GoodT Tryd.prog 108 ⟨.other, 1, 8, [.nilFunc]⟩ := ⟨⟨Tryd.t108, by kernel_rfl, by kernel_rfl, by kernel_rfl, _, rfl, by kernel_rfl, by kernel_rfl⟩, ⟨_, Tryd.underlying108, rfl⟩⟩
theorem tg112 : GoodT Tryd.prog 112 ⟨.other, 1, 8, [.nilFunc]⟩ := ⟨⟨Tryd.t112, by kernel_rfl, by kernel_rfl, by kernel_rfl, _, rfl, by kernel_rfl, by kernel_rfl⟩, ⟨_, Tryd.underlying112, rfl⟩⟩
theorem tg116 : GoodT Tryd.prog 116 ⟨.other, 1, 8, [.nilFunc]⟩ := ⟨⟨Tryd.t116, by kernel_rfl, by kernel_rfl, by kernel_rfl, _, rfl, by kernel_rfl, by kernel_rfl⟩, ⟨_, Tryd.underlying116, rfl⟩⟩
theorem tg117 : GoodT Tryd.prog 117 ⟨.other, 1, 8, [.nilFunc]⟩ := ⟨⟨Tryd.t117, by kernel_rfl, by kernel_rfl, by kernel_rfl, _, rfl, by kernel_rfl, by kernel_rfl⟩, ⟨_, Tryd.underlying117, rfl⟩⟩
theorem tg120 : GoodT Tryd.prog 120 ⟨.other, 1, 8, [.nilFunc]⟩ := ⟨⟨Tryd.t120, by kernel_rfl, by kernel_rfl, by kernel_rfl, _, rfl, by kernel_rfl, by kernel_rfl⟩, ⟨_, Tryd.underlying120, rfl⟩⟩
theorem tg133 : GoodT Tryd.prog 133 ⟨.other, 1, 8, [.nilFunc]⟩ := ⟨⟨Tryd.t133, by kernel_rfl, by kernel_rfl, by kernel_rfl, _, rfl, by kernel_rfl, by kernel_rfl⟩, ⟨_, Tryd.underlying133, rfl⟩⟩
theorem tg134 : GoodT Tryd.prog 134 ⟨.other, 1, 8, [.nilFunc]⟩ := ⟨⟨Tryd.t134, by kernel_rfl, by kernel_rfl, by kernel_rfl, _, rfl, by kernel_rfl, by kernel_rfl⟩, ⟨_, Tryd.underlying134, rfl⟩⟩
theorem tg135 : GoodT Tryd.prog 135 ⟨.other, 1, 8, [.nilFunc]⟩ := ⟨⟨Tryd.t135, by kernel_rfl, by kernel_rfl, by kernel_rfl, _, rfl, by kernel_rfl, by kernel_rfl⟩, ⟨_, Tryd.underlying135, rfl⟩⟩
theorem tg136 : GoodT Tryd.prog 136 ⟨.other, 1, 8, [.nilFunc]⟩ := ⟨⟨Tryd.t136, by kernel_rfl, by kernel_rfl, by kernel_rfl, _, rfl, by kernel_rfl, by kernel_rfl⟩, ⟨_, Tryd.underlying136, rfl⟩⟩
theorem tg142 : GoodT Tryd.prog 142 ⟨.st [(0, 17), (1, 17), (2, 17), (3, 9)], 4, 40, [.pointer none, .pointer none, .pointer none, .string ⟨#[]⟩]⟩ := ⟨⟨Tryd.t142, by kernel_rfl, by kernel_rfl, by kernel_rfl, _, rfl, by kernel_rfl, by kernel_rfl⟩, ⟨_, Tryd.underlying142, rfl⟩⟩
theorem tg146 : GoodT Tryd.prog 146 ⟨.int .u8, 1, 1, [.int .u8 0]⟩ := ⟨⟨Tryd.t146, by kernel_rfl, by kernel_rfl, by kernel_rfl, _, rfl, by kernel_rfl, by kernel_rfl⟩, Tryd.underlying146⟩
theorem tg148 : GoodT Tryd.prog 148 ⟨.other, 1, 8, [.nilFunc]⟩ := ⟨⟨Tryd.t148, by kernel_rfl, by kernel_rfl, by kernel_rfl, _, rfl, by kernel_rfl, by kernel_rfl⟩, ⟨_, Tryd.underlying148, rfl⟩⟩
theorem tg46 : GoodT Tryd.prog 46 ⟨.other, 1, 8, [.nilFunc]⟩ := ⟨⟨Tryd.t46, by kernel_rfl, by kernel_rfl, by kernel_rfl, _, rfl, by kernel_rfl, by kernel_rfl⟩, ⟨_, Tryd.underlying46, rfl⟩⟩
theorem tg47 : GoodT Tryd.prog 47 ⟨.other, 1, 8, [.nilFunc]⟩ := ⟨⟨Tryd.t47, by kernel_rfl, by kernel_rfl, by kernel_rfl, _, rfl, by kernel_rfl, by kernel_rfl⟩, ⟨_, Tryd.underlying47, rfl⟩⟩
theorem tg51 : GoodT Tryd.prog 51 ⟨.other, 1, 8, [.nilFunc]⟩ := ⟨⟨Tryd.t51, by kernel_rfl, by kernel_rfl, by kernel_rfl, _, rfl, by kernel_rfl, by kernel_rfl⟩, ⟨_, Tryd.underlying51, rfl⟩⟩
theorem tg55 : GoodT Tryd.prog 55 ⟨.other, 1, 8, [.nilFunc]⟩ := ⟨⟨Tryd.t55, by kernel_rfl, by kernel_rfl, by kernel_rfl, _, rfl, by kernel_rfl, by kernel_rfl⟩, ⟨_, Tryd.underlying55, rfl⟩⟩
theorem tg56 : GoodT Tryd.prog 56 ⟨.other, 1, 8, [.nilFunc]⟩ := ⟨⟨Tryd.t56, by kernel_rfl, by kernel_rfl, by kernel_rfl, _, rfl, by kernel_rfl, by kernel_rfl⟩, ⟨_, Tryd.underlying56, rfl⟩⟩
theorem tg57 : GoodT Tryd.prog 57 ⟨.st [(0, 3), (1, 3)], 2, 16, [.int .i64 0, .int .i64 0]⟩ := ⟨⟨Tryd.t57, by kernel_rfl, by kernel_rfl, by kernel_rfl, _, rfl, by kernel_rfl, by kernel_rfl⟩, ⟨_, Tryd.underlying57, rfl⟩⟩
theorem tg140 : GoodT Tryd.prog 140 ⟨.other, 1, 8, [.nilFunc]⟩ := ⟨⟨Tryd.t140, by kernel_rfl, by kernel_rfl, by kernel_rfl, _, rfl, by kernel_rfl, by kernel_rfl⟩, ⟨_, Tryd.underlying140, rfl⟩⟩
theorem tg141 : GoodT Tryd.prog 141 ⟨.st [(0, 17), (1, 17), (2, 17), (3, 9)], 4, 40, [.pointer none, .pointer none, .pointer none, .string ⟨#[]⟩]⟩ := ⟨⟨Tryd.t141, by kernel_rfl, by kernel_rfl, by kernel_rfl, _, rfl, by kernel_rfl, by kernel_rfl⟩, ⟨_, Tryd.underlying141, rfl⟩⟩
theorem tg143 : GoodT Tryd.prog 143 ⟨.ar 0 16, 0, 0, []⟩ := ⟨⟨Tryd.t143, by kernel_rfl, by kernel_rfl, by kernel_rfl, _, rfl, by kernel_rfl, by kernel_rfl⟩, Tryd.underlying143⟩
theorem tg144 : GoodT Tryd.prog 144 ⟨.st [(0, 143)], 0, 0, []⟩ := ⟨⟨Tryd.t144, by kernel_rfl, by kernel_rfl, by kernel_rfl, _, rfl, by kernel_rfl, by kernel_rfl⟩, ⟨_, Tryd.underlying144, rfl⟩⟩
theorem tg149 : GoodT Tryd.prog 149 ⟨.other, 1, 8, [.pointer none]⟩ := ⟨⟨Tryd.t149, by kernel_rfl, by kernel_rfl, by kernel_rfl, _, rfl, by kernel_rfl, by kernel_rfl⟩, ⟨_, Tryd.underlying149, rfl⟩⟩
theorem tg152 : GoodT Tryd.prog 152 ⟨.st [(0, 12), (1, 12), (2, 118), (3, 146), (4, 5), (5, 5), (6, 147), (7, 148), (8, 149), (9, 150), (10, 151)], 11, 48, [.int .u64 0, .int .u64 0, .int .u32 0, .int .u8 0, .int .u8 0, .int .u8 0, .int .u8 0, .nilFunc, .pointer none, .int .i32 0, .int .i32 0]⟩ := ⟨⟨Tryd.t152, by kernel_rfl, by kernel_rfl, by kernel_rfl, _, rfl, by kernel_rfl, by kernel_rfl⟩, ⟨_, Tryd.underlying152, rfl⟩⟩
theorem tg154 : GoodT Tryd.prog 154 ⟨.other, 1, 8, [.pointer none]⟩ := ⟨⟨Tryd.t154, by kernel_rfl, by kernel_rfl, by kernel_rfl, _, rfl, by kernel_rfl, by kernel_rfl⟩, ⟨_, Tryd.underlying154, rfl⟩⟩
theorem tall : ∀ p ∈ tt, GoodT Tryd.prog p.1 p.2 := by
  unfold tt
  refine List.forall_mem_cons.2 ⟨tg3, ?_⟩
  refine List.forall_mem_cons.2 ⟨tg4, ?_⟩
  refine List.forall_mem_cons.2 ⟨tg1, ?_⟩
  refine List.forall_mem_cons.2 ⟨tg5, ?_⟩
  refine List.forall_mem_cons.2 ⟨tg32, ?_⟩
  refine List.forall_mem_cons.2 ⟨tg26, ?_⟩
  refine List.forall_mem_cons.2 ⟨tg35, ?_⟩
  refine List.forall_mem_cons.2 ⟨tg60, ?_⟩
  refine List.forall_mem_cons.2 ⟨tg28, ?_⟩
  refine List.forall_mem_cons.2 ⟨tg2, ?_⟩
  refine List.forall_mem_cons.2 ⟨tg65, ?_⟩
  refine List.forall_mem_cons.2 ⟨tg6, ?_⟩
  refine List.forall_mem_cons.2 ⟨tg7, ?_⟩
  refine List.forall_mem_cons.2 ⟨tg30, ?_⟩
  refine List.forall_mem_cons.2 ⟨tg8, ?_⟩
  refine List.forall_mem_cons.2 ⟨tg58, ?_⟩
  refine List.forall_mem_cons.2 ⟨tg59, ?_⟩
  refine List.forall_mem_cons.2 ⟨tg9, ?_⟩
  refine List.forall_mem_cons.2 ⟨tg71, ?_⟩
  refine List.forall_mem_cons.2 ⟨tg91, ?_⟩
  refine List.forall_mem_cons.2 ⟨tg10, ?_⟩
  refine List.forall_mem_cons.2 ⟨tg11, ?_⟩
  refine List.forall_mem_cons.2 ⟨tg99, ?_⟩
  refine List.forall_mem_cons.2 ⟨tg126, ?_⟩
  refine List.forall_mem_cons.2 ⟨tg110, ?_⟩
  refine List.forall_mem_cons.2 ⟨tg24, ?_⟩
  refine List.forall_mem_cons.2 ⟨tg13, ?_⟩
  refine List.forall_mem_cons.2 ⟨tg95, ?_⟩
  refine List.forall_mem_cons.2 ⟨tg122, ?_⟩
  refine List.forall_mem_cons.2 ⟨tg12, ?_⟩
  refine List.forall_mem_cons.2 ⟨tg14, ?_⟩
  refine List.forall_mem_cons.2 ⟨tg62, ?_⟩
  refine List.forall_mem_cons.2 ⟨tg15, ?_⟩
  refine List.forall_mem_cons.2 ⟨tg100, ?_⟩
  refine List.forall_mem_cons.2 ⟨tg129, ?_⟩
  refine List.forall_mem_cons.2 ⟨tg16, ?_⟩
  refine List.forall_mem_cons.2 ⟨tg22, ?_⟩
  refine List.forall_mem_cons.2 ⟨tg29, ?_⟩
  refine List.forall_mem_cons.2 ⟨tg50, ?_⟩
  refine List.forall_mem_cons.2 ⟨tg118, ?_⟩
  refine List.forall_mem_cons.2 ⟨tg41, ?_⟩
  refine List.forall_mem_cons.2 ⟨tg43, ?_⟩
  refine List.forall_mem_cons.2 ⟨tg70, ?_⟩
  refine List.forall_mem_cons.2 ⟨tg17, ?_⟩
  refine List.forall_mem_cons.2 ⟨tg25, ?_⟩
  refine List.forall_mem_cons.2 ⟨tg39, ?_⟩
  refine List.forall_mem_cons.2 ⟨tg73, ?_⟩
  refine List.forall_mem_cons.2 ⟨tg102, ?_⟩
  refine List.forall_mem_cons.2 ⟨tg34, ?_⟩
  refine List.forall_mem_cons.2 ⟨tg38, ?_⟩
  refine List.forall_mem_cons.2 ⟨tg40, ?_⟩
  refine List.forall_mem_cons.2 ⟨tg42, ?_⟩
  refine List.forall_mem_cons.2 ⟨tg90, ?_⟩
  refine List.forall_mem_cons.2 ⟨tg128, ?_⟩
  refine List.forall_mem_cons.2 ⟨tg37, ?_⟩
  refine List.forall_mem_cons.2 ⟨tg49, ?_⟩
  refine List.forall_mem_cons.2 ⟨tg89, ?_⟩
  refine List.forall_mem_cons.2 ⟨tg92, ?_⟩
  refine List.forall_mem_cons.2 ⟨tg97, ?_⟩
  refine List.forall_mem_cons.2 ⟨tg109, ?_⟩
  refine List.forall_mem_cons.2 ⟨tg131, ?_⟩
  refine List.forall_mem_cons.2 ⟨tg19, ?_⟩
  refine List.forall_mem_cons.2 ⟨tg53, ?_⟩
  refine List.forall_mem_cons.2 ⟨tg69, ?_⟩
  refine List.forall_mem_cons.2 ⟨tg72, ?_⟩
  refine List.forall_mem_cons.2 ⟨tg77, ?_⟩
  refine List.forall_mem_cons.2 ⟨tg79, ?_⟩
  refine List.forall_mem_cons.2 ⟨tg81, ?_⟩
  refine List.forall_mem_cons.2 ⟨tg103, ?_⟩
  refine List.forall_mem_cons.2 ⟨tg132, ?_⟩
  refine List.forall_mem_cons.2 ⟨tg18, ?_⟩
  refine List.forall_mem_cons.2 ⟨tg21, ?_⟩
  refine List.forall_mem_cons.2 ⟨tg31, ?_⟩
  refine List.forall_mem_cons.2 ⟨tg45, ?_⟩
  refine List.forall_mem_cons.2 ⟨tg83, ?_⟩
  refine List.forall_mem_cons.2 ⟨tg85, ?_⟩
  refine List.forall_mem_cons.2 ⟨tg96, ?_⟩
  refine List.forall_mem_cons.2 ⟨tg98, ?_⟩
  refine List.forall_mem_cons.2 ⟨tg114, ?_⟩
  refine List.forall_mem_cons.2 ⟨tg124, ?_⟩
  refine List.forall_mem_cons.2 ⟨tg125, ?_⟩
  refine List.forall_mem_cons.2 ⟨tg137, ?_⟩
  refine List.forall_mem_cons.2 ⟨tg139, ?_⟩
  refine List.forall_mem_cons.2 ⟨tg20, ?_⟩
  refine List.forall_mem_cons.2 ⟨tg27, ?_⟩
  refine List.forall_mem_cons.2 ⟨tg54, ?_⟩
  refine List.forall_mem_cons.2 ⟨tg64, ?_⟩
  refine List.forall_mem_cons.2 ⟨tg67, ?_⟩
  refine List.forall_mem_cons.2 ⟨tg68, ?_⟩
  refine List.forall_mem_cons.2 ⟨tg75, ?_⟩
  refine List.forall_mem_cons.2 ⟨tg76, ?_⟩
  refine List.forall_mem_cons.2 ⟨tg80, ?_⟩
  refine List.forall_mem_cons.2 ⟨tg88, ?_⟩
  refine List.forall_mem_cons.2 ⟨tg94, ?_⟩
  refine List.forall_mem_cons.2 ⟨tg101, ?_⟩
  refine List.forall_mem_cons.2 ⟨tg106, ?_⟩
  refine List.forall_mem_cons.2 ⟨tg107, ?_⟩
  refine List.forall_mem_cons.2 ⟨tg113, ?_⟩
  refine List.forall_mem_cons.2 ⟨tg119, ?_⟩
  refine List.forall_mem_cons.2 ⟨tg121, ?_⟩
  refine List.forall_mem_cons.2 ⟨tg123, ?_⟩
  refine List.forall_mem_cons.2 ⟨tg127, ?_⟩
  refine List.forall_mem_cons.2 ⟨tg138, ?_⟩
  refine List.forall_mem_cons.2 ⟨tg145, ?_⟩
  refine List.forall_mem_cons.2 ⟨tg147, ?_⟩
  refine List.forall_mem_cons.2 ⟨tg150, ?_⟩
  refine List.forall_mem_cons.2 ⟨tg151, ?_⟩
  refine List.forall_mem_cons.2 ⟨tg153, ?_⟩
  refine List.forall_mem_cons.2 ⟨tg23, ?_⟩
  refine List.forall_mem_cons.2 ⟨tg61, ?_⟩
  refine List.forall_mem_cons.2 ⟨tg74, ?_⟩
  refine List.forall_mem_cons.2 ⟨tg78, ?_⟩
  refine List.forall_mem_cons.2 ⟨tg82, ?_⟩
  refine List.forall_mem_cons.2 ⟨tg87, ?_⟩
  refine List.forall_mem_cons.2 ⟨tg93, ?_⟩
  refine List.forall_mem_cons.2 ⟨tg105, ?_⟩
  refine List.forall_mem_cons.2 ⟨tg108, ?_⟩
  refine List.forall_mem_cons.2 ⟨tg112, ?_⟩
  refine List.forall_mem_cons.2 ⟨tg116, ?_⟩
  refine List.forall_mem_cons.2 ⟨tg117, ?_⟩
  refine List.forall_mem_cons.2 ⟨tg120, ?_⟩
  refine List.forall_mem_cons.2 ⟨tg133, ?_⟩
  refine List.forall_mem_cons.2 ⟨tg134, ?_⟩
  refine List.forall_mem_cons.2 ⟨tg135, ?_⟩
  refine List.forall_mem_cons.2 ⟨tg136, ?_⟩
  refine List.forall_mem_cons.2 ⟨tg142, ?_⟩
  refine List.forall_mem_cons.2 ⟨tg146, ?_⟩
  refine List.forall_mem_cons.2 ⟨tg148, ?_⟩
  refine List.forall_mem_cons.2 ⟨tg46, ?_⟩
  refine List.forall_mem_cons.2 ⟨tg47, ?_⟩
  refine List.forall_mem_cons.2 ⟨tg51, ?_⟩
  refine List.forall_mem_cons.2 ⟨tg55, ?_⟩
  refine List.forall_mem_cons.2 ⟨tg56, ?_⟩
  refine List.forall_mem_cons.2 ⟨tg57, ?_⟩
  refine List.forall_mem_cons.2 ⟨tg140, ?_⟩
  refine List.forall_mem_cons.2 ⟨tg141, ?_⟩
  refine List.forall_mem_cons.2 ⟨tg143, ?_⟩
  refine List.forall_mem_cons.2 ⟨tg144, ?_⟩
  refine List.forall_mem_cons.2 ⟨tg149, ?_⟩
  refine List.forall_mem_cons.2 ⟨tg152, ?_⟩
  refine List.forall_mem_cons.2 ⟨tg154, ?_⟩
  exact fun p hp => by cases hp
theorem tget_mem : ∀ (l : List (Nat × TI)) (t : Nat) (i : TI), tget l t = some i → (t, i) ∈ l
  | [], _, _, h => by cases h
  | (d, x) :: r, t, i, h => by
    simp only [tget] at h
    cases e : Nat.beq d t with
    | true => rw [e] at h; cases h; rw [Nat.eq_of_beq_eq_true e]; exact List.mem_cons_self
    | false => rw [e] at h; exact List.mem_cons_of_mem _ (tget_mem r t i h)
noncomputable def cx (n : Nat) : Ctx := ⟨Tryd.prog, n, tt⟩
theorem follows : Tryd.prog.follows .mixedOrders = true := by kernel_rfl
theorem cxg (n : Nat) : (cx n).Good := by
  refine And.intro follows (fun t i h => ?_)
  exact tall (t, i) (tget_mem tt t i h)
end Go.Dw
