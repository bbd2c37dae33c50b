/- The table of types of this translation, and that it is right. Written by program (mktt.py). No condition. -/
import Derived.Test.YtoholjdojdmbkaaGreatDoorXA
import Derived.Test.YtoholjdojdmbkaaGreatDoorProg
namespace Go.Dw
open Go Go.RowKit Go.Proofs
def tt : List (Nat × TI) := [
  (3, ⟨.int .i64, 1, 8, [.int .i64 0]⟩),
  (4, ⟨.bool, 1, 1, [.bool false]⟩),
  (9, ⟨.str, 1, 16, [.string ⟨#[]⟩]⟩),
  (5, ⟨.int .u8, 1, 1, [.int .u8 0]⟩),
  (1, ⟨.other, 1, 8, [.nilFunc]⟩),
  (2, ⟨.int .i64, 1, 8, [.int .i64 0]⟩),
  (86, ⟨.int .u64, 1, 8, [.int .u64 0]⟩),
  (88, ⟨.int .u32, 1, 4, [.int .u32 0]⟩),
  (27, ⟨.int .i64, 1, 8, [.int .i64 0]⟩),
  (21, ⟨.int .i32, 1, 4, [.int .i32 0]⟩),
  (6, ⟨.int .u8, 1, 1, [.int .u8 0]⟩),
  (7, ⟨.st [(0, 2), (1, 3), (2, 4), (3, 6)], 4, 24, [.int .i64 0, .int .i64 0, .bool false, .int .u8 0]⟩),
  (52, ⟨.sl 88, 1, 24, [.slice none 0 0]⟩),
  (8, ⟨.st [(0, 2), (1, 3), (2, 4), (3, 6)], 4, 24, [.int .i64 0, .int .i64 0, .bool false, .int .u8 0]⟩),
  (26, ⟨.sl 32, 1, 24, [.slice none 0 0]⟩),
  (32, ⟨.st [(0, 3), (1, 9), (2, 3), (3, 3)], 4, 40, [.int .i64 0, .string ⟨#[]⟩, .int .i64 0, .int .i64 0]⟩),
  (23, ⟨.sl 5, 1, 24, [.slice none 0 0]⟩),
  (37, ⟨.other, 1, 8, [.pointer none]⟩),
  (10, ⟨.str, 1, 16, [.string ⟨#[]⟩]⟩),
  (89, ⟨.int .u64, 1, 8, [.int .u64 0]⟩),
  (25, ⟨.sl 9, 1, 24, [.slice none 0 0]⟩),
  (11, ⟨.str, 1, 16, [.string ⟨#[]⟩]⟩),
  (241, ⟨.other, 1, 8, [.pointer none]⟩),
  (54, ⟨.st [(0, 4), (1, 52)], 2, 32, [.bool false, .slice none 0 0]⟩),
  (39, ⟨.other, 1, 8, [.pointer none]⟩),
  (128, ⟨.other, 1, 16, [.nilIface]⟩),
  (12, ⟨.int .u64, 1, 8, [.int .u64 0]⟩),
  (252, ⟨.int .u16, 1, 2, [.int .u16 0]⟩),
  (13, ⟨.st [(0, 9), (1, 12)], 2, 24, [.string ⟨#[]⟩, .int .u64 0]⟩),
  (72, ⟨.other, 1, 8, [.pointer none]⟩),
  (14, ⟨.st [(0, 9), (1, 12)], 2, 24, [.string ⟨#[]⟩, .int .u64 0]⟩),
  (208, ⟨.other, 1, 8, [.pointer none]⟩),
  (135, ⟨.other, 1, 8, [.pointer none]⟩),
  (113, ⟨.other, 1, 8, [.pointer none]⟩),
  (45, ⟨.other, 1, 8, [.nilFunc]⟩),
  (60, ⟨.str, 1, 16, [.string ⟨#[]⟩]⟩),
  (47, ⟨.st [(0, 32), (4, 9), (5, 3), (6, 4)], 7, 72, [.int .i64 0, .string ⟨#[]⟩, .int .i64 0, .int .i64 0, .string ⟨#[]⟩, .int .i64 0, .bool false]⟩),
  (302, ⟨.other, 1, 16, [.nilIface]⟩),
  (42, ⟨.st [(0, 5), (1, 9), (2, 3), (3, 3), (4, 5)], 5, 48, [.int .u8 0, .string ⟨#[]⟩, .int .i64 0, .int .i64 0, .int .u8 0]⟩),
  (137, ⟨.st [(0, 135), (1, 23)], 2, 32, [.pointer none, .slice none 0 0]⟩),
  (264, ⟨.other, 1, 8, [.pointer none]⟩),
  (22, ⟨.other, 1, 8, [.nilFunc]⟩),
  (30, ⟨.other, 1, 8, [.nilFunc]⟩),
  (98, ⟨.st [(0, 54), (2, 54)], 4, 64, [.bool false, .slice none 0 0, .bool false, .slice none 0 0]⟩),
  (237, ⟨.other, 1, 8, [.pointer none]⟩),
  (29, ⟨.other, 1, 8, [.nilFunc]⟩),
  (139, ⟨.other, 1, 8, [.nilFunc]⟩),
  (103, ⟨.other, 1, 8, [.pointer none]⟩),
  (274, ⟨.other, 1, 8, [.pointer none]⟩),
  (300, ⟨.other, 1, 16, [.nilIface]⟩),
  (15, ⟨.other, 1, 8, [.pointer none]⟩),
  (56, ⟨.other, 1, 8, [.nilFunc]⟩),
  (82, ⟨.other, 1, 8, [.nilFunc]⟩),
  (116, ⟨.other, 1, 8, [.nilFunc]⟩),
  (248, ⟨.sl 254, 1, 24, [.slice none 0 0]⟩),
  (34, ⟨.other, 1, 8, [.nilFunc]⟩),
  (83, ⟨.other, 1, 8, [.nilFunc]⟩),
  (182, ⟨.int .i64, 1, 8, [.int .i64 0]⟩),
  (206, ⟨.other, 1, 8, [.pointer none]⟩),
  (242, ⟨.sl 241, 1, 24, [.slice none 0 0]⟩),
  (102, ⟨.other, 1, 8, [.nilFunc]⟩),
  (183, ⟨.other, 1, 8, [.nilFunc]⟩),
  (215, ⟨.other, 1, 8, [.pointer none]⟩),
  (216, ⟨.sl 218, 1, 24, [.slice none 0 0]⟩),
  (297, ⟨.sl 5, 1, 24, [.slice none 0 0]⟩),
  (16, ⟨.other, 1, 8, [.pointer none]⟩),
  (17, ⟨.other, 1, 8, [.pointer none]⟩),
  (220, ⟨.other, 1, 8, [.pointer none]⟩),
  (249, ⟨.sl 257, 1, 24, [.slice none 0 0]⟩),
  (254, ⟨.st [(0, 252), (1, 252), (2, 252)], 3, 6, [.int .u16 0, .int .u16 0, .int .u16 0]⟩),
  (19, ⟨.st [(0, 17)], 1, 8, [.pointer none]⟩),
  (35, ⟨.other, 1, 8, [.nilFunc]⟩),
  (110, ⟨.st [(0, 3), (1, 30), (2, 108)], 3, 24, [.int .i64 0, .nilFunc, .nilFunc]⟩),
  (230, ⟨.other, 1, 8, [.nilFunc]⟩),
  (244, ⟨.st [(0, 9), (1, 3), (2, 9), (3, 241), (4, 242)], 5, 72, [.string ⟨#[]⟩, .int .i64 0, .string ⟨#[]⟩, .pointer none, .slice none 0 0]⟩),
  (257, ⟨.st [(0, 88), (1, 88), (2, 88)], 3, 12, [.int .u32 0, .int .u32 0, .int .u32 0]⟩),
  (280, ⟨.st [(0, 5), (1, 5)], 2, 2, [.int .u8 0, .int .u8 0]⟩),
  (44, ⟨.other, 1, 8, [.nilFunc]⟩),
  (111, ⟨.sl 110, 1, 24, [.slice none 0 0]⟩),
  (132, ⟨.other, 1, 8, [.nilFunc]⟩),
  (184, ⟨.other, 1, 8, [.pointer none]⟩),
  (204, ⟨.other, 1, 8, [.pointer none]⟩),
  (212, ⟨.ar 256 23, 256, 6144, [.slice none 0 0, .slice none 0 0, .slice none 0 0, .slice none 0 0, .slice none 0 0, .slice none 0 0, .slice none 0 0, .slice none 0 0, .slice none 0 0, .slice none 0 0, .slice none 0 0, .slice none 0 0, .slice none 0 0, .slice none 0 0, .slice none 0 0, .slice none 0 0, .slice none 0 0, .slice none 0 0, .slice none 0 0, .slice none 0 0, .slice none 0 0, .slice none 0 0, .slice none 0 0, .slice none 0 0, .slice none 0 0, .slice none 0 0, .slice none 0 0, .slice none 0 0, .slice none 0 0, .slice none 0 0, .slice none 0 0, .slice none 0 0, .slice none 0 0, .slice none 0 0, .slice none 0 0, .slice none 0 0, .slice none 0 0, .slice none 0 0, .slice none 0 0, .slice none 0 0, .slice none 0 0, .slice none 0 0, .slice none 0 0, .slice none 0 0, .slice none 0 0, .slice none 0 0, .slice none 0 0, .slice none 0 0, .slice none 0 0, .slice none 0 0, .slice none 0 0, .slice none 0 0, .slice none 0 0, .slice none 0 0, .slice none 0 0, .slice none 0 0, .slice none 0 0, .slice none 0 0, .slice none 0 0, .slice none 0 0, .slice none 0 0, .slice none 0 0, .slice none 0 0, .slice none 0 0, .slice none 0 0, .slice none 0 0, .slice none 0 0, .slice none 0 0, .slice none 0 0, .slice none 0 0, .slice none 0 0, .slice none 0 0, .slice none 0 0, .slice none 0 0, .slice none 0 0, .slice none 0 0, .slice none 0 0, .slice none 0 0, .slice none 0 0, .slice none 0 0, .slice none 0 0, .slice none 0 0, .slice none 0 0, .slice none 0 0, .slice none 0 0, .slice none 0 0, .slice none 0 0, .slice none 0 0, .slice none 0 0, .slice none 0 0, .slice none 0 0, .slice none 0 0, .slice none 0 0, .slice none 0 0, .slice none 0 0, .slice none 0 0, .slice none 0 0, .slice none 0 0, .slice none 0 0, .slice none 0 0, .slice none 0 0, .slice none 0 0, .slice none 0 0, .slice none 0 0, .slice none 0 0, .slice none 0 0, .slice none 0 0, .slice none 0 0, .slice none 0 0, .slice none 0 0, .slice none 0 0, .slice none 0 0, .slice none 0 0, .slice none 0 0, .slice none 0 0, .slice none 0 0, .slice none 0 0, .slice none 0 0, .slice none 0 0, .slice none 0 0, .slice none 0 0, .slice none 0 0, .slice none 0 0, .slice none 0 0, .slice none 0 0, .slice none 0 0, .slice none 0 0, .slice none 0 0, .slice none 0 0, .slice none 0 0, .slice none 0 0, .slice none 0 0, .slice none 0 0, .slice none 0 0, .slice none 0 0, .slice none 0 0, .slice none 0 0, .slice none 0 0, .slice none 0 0, .slice none 0 0, .slice none 0 0, .slice none 0 0, .slice none 0 0, .slice none 0 0, .slice none 0 0, .slice none 0 0, .slice none 0 0, .slice none 0 0, .slice none 0 0, .slice none 0 0, .slice none 0 0, .slice none 0 0, .slice none 0 0, .slice none 0 0, .slice none 0 0, .slice none 0 0, .slice none 0 0, .slice none 0 0, .slice none 0 0, .slice none 0 0, .slice none 0 0, .slice none 0 0, .slice none 0 0, .slice none 0 0, .slice none 0 0, .slice none 0 0, .slice none 0 0, .slice none 0 0, .slice none 0 0, .slice none 0 0, .slice none 0 0, .slice none 0 0, .slice none 0 0, .slice none 0 0, .slice none 0 0, .slice none 0 0, .slice none 0 0, .slice none 0 0, .slice none 0 0, .slice none 0 0, .slice none 0 0, .slice none 0 0, .slice none 0 0, .slice none 0 0, .slice none 0 0, .slice none 0 0, .slice none 0 0, .slice none 0 0, .slice none 0 0, .slice none 0 0, .slice none 0 0, .slice none 0 0, .slice none 0 0, .slice none 0 0, .slice none 0 0, .slice none 0 0, .slice none 0 0, .slice none 0 0, .slice none 0 0, .slice none 0 0, .slice none 0 0, .slice none 0 0, .slice none 0 0, .slice none 0 0, .slice none 0 0, .slice none 0 0, .slice none 0 0, .slice none 0 0, .slice none 0 0, .slice none 0 0, .slice none 0 0, .slice none 0 0, .slice none 0 0, .slice none 0 0, .slice none 0 0, .slice none 0 0, .slice none 0 0, .slice none 0 0, .slice none 0 0, .slice none 0 0, .slice none 0 0, .slice none 0 0, .slice none 0 0, .slice none 0 0, .slice none 0 0, .slice none 0 0, .slice none 0 0, .slice none 0 0, .slice none 0 0, .slice none 0 0, .slice none 0 0, .slice none 0 0, .slice none 0 0, .slice none 0 0, .slice none 0 0, .slice none 0 0, .slice none 0 0, .slice none 0 0, .slice none 0 0, .slice none 0 0, .slice none 0 0, .slice none 0 0, .slice none 0 0, .slice none 0 0, .slice none 0 0, .slice none 0 0, .slice none 0 0, .slice none 0 0, .slice none 0 0, .slice none 0 0, .slice none 0 0, .slice none 0 0, .slice none 0 0, .slice none 0 0, .slice none 0 0, .slice none 0 0]⟩),
  (275, ⟨.other, 1, 8, [.pointer none]⟩),
  (24, ⟨.other, 1, 8, [.nilFunc]⟩),
  (80, ⟨.st [(0, 26), (1, 3), (2, 3), (3, 27)], 4, 48, [.slice none 0 0, .int .i64 0, .int .i64 0, .int .i64 0]⟩),
  (121, ⟨.other, 1, 8, [.nilFunc]⟩),
  (178, ⟨.other, 1, 8, [.pointer none]⟩),
  (192, ⟨.other, 1, 8, [.pointer none]⟩),
  (201, ⟨.other, 1, 8, [.pointer none]⟩),
  (211, ⟨.other, 1, 8, [.pointer none]⟩),
  (214, ⟨.st [(0, 212), (256, 25)], 257, 6168, [.slice none 0 0, .slice none 0 0, .slice none 0 0, .slice none 0 0, .slice none 0 0, .slice none 0 0, .slice none 0 0, .slice none 0 0, .slice none 0 0, .slice none 0 0, .slice none 0 0, .slice none 0 0, .slice none 0 0, .slice none 0 0, .slice none 0 0, .slice none 0 0, .slice none 0 0, .slice none 0 0, .slice none 0 0, .slice none 0 0, .slice none 0 0, .slice none 0 0, .slice none 0 0, .slice none 0 0, .slice none 0 0, .slice none 0 0, .slice none 0 0, .slice none 0 0, .slice none 0 0, .slice none 0 0, .slice none 0 0, .slice none 0 0, .slice none 0 0, .slice none 0 0, .slice none 0 0, .slice none 0 0, .slice none 0 0, .slice none 0 0, .slice none 0 0, .slice none 0 0, .slice none 0 0, .slice none 0 0, .slice none 0 0, .slice none 0 0, .slice none 0 0, .slice none 0 0, .slice none 0 0, .slice none 0 0, .slice none 0 0, .slice none 0 0, .slice none 0 0, .slice none 0 0, .slice none 0 0, .slice none 0 0, .slice none 0 0, .slice none 0 0, .slice none 0 0, .slice none 0 0, .slice none 0 0, .slice none 0 0, .slice none 0 0, .slice none 0 0, .slice none 0 0, .slice none 0 0, .slice none 0 0, .slice none 0 0, .slice none 0 0, .slice none 0 0, .slice none 0 0, .slice none 0 0, .slice none 0 0, .slice none 0 0, .slice none 0 0, .slice none 0 0, .slice none 0 0, .slice none 0 0, .slice none 0 0, .slice none 0 0, .slice none 0 0, .slice none 0 0, .slice none 0 0, .slice none 0 0, .slice none 0 0, .slice none 0 0, .slice none 0 0, .slice none 0 0, .slice none 0 0, .slice none 0 0, .slice none 0 0, .slice none 0 0, .slice none 0 0, .slice none 0 0, .slice none 0 0, .slice none 0 0, .slice none 0 0, .slice none 0 0, .slice none 0 0, .slice none 0 0, .slice none 0 0, .slice none 0 0, .slice none 0 0, .slice none 0 0, .slice none 0 0, .slice none 0 0, .slice none 0 0, .slice none 0 0, .slice none 0 0, .slice none 0 0, .slice none 0 0, .slice none 0 0, .slice none 0 0, .slice none 0 0, .slice none 0 0, .slice none 0 0, .slice none 0 0, .slice none 0 0, .slice none 0 0, .slice none 0 0, .slice none 0 0, .slice none 0 0, .slice none 0 0, .slice none 0 0, .slice none 0 0, .slice none 0 0, .slice none 0 0, .slice none 0 0, .slice none 0 0, .slice none 0 0, .slice none 0 0, .slice none 0 0, .slice none 0 0, .slice none 0 0, .slice none 0 0, .slice none 0 0, .slice none 0 0, .slice none 0 0, .slice none 0 0, .slice none 0 0, .slice none 0 0, .slice none 0 0, .slice none 0 0, .slice none 0 0, .slice none 0 0, .slice none 0 0, .slice none 0 0, .slice none 0 0, .slice none 0 0, .slice none 0 0, .slice none 0 0, .slice none 0 0, .slice none 0 0, .slice none 0 0, .slice none 0 0, .slice none 0 0, .slice none 0 0, .slice none 0 0, .slice none 0 0, .slice none 0 0, .slice none 0 0, .slice none 0 0, .slice none 0 0, .slice none 0 0, .slice none 0 0, .slice none 0 0, .slice none 0 0, .slice none 0 0, .slice none 0 0, .slice none 0 0, .slice none 0 0, .slice none 0 0, .slice none 0 0, .slice none 0 0, .slice none 0 0, .slice none 0 0, .slice none 0 0, .slice none 0 0, .slice none 0 0, .slice none 0 0, .slice none 0 0, .slice none 0 0, .slice none 0 0, .slice none 0 0, .slice none 0 0, .slice none 0 0, .slice none 0 0, .slice none 0 0, .slice none 0 0, .slice none 0 0, .slice none 0 0, .slice none 0 0, .slice none 0 0, .slice none 0 0, .slice none 0 0, .slice none 0 0, .slice none 0 0, .slice none 0 0, .slice none 0 0, .slice none 0 0, .slice none 0 0, .slice none 0 0, .slice none 0 0, .slice none 0 0, .slice none 0 0, .slice none 0 0, .slice none 0 0, .slice none 0 0, .slice none 0 0, .slice none 0 0, .slice none 0 0, .slice none 0 0, .slice none 0 0, .slice none 0 0, .slice none 0 0, .slice none 0 0, .slice none 0 0, .slice none 0 0, .slice none 0 0, .slice none 0 0, .slice none 0 0, .slice none 0 0, .slice none 0 0, .slice none 0 0, .slice none 0 0, .slice none 0 0, .slice none 0 0, .slice none 0 0, .slice none 0 0, .slice none 0 0, .slice none 0 0, .slice none 0 0, .slice none 0 0, .slice none 0 0, .slice none 0 0, .slice none 0 0, .slice none 0 0, .slice none 0 0, .slice none 0 0, .slice none 0 0, .slice none 0 0, .slice none 0 0, .slice none 0 0, .slice none 0 0, .slice none 0 0, .slice none 0 0, .slice none 0 0, .slice none 0 0, .slice none 0 0, .slice none 0 0, .slice none 0 0, .slice none 0 0, .slice none 0 0, .slice none 0 0, .slice none 0 0, .slice none 0 0, .slice none 0 0, .slice none 0 0, .slice none 0 0]⟩),
  (266, ⟨.other, 1, 8, [.pointer none]⟩),
  (298, ⟨.other, 1, 8, [.pointer none]⟩),
  (78, ⟨.st [(0, 26), (1, 3), (2, 3), (3, 27)], 4, 48, [.slice none 0 0, .int .i64 0, .int .i64 0, .int .i64 0]⟩),
  (175, ⟨.other, 1, 8, [.nilFunc]⟩),
  (218, ⟨.st [(0, 3), (1, 3)], 2, 16, [.int .i64 0, .int .i64 0]⟩),
  (262, ⟨.other, 1, 8, [.nilFunc]⟩),
  (18, ⟨.st [(0, 17)], 1, 8, [.pointer none]⟩),
  (36, ⟨.sl 42, 1, 24, [.slice none 0 0]⟩),
  (59, ⟨.other, 1, 8, [.nilFunc]⟩),
  (61, ⟨.other, 1, 8, [.nilFunc]⟩),
  (85, ⟨.other, 1, 8, [.nilFunc]⟩),
  (105, ⟨.other, 1, 8, [.nilFunc]⟩),
  (108, ⟨.other, 1, 8, [.nilFunc]⟩),
  (247, ⟨.other, 1, 8, [.nilFunc]⟩),
  (38, ⟨.other, 1, 8, [.nilFunc]⟩),
  (48, ⟨.other, 1, 8, [.nilFunc]⟩),
  (62, ⟨.other, 1, 8, [.nilFunc]⟩),
  (117, ⟨.other, 1, 8, [.nilFunc]⟩),
  (140, ⟨.other, 1, 8, [.nilFunc]⟩),
  (141, ⟨.other, 1, 8, [.nilFunc]⟩),
  (176, ⟨.other, 1, 8, [.nilFunc]⟩),
  (187, ⟨.ar 24 5, 24, 24, [.int .u8 0, .int .u8 0, .int .u8 0, .int .u8 0, .int .u8 0, .int .u8 0, .int .u8 0, .int .u8 0, .int .u8 0, .int .u8 0, .int .u8 0, .int .u8 0, .int .u8 0, .int .u8 0, .int .u8 0, .int .u8 0, .int .u8 0, .int .u8 0, .int .u8 0, .int .u8 0, .int .u8 0, .int .u8 0, .int .u8 0, .int .u8 0]⟩),
  (202, ⟨.other, 1, 8, [.pointer none]⟩),
  (267, ⟨.other, 1, 8, [.nilFunc]⟩),
  (270, ⟨.sl 3, 1, 24, [.slice none 0 0]⟩),
  (33, ⟨.other, 1, 8, [.nilFunc]⟩),
  (55, ⟨.other, 1, 8, [.nilFunc]⟩),
  (65, ⟨.other, 1, 8, [.nilFunc]⟩),
  (73, ⟨.st [(0, 9), (1, 3), (2, 3), (3, 3)], 4, 40, [.string ⟨#[]⟩, .int .i64 0, .int .i64 0, .int .i64 0]⟩),
  (81, ⟨.other, 1, 8, [.nilFunc]⟩),
  (87, ⟨.other, 1, 8, [.nilFunc]⟩),
  (92, ⟨.other, 1, 8, [.nilFunc]⟩),
  (112, ⟨.other, 1, 8, [.nilFunc]⟩),
  (119, ⟨.other, 1, 8, [.nilFunc]⟩),
  (159, ⟨.other, 1, 16, [.nilIface]⟩),
  (165, ⟨.other, 1, 8, [.nilFunc]⟩),
  (222, ⟨.st [(0, 9), (1, 9), (2, 128)], 3, 48, [.string ⟨#[]⟩, .string ⟨#[]⟩, .nilIface]⟩),
  (223, ⟨.other, 1, 8, [.nilFunc]⟩),
  (232, ⟨.other, 1, 8, [.nilFunc]⟩),
  (234, ⟨.other, 1, 8, [.pointer none]⟩),
  (265, ⟨.other, 1, 8, [.nilFunc]⟩),
  (276, ⟨.ar 32 5, 32, 32, [.int .u8 0, .int .u8 0, .int .u8 0, .int .u8 0, .int .u8 0, .int .u8 0, .int .u8 0, .int .u8 0, .int .u8 0, .int .u8 0, .int .u8 0, .int .u8 0, .int .u8 0, .int .u8 0, .int .u8 0, .int .u8 0, .int .u8 0, .int .u8 0, .int .u8 0, .int .u8 0, .int .u8 0, .int .u8 0, .int .u8 0, .int .u8 0, .int .u8 0, .int .u8 0, .int .u8 0, .int .u8 0, .int .u8 0, .int .u8 0, .int .u8 0, .int .u8 0]⟩),
  (277, ⟨.ar 64 5, 64, 64, [.int .u8 0, .int .u8 0, .int .u8 0, .int .u8 0, .int .u8 0, .int .u8 0, .int .u8 0, .int .u8 0, .int .u8 0, .int .u8 0, .int .u8 0, .int .u8 0, .int .u8 0, .int .u8 0, .int .u8 0, .int .u8 0, .int .u8 0, .int .u8 0, .int .u8 0, .int .u8 0, .int .u8 0, .int .u8 0, .int .u8 0, .int .u8 0, .int .u8 0, .int .u8 0, .int .u8 0, .int .u8 0, .int .u8 0, .int .u8 0, .int .u8 0, .int .u8 0, .int .u8 0, .int .u8 0, .int .u8 0, .int .u8 0, .int .u8 0, .int .u8 0, .int .u8 0, .int .u8 0, .int .u8 0, .int .u8 0, .int .u8 0, .int .u8 0, .int .u8 0, .int .u8 0, .int .u8 0, .int .u8 0, .int .u8 0, .int .u8 0, .int .u8 0, .int .u8 0, .int .u8 0, .int .u8 0, .int .u8 0, .int .u8 0, .int .u8 0, .int .u8 0, .int .u8 0, .int .u8 0, .int .u8 0, .int .u8 0, .int .u8 0, .int .u8 0]⟩),
  (281, ⟨.ar 16 280, 32, 32, [.int .u8 0, .int .u8 0, .int .u8 0, .int .u8 0, .int .u8 0, .int .u8 0, .int .u8 0, .int .u8 0, .int .u8 0, .int .u8 0, .int .u8 0, .int .u8 0, .int .u8 0, .int .u8 0, .int .u8 0, .int .u8 0, .int .u8 0, .int .u8 0, .int .u8 0, .int .u8 0, .int .u8 0, .int .u8 0, .int .u8 0, .int .u8 0, .int .u8 0, .int .u8 0, .int .u8 0, .int .u8 0, .int .u8 0, .int .u8 0, .int .u8 0, .int .u8 0]⟩),
  (283, ⟨.other, 1, 8, [.nilFunc]⟩),
  (303, ⟨.other, 1, 8, [.nilFunc]⟩),
  (40, ⟨.other, 1, 8, [.nilFunc]⟩),
  (49, ⟨.other, 1, 8, [.nilFunc]⟩),
  (58, ⟨.other, 1, 8, [.nilFunc]⟩),
  (67, ⟨.other, 1, 8, [.nilFunc]⟩),
  (74, ⟨.st [(0, 9), (1, 3), (2, 3), (3, 3)], 4, 40, [.string ⟨#[]⟩, .int .i64 0, .int .i64 0, .int .i64 0]⟩),
  (91, ⟨.other, 1, 8, [.nilFunc]⟩),
  (100, ⟨.other, 1, 8, [.nilFunc]⟩),
  (101, ⟨.other, 1, 8, [.nilFunc]⟩),
  (104, ⟨.other, 1, 8, [.nilFunc]⟩),
  (106, ⟨.other, 1, 8, [.nilFunc]⟩),
  (107, ⟨.other, 1, 8, [.nilFunc]⟩),
  (123, ⟨.other, 1, 8, [.nilFunc]⟩),
  (142, ⟨.other, 1, 8, [.nilFunc]⟩),
  (143, ⟨.other, 1, 8, [.nilFunc]⟩),
  (151, ⟨.st [(0, 149), (0, 88)], 1, 4, [.int .u32 0]⟩),
  (155, ⟨.st [(0, 148), (0, 153)], 2, 8, [.int .i32 0, .int .u32 0]⟩),
  (162, ⟨.other, 1, 8, [.nilFunc]⟩),
  (186, ⟨.other, 1, 8, [.nilFunc]⟩),
  (188, ⟨.other, 1, 8, [.nilFunc]⟩),
  (219, ⟨.other, 1, 8, [.nilFunc]⟩),
  (224, ⟨.other, 1, 8, [.nilFunc]⟩),
  (226, ⟨.ar 20 86, 20, 160, [.int .u64 0, .int .u64 0, .int .u64 0, .int .u64 0, .int .u64 0, .int .u64 0, .int .u64 0, .int .u64 0, .int .u64 0, .int .u64 0, .int .u64 0, .int .u64 0, .int .u64 0, .int .u64 0, .int .u64 0, .int .u64 0, .int .u64 0, .int .u64 0, .int .u64 0, .int .u64 0]⟩),
  (255, ⟨.other, 1, 8, [.nilFunc]⟩),
  (282, ⟨.other, 1, 8, [.nilFunc]⟩),
  (290, ⟨.int .u8, 1, 1, [.int .u8 0]⟩),
  (305, ⟨.other, 1, 8, [.nilFunc]⟩),
  (308, ⟨.st [(0, 300)], 1, 16, [.nilIface]⟩),
  (309, ⟨.other, 1, 8, [.nilFunc]⟩),
  (20, ⟨.other, 1, 16, [.nilIface]⟩),
  (50, ⟨.other, 1, 8, [.nilFunc]⟩),
  (66, ⟨.other, 1, 8, [.nilFunc]⟩),
  (70, ⟨.other, 1, 8, [.nilFunc]⟩),
  (71, ⟨.other, 1, 8, [.nilFunc]⟩),
  (94, ⟨.other, 1, 8, [.nilFunc]⟩),
  (118, ⟨.other, 1, 8, [.nilFunc]⟩),
  (126, ⟨.other, 1, 8, [.nilFunc]⟩),
  (130, ⟨.other, 1, 8, [.nilFunc]⟩),
  (145, ⟨.other, 1, 8, [.nilFunc]⟩),
  (152, ⟨.st [(0, 21), (1, 88)], 2, 8, [.int .i32 0, .int .u32 0]⟩),
  (153, ⟨.st [(0, 21), (1, 88)], 2, 8, [.int .i32 0, .int .u32 0]⟩),
  (154, ⟨.st [(0, 148), (0, 153)], 2, 8, [.int .i32 0, .int .u32 0]⟩),
  (157, ⟨.st [(0, 148), (0, 151), (1, 155)], 3, 12, [.int .u32 0, .int .i32 0, .int .u32 0]⟩),
  (161, ⟨.st [(0, 157), (3, 159), (4, 25)], 5, 56, [.int .u32 0, .int .i32 0, .int .u32 0, .nilIface, .slice none 0 0]⟩),
  (169, ⟨.other, 1, 8, [.nilFunc]⟩),
  (172, ⟨.other, 1, 8, [.pointer none]⟩),
  (174, ⟨.other, 1, 8, [.nilFunc]⟩),
  (179, ⟨.other, 1, 8, [.nilFunc]⟩),
  (181, ⟨.other, 1, 8, [.nilFunc]⟩),
  (185, ⟨.other, 1, 8, [.nilFunc]⟩),
  (193, ⟨.other, 1, 8, [.nilFunc]⟩),
  (195, ⟨.other, 1, 8, [.nilFunc]⟩),
  (200, ⟨.other, 1, 8, [.nilFunc]⟩),
  (228, ⟨.other, 1, 8, [.nilFunc]⟩),
  (229, ⟨.other, 1, 8, [.nilFunc]⟩),
  (233, ⟨.other, 1, 8, [.nilFunc]⟩),
  (238, ⟨.other, 1, 8, [.nilFunc]⟩),
  (240, ⟨.st [(0, 237), (1, 9)], 2, 24, [.pointer none, .string ⟨#[]⟩]⟩),
  (258, ⟨.other, 1, 8, [.nilFunc]⟩),
  (259, ⟨.other, 1, 8, [.pointer none]⟩),
  (268, ⟨.other, 1, 8, [.nilFunc]⟩),
  (269, ⟨.other, 1, 8, [.nilFunc]⟩),
  (278, ⟨.other, 1, 8, [.nilFunc]⟩),
  (286, ⟨.ar 0 16, 0, 0, []⟩),
  (292, ⟨.int .i32, 1, 4, [.int .i32 0]⟩),
  (296, ⟨.other, 1, 8, [.nilFunc]⟩),
  (51, ⟨.other, 1, 8, [.nilFunc]⟩),
  (53, ⟨.st [(0, 4), (1, 52)], 2, 32, [.bool false, .slice none 0 0]⟩),
  (63, ⟨.other, 1, 8, [.nilFunc]⟩),
  (68, ⟨.other, 1, 8, [.nilFunc]⟩),
  (69, ⟨.other, 1, 8, [.nilFunc]⟩),
  (76, ⟨.other, 1, 8, [.nilFunc]⟩),
  (93, ⟨.other, 1, 8, [.nilFunc]⟩),
  (96, ⟨.other, 1, 8, [.nilFunc]⟩),
  (109, ⟨.st [(0, 3), (1, 30), (2, 108)], 3, 24, [.int .i64 0, .nilFunc, .nilFunc]⟩),
  (114, ⟨.st [(0, 9), (1, 3), (2, 3), (3, 3)], 4, 40, [.string ⟨#[]⟩, .int .i64 0, .int .i64 0, .int .i64 0]⟩),
  (115, ⟨.st [(0, 9), (1, 3), (2, 3), (3, 3)], 4, 40, [.string ⟨#[]⟩, .int .i64 0, .int .i64 0, .int .i64 0]⟩),
  (124, ⟨.other, 1, 8, [.nilFunc]⟩),
  (131, ⟨.other, 1, 8, [.nilFunc]⟩),
  (134, ⟨.other, 1, 8, [.nilFunc]⟩),
  (136, ⟨.st [(0, 135), (1, 23)], 2, 32, [.pointer none, .slice none 0 0]⟩),
  (144, ⟨.other, 1, 8, [.nilFunc]⟩),
  (146, ⟨.other, 1, 8, [.nilFunc]⟩),
  (148, ⟨.st [], 0, 0, []⟩),
  (158, ⟨.other, 1, 16, [.nilIface]⟩),
  (163, ⟨.other, 1, 8, [.nilFunc]⟩),
  (164, ⟨.other, 1, 8, [.nilFunc]⟩),
  (166, ⟨.other, 1, 8, [.nilFunc]⟩),
  (167, ⟨.other, 1, 8, [.nilFunc]⟩),
  (171, ⟨.other, 1, 8, [.nilFunc]⟩),
  (177, ⟨.other, 1, 8, [.nilFunc]⟩),
  (189, ⟨.other, 1, 8, [.nilFunc]⟩),
  (191, ⟨.other, 1, 8, [.nilFunc]⟩),
  (194, ⟨.other, 1, 8, [.nilFunc]⟩),
  (199, ⟨.other, 1, 8, [.nilFunc]⟩),
  (203, ⟨.other, 1, 8, [.nilFunc]⟩),
  (205, ⟨.other, 1, 8, [.nilFunc]⟩),
  (207, ⟨.other, 1, 8, [.nilFunc]⟩),
  (209, ⟨.other, 1, 8, [.nilFunc]⟩),
  (225, ⟨.other, 1, 8, [.nilFunc]⟩),
  (235, ⟨.other, 1, 8, [.nilFunc]⟩),
  (236, ⟨.other, 1, 8, [.nilFunc]⟩),
  (243, ⟨.st [(0, 9), (1, 3), (2, 9), (3, 241), (4, 242)], 5, 72, [.string ⟨#[]⟩, .int .i64 0, .string ⟨#[]⟩, .pointer none, .slice none 0 0]⟩),
  (251, ⟨.st [(0, 248), (1, 249), (2, 3)], 3, 56, [.slice none 0 0, .slice none 0 0, .int .i64 0]⟩),
  (261, ⟨.st [(0, 9)], 1, 16, [.string ⟨#[]⟩]⟩),
  (263, ⟨.other, 1, 8, [.nilFunc]⟩),
  (279, ⟨.st [(0, 5), (1, 5)], 2, 2, [.int .u8 0, .int .u8 0]⟩),
  (285, ⟨.st [(0, 17), (1, 17), (2, 17), (3, 9)], 4, 40, [.pointer none, .pointer none, .pointer none, .string ⟨#[]⟩]⟩),
  (288, ⟨.st [(0, 286)], 0, 0, []⟩),
  (289, ⟨.int .u8, 1, 1, [.int .u8 0]⟩),
  (291, ⟨.other, 1, 8, [.nilFunc]⟩),
  (293, ⟨.int .i32, 1, 4, [.int .i32 0]⟩),
  (295, ⟨.st [(0, 12), (1, 12), (2, 88), (3, 289), (4, 5), (5, 5), (6, 290), (7, 291), (8, 172), (9, 292), (10, 293)], 11, 48, [.int .u64 0, .int .u64 0, .int .u32 0, .int .u8 0, .int .u8 0, .int .u8 0, .int .u8 0, .nilFunc, .pointer none, .int .i32 0, .int .i32 0]⟩),
  (299, ⟨.other, 1, 16, [.nilIface]⟩),
  (31, ⟨.st [(0, 3), (1, 9), (2, 3), (3, 3)], 4, 40, [.int .i64 0, .string ⟨#[]⟩, .int .i64 0, .int .i64 0]⟩),
  (41, ⟨.st [(0, 5), (1, 9), (2, 3), (3, 3), (4, 5)], 5, 48, [.int .u8 0, .string ⟨#[]⟩, .int .i64 0, .int .i64 0, .int .u8 0]⟩),
  (46, ⟨.st [(0, 32), (4, 9), (5, 3), (6, 4)], 7, 72, [.int .i64 0, .string ⟨#[]⟩, .int .i64 0, .int .i64 0, .string ⟨#[]⟩, .int .i64 0, .bool false]⟩),
  (77, ⟨.st [(0, 26), (1, 3), (2, 3), (3, 27)], 4, 48, [.slice none 0 0, .int .i64 0, .int .i64 0, .int .i64 0]⟩),
  (79, ⟨.st [(0, 26), (1, 3), (2, 3), (3, 27)], 4, 48, [.slice none 0 0, .int .i64 0, .int .i64 0, .int .i64 0]⟩),
  (97, ⟨.st [(0, 54), (2, 54)], 4, 64, [.bool false, .slice none 0 0, .bool false, .slice none 0 0]⟩),
  (127, ⟨.other, 1, 16, [.nilIface]⟩),
  (147, ⟨.st [], 0, 0, []⟩),
  (149, ⟨.st [], 0, 0, []⟩),
  (150, ⟨.st [(0, 149), (0, 88)], 1, 4, [.int .u32 0]⟩),
  (156, ⟨.st [(0, 148), (0, 151), (1, 155)], 3, 12, [.int .u32 0, .int .i32 0, .int .u32 0]⟩),
  (160, ⟨.st [(0, 157), (3, 159), (4, 25)], 5, 56, [.int .u32 0, .int .i32 0, .int .u32 0, .nilIface, .slice none 0 0]⟩),
  (213, ⟨.st [(0, 212), (256, 25)], 257, 6168, [.slice none 0 0, .slice none 0 0, .slice none 0 0, .slice none 0 0, .slice none 0 0, .slice none 0 0, .slice none 0 0, .slice none 0 0, .slice none 0 0, .slice none 0 0, .slice none 0 0, .slice none 0 0, .slice none 0 0, .slice none 0 0, .slice none 0 0, .slice none 0 0, .slice none 0 0, .slice none 0 0, .slice none 0 0, .slice none 0 0, .slice none 0 0, .slice none 0 0, .slice none 0 0, .slice none 0 0, .slice none 0 0, .slice none 0 0, .slice none 0 0, .slice none 0 0, .slice none 0 0, .slice none 0 0, .slice none 0 0, .slice none 0 0, .slice none 0 0, .slice none 0 0, .slice none 0 0, .slice none 0 0, .slice none 0 0, .slice none 0 0, .slice none 0 0, .slice none 0 0, .slice none 0 0, .slice none 0 0, .slice none 0 0, .slice none 0 0, .slice none 0 0, .slice none 0 0, .slice none 0 0, .slice none 0 0, .slice none 0 0, .slice none 0 0, .slice none 0 0, .slice none 0 0, .slice none 0 0, .slice none 0 0, .slice none 0 0, .slice none 0 0, .slice none 0 0, .slice none 0 0, .slice none 0 0, .slice none 0 0, .slice none 0 0, .slice none 0 0, .slice none 0 0, .slice none 0 0, .slice none 0 0, .slice none 0 0, .slice none 0 0, .slice none 0 0, .slice none 0 0, .slice none 0 0, .slice none 0 0, .slice none 0 0, .slice none 0 0, .slice none 0 0, .slice none 0 0, .slice none 0 0, .slice none 0 0, .slice none 0 0, .slice none 0 0, .slice none 0 0, .slice none 0 0, .slice none 0 0, .slice none 0 0, .slice none 0 0, .slice none 0 0, .slice none 0 0, .slice none 0 0, .slice none 0 0, .slice none 0 0, .slice none 0 0, .slice none 0 0, .slice none 0 0, .slice none 0 0, .slice none 0 0, .slice none 0 0, .slice none 0 0, .slice none 0 0, .slice none 0 0, .slice none 0 0, .slice none 0 0, .slice none 0 0, .slice none 0 0, .slice none 0 0, .slice none 0 0, .slice none 0 0, .slice none 0 0, .slice none 0 0, .slice none 0 0, .slice none 0 0, .slice none 0 0, .slice none 0 0, .slice none 0 0, .slice none 0 0, .slice none 0 0, .slice none 0 0, .slice none 0 0, .slice none 0 0, .slice none 0 0, .slice none 0 0, .slice none 0 0, .slice none 0 0, .slice none 0 0, .slice none 0 0, .slice none 0 0, .slice none 0 0, .slice none 0 0, .slice none 0 0, .slice none 0 0, .slice none 0 0, .slice none 0 0, .slice none 0 0, .slice none 0 0, .slice none 0 0, .slice none 0 0, .slice none 0 0, .slice none 0 0, .slice none 0 0, .slice none 0 0, .slice none 0 0, .slice none 0 0, .slice none 0 0, .slice none 0 0, .slice none 0 0, .slice none 0 0, .slice none 0 0, .slice none 0 0, .slice none 0 0, .slice none 0 0, .slice none 0 0, .slice none 0 0, .slice none 0 0, .slice none 0 0, .slice none 0 0, .slice none 0 0, .slice none 0 0, .slice none 0 0, .slice none 0 0, .slice none 0 0, .slice none 0 0, .slice none 0 0, .slice none 0 0, .slice none 0 0, .slice none 0 0, .slice none 0 0, .slice none 0 0, .slice none 0 0, .slice none 0 0, .slice none 0 0, .slice none 0 0, .slice none 0 0, .slice none 0 0, .slice none 0 0, .slice none 0 0, .slice none 0 0, .slice none 0 0, .slice none 0 0, .slice none 0 0, .slice none 0 0, .slice none 0 0, .slice none 0 0, .slice none 0 0, .slice none 0 0, .slice none 0 0, .slice none 0 0, .slice none 0 0, .slice none 0 0, .slice none 0 0, .slice none 0 0, .slice none 0 0, .slice none 0 0, .slice none 0 0, .slice none 0 0, .slice none 0 0, .slice none 0 0, .slice none 0 0, .slice none 0 0, .slice none 0 0, .slice none 0 0, .slice none 0 0, .slice none 0 0, .slice none 0 0, .slice none 0 0, .slice none 0 0, .slice none 0 0, .slice none 0 0, .slice none 0 0, .slice none 0 0, .slice none 0 0, .slice none 0 0, .slice none 0 0, .slice none 0 0, .slice none 0 0, .slice none 0 0, .slice none 0 0, .slice none 0 0, .slice none 0 0, .slice none 0 0, .slice none 0 0, .slice none 0 0, .slice none 0 0, .slice none 0 0, .slice none 0 0, .slice none 0 0, .slice none 0 0, .slice none 0 0, .slice none 0 0, .slice none 0 0, .slice none 0 0, .slice none 0 0, .slice none 0 0, .slice none 0 0, .slice none 0 0, .slice none 0 0, .slice none 0 0, .slice none 0 0, .slice none 0 0, .slice none 0 0, .slice none 0 0, .slice none 0 0, .slice none 0 0, .slice none 0 0, .slice none 0 0, .slice none 0 0, .slice none 0 0, .slice none 0 0, .slice none 0 0, .slice none 0 0, .slice none 0 0, .slice none 0 0, .slice none 0 0, .slice none 0 0, .slice none 0 0, .slice none 0 0, .slice none 0 0, .slice none 0 0, .slice none 0 0, .slice none 0 0]⟩),
  (217, ⟨.st [(0, 3), (1, 3)], 2, 16, [.int .i64 0, .int .i64 0]⟩),
  (221, ⟨.st [(0, 9), (1, 9), (2, 128)], 3, 48, [.string ⟨#[]⟩, .string ⟨#[]⟩, .nilIface]⟩),
  (239, ⟨.st [(0, 237), (1, 9)], 2, 24, [.pointer none, .string ⟨#[]⟩]⟩),
  (250, ⟨.st [(0, 248), (1, 249), (2, 3)], 3, 56, [.slice none 0 0, .slice none 0 0, .int .i64 0]⟩),
  (253, ⟨.st [(0, 252), (1, 252), (2, 252)], 3, 6, [.int .u16 0, .int .u16 0, .int .u16 0]⟩),
  (256, ⟨.st [(0, 88), (1, 88), (2, 88)], 3, 12, [.int .u32 0, .int .u32 0, .int .u32 0]⟩),
  (260, ⟨.st [(0, 9)], 1, 16, [.string ⟨#[]⟩]⟩),
  (284, ⟨.st [(0, 17), (1, 17), (2, 17), (3, 9)], 4, 40, [.pointer none, .pointer none, .pointer none, .string ⟨#[]⟩]⟩),
  (287, ⟨.st [(0, 286)], 0, 0, []⟩),
  (294, ⟨.st [(0, 12), (1, 12), (2, 88), (3, 289), (4, 5), (5, 5), (6, 290), (7, 291), (8, 172), (9, 292), (10, 293)], 11, 48, [.int .u64 0, .int .u64 0, .int .u32 0, .int .u8 0, .int .u8 0, .int .u8 0, .int .u8 0, .nilFunc, .pointer none, .int .i32 0, .int .i32 0]⟩),
  (301, ⟨.other, 1, 16, [.nilIface]⟩),
  (307, ⟨.st [(0, 300)], 1, 16, [.nilIface]⟩)]
theorem tg3 : GoodT Tryz.prog 3 ⟨.int .i64, 1, 8, [.int .i64 0]⟩ := ⟨⟨Tryz.t3, by kernel_rfl, by kernel_rfl, by kernel_rfl, _, rfl, by kernel_rfl, by kernel_rfl⟩, Tryz.underlying3⟩
theorem tg4 : GoodT Tryz.prog 4 ⟨.bool, 1, 1, [.bool false]⟩ := ⟨⟨Tryz.t4, by kernel_rfl, by kernel_rfl, by kernel_rfl, _, rfl, by kernel_rfl, by kernel_rfl⟩, Tryz.underlying4⟩
theorem tg9 : GoodT Tryz.prog 9 ⟨.str, 1, 16, [.string ⟨#[]⟩]⟩ := ⟨⟨Tryz.t9, by kernel_rfl, by kernel_rfl, by kernel_rfl, _, rfl, by kernel_rfl, by kernel_rfl⟩, Tryz.underlying9⟩
theorem tg5 : GoodT Tryz.prog 5 ⟨.int .u8, 1, 1, [.int .u8 0]⟩ := ⟨⟨Tryz.t5, by kernel_rfl, by kernel_rfl, by kernel_rfl, _, rfl, by kernel_rfl, by kernel_rfl⟩, Tryz.underlying5⟩
theorem tg1 : GoodT Tryz.prog 1 ⟨.other, 1, 8, [.nilFunc]⟩ := ⟨⟨Tryz.t1, by kernel_rfl, by kernel_rfl, by kernel_rfl, _, rfl, by kernel_rfl, by kernel_rfl⟩, ⟨_, Tryz.underlying1, rfl⟩⟩
theorem tg2 : GoodT Tryz.prog 2 ⟨.int .i64, 1, 8, [.int .i64 0]⟩ := ⟨⟨Tryz.t2, by kernel_rfl, by kernel_rfl, by kernel_rfl, _, rfl, by kernel_rfl, by kernel_rfl⟩, Tryz.underlying2⟩
theorem tg86 : GoodT Tryz.prog 86 ⟨.int .u64, 1, 8, [.int .u64 0]⟩ := ⟨⟨Tryz.t86, by kernel_rfl, by kernel_rfl, by kernel_rfl, _, rfl, by kernel_rfl, by kernel_rfl⟩, Tryz.underlying86⟩
theorem tg88 : GoodT Tryz.prog 88 ⟨.int .u32, 1, 4, [.int .u32 0]⟩ := ⟨⟨Tryz.t88, by kernel_rfl, by kernel_rfl, by kernel_rfl, _, rfl, by kernel_rfl, by kernel_rfl⟩, Tryz.underlying88⟩
theorem tg27 : GoodT Tryz.prog 27 ⟨.int .i64, 1, 8, [.int .i64 0]⟩ := ⟨⟨Tryz.t27, by kernel_rfl, by kernel_rfl, by kernel_rfl, _, rfl, by kernel_rfl, by kernel_rfl⟩, Tryz.underlying27⟩
theorem tg21 : GoodT Tryz.prog 21 ⟨.int .i32, 1, 4, [.int .i32 0]⟩ := ⟨⟨Tryz.t21, by kernel_rfl, by kernel_rfl, by kernel_rfl, _, rfl, by kernel_rfl, by kernel_rfl⟩, Tryz.underlying21⟩
theorem tg6 : GoodT Tryz.prog 6 ⟨.int .u8, 1, 1, [.int .u8 0]⟩ := ⟨⟨Tryz.t6, by kernel_rfl, by kernel_rfl, by kernel_rfl, _, rfl, by kernel_rfl, by kernel_rfl⟩, Tryz.underlying6⟩
theorem tg7 : GoodT Tryz.prog 7 ⟨.st [(0, 2), (1, 3), (2, 4), (3, 6)], 4, 24, [.int .i64 0, .int .i64 0, .bool false, .int .u8 0]⟩ := ⟨⟨Tryz.t7, by kernel_rfl, by kernel_rfl, by kernel_rfl, _, rfl, by kernel_rfl, by kernel_rfl⟩, ⟨_, Tryz.underlying7, rfl⟩⟩
theorem tg52 : GoodT Tryz.prog 52 ⟨.sl 88, 1, 24, [.slice none 0 0]⟩ := ⟨⟨Tryz.t52, by kernel_rfl, by kernel_rfl, by kernel_rfl, _, rfl, by kernel_rfl, by kernel_rfl⟩, Tryz.underlying52⟩
theorem tg8 : GoodT Tryz.prog 8 ⟨.st [(0, 2), (1, 3), (2, 4), (3, 6)], 4, 24, [.int .i64 0, .int .i64 0, .bool false, .int .u8 0]⟩ := ⟨⟨Tryz.t8, by kernel_rfl, by kernel_rfl, by kernel_rfl, _, rfl, by kernel_rfl, by kernel_rfl⟩, ⟨_, Tryz.underlying8, rfl⟩⟩
theorem tg26 : GoodT Tryz.prog 26 ⟨.sl 32, 1, 24, [.slice none 0 0]⟩ := ⟨⟨Tryz.t26, by kernel_rfl, by kernel_rfl, by kernel_rfl, _, rfl, by kernel_rfl, by kernel_rfl⟩, Tryz.underlying26⟩
theorem tg32 : GoodT Tryz.prog 32 ⟨.st [(0, 3), (1, 9), (2, 3), (3, 3)], 4, 40, [.int .i64 0, .string ⟨#[]⟩, .int .i64 0, .int .i64 0]⟩ := ⟨⟨Tryz.t32, by kernel_rfl, by kernel_rfl, by kernel_rfl, _, rfl, by kernel_rfl, by kernel_rfl⟩, ⟨_, Tryz.underlying32, rfl⟩⟩
theorem tg23 : GoodT Tryz.prog 23 ⟨.sl 5, 1, 24, [.slice none 0 0]⟩ := ⟨⟨Tryz.t23, by kernel_rfl, by kernel_rfl, by kernel_rfl, _, rfl, by kernel_rfl, by kernel_rfl⟩, Tryz.underlying23⟩
theorem tg37 : GoodT Tryz.prog 37 ⟨.other, 1, 8, [.pointer none]⟩ := ⟨⟨Tryz.t37, by kernel_rfl, by kernel_rfl, by kernel_rfl, _, rfl, by kernel_rfl, by kernel_rfl⟩, ⟨_, Tryz.underlying37, rfl⟩⟩
theorem tg10 : GoodT Tryz.prog 10 ⟨.str, 1, 16, [.string ⟨#[]⟩]⟩ := ⟨⟨Tryz.t10, by kernel_rfl, by kernel_rfl, by kernel_rfl, _, rfl, by kernel_rfl, by kernel_rfl⟩, Tryz.underlying10⟩
theorem tg89 : GoodT Tryz.prog 89 ⟨.int .u64, 1, 8, [.int .u64 0]⟩ := ⟨⟨Tryz.t89, by kernel_rfl, by kernel_rfl, by kernel_rfl, _, rfl, by kernel_rfl, by kernel_rfl⟩, Tryz.underlying89⟩
theorem tg25 : GoodT Tryz.prog 25 ⟨.sl 9, 1, 24, [.slice none 0 0]⟩ := ⟨⟨Tryz.t25, by kernel_rfl, by kernel_rfl, by kernel_rfl, _, rfl, by kernel_rfl, by kernel_rfl⟩, Tryz.underlying25⟩
theorem tg11 : GoodT Tryz.prog 11 ⟨.str, 1, 16, [.string ⟨#[]⟩]⟩ := ⟨⟨Tryz.t11, by kernel_rfl, by kernel_rfl, by kernel_rfl, _, rfl, by kernel_rfl, by kernel_rfl⟩, Tryz.underlying11⟩
theorem tg241 : GoodT Tryz.prog 241 ⟨.other, 1, 8, [.pointer none]⟩ := ⟨⟨Tryz.t241, by kernel_rfl, by kernel_rfl, by kernel_rfl, _, rfl, by kernel_rfl, by kernel_rfl⟩, ⟨_, Tryz.underlying241, rfl⟩⟩
theorem tg54 : GoodT Tryz.prog 54 ⟨.st [(0, 4), (1, 52)], 2, 32, [.bool false, .slice none 0 0]⟩ := ⟨⟨Tryz.t54, by kernel_rfl, by kernel_rfl, by kernel_rfl, _, rfl, by kernel_rfl, by kernel_rfl⟩, ⟨_, Tryz.underlying54, rfl⟩⟩
theorem tg39 : GoodT Tryz.prog 39 ⟨.other, 1, 8, [.pointer none]⟩ := ⟨⟨Tryz.t39, by kernel_rfl, by kernel_rfl, by kernel_rfl, _, rfl, by kernel_rfl, by kernel_rfl⟩, ⟨_, Tryz.underlying39, rfl⟩⟩
theorem tg128 : GoodT Tryz.prog 128 ⟨.other, 1, 16, [.nilIface]⟩ := ⟨⟨Tryz.t128, by kernel_rfl, by kernel_rfl, by kernel_rfl, _, rfl, by kernel_rfl, by kernel_rfl⟩, ⟨_, Tryz.underlying128, rfl⟩⟩
theorem tg12 : GoodT Tryz.prog 12 ⟨.int .u64, 1, 8, [.int .u64 0]⟩ := ⟨⟨Tryz.t12, by kernel_rfl, by kernel_rfl, by kernel_rfl, _, rfl, by kernel_rfl, by kernel_rfl⟩, Tryz.underlying12⟩
theorem tg252 : GoodT Tryz.prog 252 ⟨.int .u16, 1, 2, [.int .u16 0]⟩ := ⟨⟨Tryz.t252, by kernel_rfl, by kernel_rfl, by kernel_rfl, _, rfl, by kernel_rfl, by kernel_rfl⟩, Tryz.underlying252⟩
theorem tg13 : GoodT Tryz.prog 13 ⟨.st [(0, 9), (1, 12)], 2, 24, [.string ⟨#[]⟩, .int .u64 0]⟩ := ⟨⟨Tryz.t13, by kernel_rfl, by kernel_rfl, by kernel_rfl, _, rfl, by kernel_rfl, by kernel_rfl⟩, ⟨_, Tryz.underlying13, rfl⟩⟩
theorem tg72 : GoodT Tryz.prog 72 ⟨.other, 1, 8, [.pointer none]⟩ := ⟨⟨Tryz.t72, by kernel_rfl, by kernel_rfl, by kernel_rfl, _, rfl, by kernel_rfl, by kernel_rfl⟩, ⟨_, Tryz.underlying72, rfl⟩⟩
theorem tg14 : GoodT Tryz.prog 14 ⟨.st [(0, 9), (1, 12)], 2, 24, [.string ⟨#[]⟩, .int .u64 0]⟩ := ⟨⟨Tryz.t14, by kernel_rfl, by kernel_rfl, by kernel_rfl, _, rfl, by kernel_rfl, by kernel_rfl⟩, ⟨_, Tryz.underlying14, rfl⟩⟩
theorem tg208 : GoodT Tryz.prog 208 ⟨.other, 1, 8, [.pointer none]⟩ := ⟨⟨Tryz.t208, by kernel_rfl, by kernel_rfl, by kernel_rfl, _, rfl, by kernel_rfl, by kernel_rfl⟩, ⟨_, Tryz.underlying208, rfl⟩⟩
theorem tg135 : GoodT Tryz.prog 135 ⟨.other, 1, 8, [.pointer none]⟩ := ⟨⟨Tryz.t135, by kernel_rfl, by kernel_rfl, by kernel_rfl, _, rfl, by kernel_rfl, by kernel_rfl⟩, ⟨_, Tryz.underlying135, rfl⟩⟩
theorem tg113 : GoodT Tryz.prog 113 ⟨.other, 1, 8, [.pointer none]⟩ := ⟨⟨Tryz.t113, by kernel_rfl, by kernel_rfl, by kernel_rfl, _, rfl, by kernel_rfl, by kernel_rfl⟩, ⟨_, Tryz.underlying113, rfl⟩⟩
theorem tg45 : GoodT Tryz.prog 45 ⟨.other, 1, 8, [.nilFunc]⟩ := ⟨⟨Tryz.t45, by kernel_rfl, by kernel_rfl, by kernel_rfl, _, rfl, by kernel_rfl, by kernel_rfl⟩, ⟨_, Tryz.underlying45, rfl⟩⟩
theorem tg60 : GoodT Tryz.prog 60 ⟨.str, 1, 16, [.string ⟨#[]⟩]⟩ := ⟨⟨Tryz.t60, by kernel_rfl, by kernel_rfl, by kernel_rfl, _, rfl, by kernel_rfl, by kernel_rfl⟩, Tryz.underlying60⟩
theorem tg47 : GoodT Tryz.prog 47 ⟨.st [(0, 32), (4, 9), (5, 3), (6, 4)], 7, 72, [.int .i64 0, .string ⟨#[]⟩, .int .i64 0, .int .i64 0, .string ⟨#[]⟩, .int .i64 0, .bool false]⟩ := ⟨⟨Tryz.t47, by kernel_rfl, by kernel_rfl, by kernel_rfl, _, rfl, by kernel_rfl, by kernel_rfl⟩, ⟨_, Tryz.underlying47, rfl⟩⟩
theorem tg302 : GoodT Tryz.prog 302 ⟨.other, 1, 16, [.nilIface]⟩ := ⟨⟨Tryz.t302, by kernel_rfl, by kernel_rfl, by kernel_rfl, _, rfl, by kernel_rfl, by kernel_rfl⟩, ⟨_, Tryz.underlying302, rfl⟩⟩
theorem tg42 : GoodT Tryz.prog 42 ⟨.st [(0, 5), (1, 9), (2, 3), (3, 3), (4, 5)], 5, 48, [.int .u8 0, .string ⟨#[]⟩, .int .i64 0, .int .i64 0, .int .u8 0]⟩ := ⟨⟨Tryz.t42, by kernel_rfl, by kernel_rfl, by kernel_rfl, _, rfl, by kernel_rfl, by kernel_rfl⟩, ⟨_, Tryz.underlying42, rfl⟩⟩
theorem tg137 : GoodT Tryz.prog 137 ⟨.st [(0, 135), (1, 23)], 2, 32, [.pointer none, .slice none 0 0]⟩ := ⟨⟨Tryz.t137, by kernel_rfl, by kernel_rfl, by kernel_rfl, _, rfl, by kernel_rfl, by kernel_rfl⟩, ⟨_, Tryz.underlying137, rfl⟩⟩
theorem tg264 : GoodT Tryz.prog 264 ⟨.other, 1, 8, [.pointer none]⟩ := ⟨⟨Tryz.t264, by kernel_rfl, by kernel_rfl, by kernel_rfl, _, rfl, by kernel_rfl, by kernel_rfl⟩, ⟨_, Tryz.underlying264, rfl⟩⟩
theorem tg22 : GoodT Tryz.prog 22 ⟨.other, 1, 8, [.nilFunc]⟩ := ⟨⟨Tryz.t22, by kernel_rfl, by kernel_rfl, by kernel_rfl, _, rfl, by kernel_rfl, by kernel_rfl⟩, ⟨_, Tryz.underlying22, rfl⟩⟩
theorem tg30 : GoodT Tryz.prog 30 ⟨.other, 1, 8, [.nilFunc]⟩ := ⟨⟨Tryz.t30, by kernel_rfl, by kernel_rfl, by kernel_rfl, _, rfl, by kernel_rfl, by kernel_rfl⟩, ⟨_, Tryz.underlying30, rfl⟩⟩
theorem tg98 : GoodT Tryz.prog 98 ⟨.st [(0, 54), (2, 54)], 4, 64, [.bool false, .slice none 0 0, .bool false, .slice none 0 0]⟩ := ⟨⟨Tryz.t98, by kernel_rfl, by kernel_rfl, by kernel_rfl, _, rfl, by kernel_rfl, by kernel_rfl⟩, ⟨_, Tryz.underlying98, rfl⟩⟩
theorem tg237 : GoodT Tryz.prog 237 ⟨.other, 1, 8, [.pointer none]⟩ := ⟨⟨Tryz.t237, by kernel_rfl, by kernel_rfl, by kernel_rfl, _, rfl, by kernel_rfl, by kernel_rfl⟩, ⟨_, Tryz.underlying237, rfl⟩⟩
theorem tg29 : GoodT Tryz.prog 29 ⟨.other, 1, 8, [.nilFunc]⟩ := ⟨⟨Tryz.t29, by kernel_rfl, by kernel_rfl, by kernel_rfl, _, rfl, by kernel_rfl, by kernel_rfl⟩, ⟨_, Tryz.underlying29, rfl⟩⟩
theorem tg139 : GoodT Tryz.prog 139 ⟨.other, 1, 8, [.nilFunc]⟩ := ⟨⟨Tryz.t139, by kernel_rfl, by kernel_rfl, by kernel_rfl, _, rfl, by kernel_rfl, by kernel_rfl⟩, ⟨_, Tryz.underlying139, rfl⟩⟩
theorem tg103 : GoodT Tryz.prog 103 ⟨.other, 1, 8, [.pointer none]⟩ := ⟨⟨Tryz.t103, by kernel_rfl, by kernel_rfl, by kernel_rfl, _, rfl, by kernel_rfl, by kernel_rfl⟩, ⟨_, Tryz.underlying103, rfl⟩⟩
theorem tg274 : GoodT Tryz.prog 274 ⟨.other, 1, 8, [.pointer none]⟩ := ⟨⟨Tryz.t274, by kernel_rfl, by kernel_rfl, by kernel_rfl, _, rfl, by kernel_rfl, by kernel_rfl⟩, ⟨_, Tryz.underlying274, rfl⟩⟩
theorem tg300 : GoodT Tryz.prog 300 ⟨.other, 1, 16, [.nilIface]⟩ := ⟨⟨Tryz.t300, by kernel_rfl, by kernel_rfl, by kernel_rfl, _, rfl, by kernel_rfl, by kernel_rfl⟩, ⟨_, Tryz.underlying300, rfl⟩⟩
theorem tg15 : GoodT Tryz.prog 15 ⟨.other, 1, 8, [.pointer none]⟩ := ⟨⟨Tryz.t15, by kernel_rfl, by kernel_rfl, by kernel_rfl, _, rfl, by kernel_rfl, by kernel_rfl⟩, ⟨_, Tryz.underlying15, rfl⟩⟩
theorem tg56 : GoodT Tryz.prog 56 ⟨.other, 1, 8, [.nilFunc]⟩ := ⟨⟨Tryz.t56, by kernel_rfl, by kernel_rfl, by kernel_rfl, _, rfl, by kernel_rfl, by kernel_rfl⟩, ⟨_, Tryz.underlying56, rfl⟩⟩
theorem tg82 : GoodT Tryz.prog 82 ⟨.other, 1, 8, [.nilFunc]⟩ := ⟨⟨Tryz.t82, by kernel_rfl, by kernel_rfl, by kernel_rfl, _, rfl, by kernel_rfl, by kernel_rfl⟩, ⟨_, Tryz.underlying82, rfl⟩⟩
theorem tg116 : GoodT Tryz.prog 116 ⟨.other, 1, 8, [.nilFunc]⟩ := ⟨⟨Tryz.t116, by kernel_rfl, by kernel_rfl, by kernel_rfl, _, rfl, by kernel_rfl, by kernel_rfl⟩, ⟨_, Tryz.underlying116, rfl⟩⟩
theorem tg248 : GoodT Tryz.prog 248 ⟨.sl 254, 1, 24, [.slice none 0 0]⟩ := ⟨⟨Tryz.t248, by kernel_rfl, by kernel_rfl, by kernel_rfl, _, rfl, by kernel_rfl, by kernel_rfl⟩, Tryz.underlying248⟩
theorem tg34 : GoodT Tryz.prog 34 ⟨.other, 1, 8, [.nilFunc]⟩ := ⟨⟨Tryz.t34, by kernel_rfl, by kernel_rfl, by kernel_rfl, _, rfl, by kernel_rfl, by kernel_rfl⟩, ⟨_, Tryz.underlying34, rfl⟩⟩
theorem tg83 : GoodT Tryz.prog 83 ⟨.other, 1, 8, [.nilFunc]⟩ := ⟨⟨Tryz.t83, by kernel_rfl, by kernel_rfl, by kernel_rfl, _, rfl, by kernel_rfl, by kernel_rfl⟩, ⟨_, Tryz.underlying83, rfl⟩⟩
theorem tg182 : GoodT Tryz.prog 182 ⟨.int .i64, 1, 8, [.int .i64 0]⟩ := ⟨⟨Tryz.t182, by kernel_rfl, by kernel_rfl, by kernel_rfl, _, rfl, by kernel_rfl, by kernel_rfl⟩, Tryz.underlying182⟩
theorem tg206 : GoodT Tryz.prog 206 ⟨.other, 1, 8, [.pointer none]⟩ := ⟨⟨Tryz.t206, by kernel_rfl, by kernel_rfl, by kernel_rfl, _, rfl, by kernel_rfl, by kernel_rfl⟩, ⟨_, Tryz.underlying206, rfl⟩⟩
theorem tg242 : GoodT Tryz.prog 242 ⟨.sl 241, 1, 24, [.slice none 0 0]⟩ := ⟨⟨Tryz.t242, by kernel_rfl, by kernel_rfl, by kernel_rfl, _, rfl, by kernel_rfl, by kernel_rfl⟩, Tryz.underlying242⟩
theorem tg102 : GoodT Tryz.prog 102 ⟨.other, 1, 8, [.nilFunc]⟩ := ⟨⟨Tryz.t102, by kernel_rfl, by kernel_rfl, by kernel_rfl, _, rfl, by kernel_rfl, by kernel_rfl⟩, ⟨_, Tryz.underlying102, rfl⟩⟩
theorem tg183 : GoodT Tryz.prog 183 ⟨.other, 1, 8, [.nilFunc]⟩ := ⟨⟨Tryz.t183, by kernel_rfl, by kernel_rfl, by kernel_rfl, _, rfl, by kernel_rfl, by kernel_rfl⟩, ⟨_, Tryz.underlying183, rfl⟩⟩
theorem tg215 : GoodT Tryz.prog 215 ⟨.other, 1, 8, [.pointer none]⟩ := ⟨⟨Tryz.t215, by kernel_rfl, by kernel_rfl, by kernel_rfl, _, rfl, by kernel_rfl, by kernel_rfl⟩, ⟨_, Tryz.underlying215, rfl⟩⟩
theorem tg216 : GoodT Tryz.prog 216 ⟨.sl 218, 1, 24, [.slice none 0 0]⟩ := ⟨⟨Tryz.t216, by kernel_rfl, by kernel_rfl, by kernel_rfl, _, rfl, by kernel_rfl, by kernel_rfl⟩, Tryz.underlying216⟩
theorem tg297 : GoodT Tryz.prog 297 ⟨.sl 5, 1, 24, [.slice none 0 0]⟩ := ⟨⟨Tryz.t297, by kernel_rfl, by kernel_rfl, by kernel_rfl, _, rfl, by kernel_rfl, by kernel_rfl⟩, Tryz.underlying297⟩
theorem tg16 : GoodT Tryz.prog 16 ⟨.other, 1, 8, [.pointer none]⟩ := ⟨⟨Tryz.t16, by kernel_rfl, by kernel_rfl, by kernel_rfl, _, rfl, by kernel_rfl, by kernel_rfl⟩, ⟨_, Tryz.underlying16, rfl⟩⟩
theorem tg17 : GoodT Tryz.prog 17 ⟨.other, 1, 8, [.pointer none]⟩ := ⟨⟨Tryz.t17, by kernel_rfl, by kernel_rfl, by kernel_rfl, _, rfl, by kernel_rfl, by kernel_rfl⟩, ⟨_, Tryz.underlying17, rfl⟩⟩
theorem tg220 : GoodT Tryz.prog 220 ⟨.other, 1, 8, [.pointer none]⟩ := ⟨⟨Tryz.t220, by kernel_rfl, by kernel_rfl, by kernel_rfl, _, rfl, by kernel_rfl, by kernel_rfl⟩, ⟨_, Tryz.underlying220, rfl⟩⟩
theorem tg249 : GoodT Tryz.prog 249 ⟨.sl 257, 1, 24, [.slice none 0 0]⟩ := ⟨⟨Tryz.t249, by kernel_rfl, by kernel_rfl, by kernel_rfl, _, rfl, by kernel_rfl, by kernel_rfl⟩, Tryz.underlying249⟩
theorem tg254 : GoodT Tryz.prog 254 ⟨.st [(0, 252), (1, 252), (2, 252)], 3, 6, [.int .u16 0, .int .u16 0, .int .u16 0]⟩ := ⟨⟨Tryz.t254, by kernel_rfl, by kernel_rfl, by kernel_rfl, _, rfl, by kernel_rfl, by kernel_rfl⟩, ⟨_, Tryz.underlying254, rfl⟩⟩
theorem tg19 : GoodT Tryz.prog 19 ⟨.st [(0, 17)], 1, 8, [.pointer none]⟩ := ⟨⟨Tryz.t19, by kernel_rfl, by kernel_rfl, by kernel_rfl, _, rfl, by kernel_rfl, by kernel_rfl⟩, ⟨_, Tryz.underlying19, rfl⟩⟩
theorem tg35 : GoodT Tryz.prog 35 ⟨.other, 1, 8, [.nilFunc]⟩ := ⟨⟨Tryz.t35, by kernel_rfl, by kernel_rfl, by kernel_rfl, _, rfl, by kernel_rfl, by kernel_rfl⟩, ⟨_, Tryz.underlying35, rfl⟩⟩
theorem tg110 : GoodT Tryz.prog 110 ⟨.st [(0, 3), (1, 30), (2, 108)], 3, 24, [.int .i64 0, .nilFunc, .nilFunc]⟩ := ⟨⟨Tryz.t110, by kernel_rfl, by kernel_rfl, by kernel_rfl, _, rfl, by kernel_rfl, by kernel_rfl⟩, ⟨_, Tryz.underlying110, rfl⟩⟩
theorem tg230 : GoodT Tryz.prog 230 ⟨.other, 1, 8, [.nilFunc]⟩ := ⟨⟨Tryz.t230, by kernel_rfl, by kernel_rfl, by kernel_rfl, _, rfl, by kernel_rfl, by kernel_rfl⟩, ⟨_, Tryz.underlying230, rfl⟩⟩
theorem tg244 : GoodT Tryz.prog 244 ⟨.st [(0, 9), (1, 3), (2, 9), (3, 241), (4, 242)], 5, 72, [.string ⟨#[]⟩, .int .i64 0, .string ⟨#[]⟩, .pointer none, .slice none 0 0]⟩ := ⟨⟨Tryz.t244, by kernel_rfl, by kernel_rfl, by kernel_rfl, _, rfl, by kernel_rfl, by kernel_rfl⟩, ⟨_, Tryz.underlying244, rfl⟩⟩
theorem tg257 : GoodT Tryz.prog 257 ⟨.st [(0, 88), (1, 88), (2, 88)], 3, 12, [.int .u32 0, .int .u32 0, .int .u32 0]⟩ := ⟨⟨Tryz.t257, by kernel_rfl, by kernel_rfl, by kernel_rfl, _, rfl, by kernel_rfl, by kernel_rfl⟩, ⟨_, Tryz.underlying257, rfl⟩⟩
theorem tg280 : GoodT Tryz.prog 280 ⟨.st [(0, 5), (1, 5)], 2, 2, [.int .u8 0, .int .u8 0]⟩ := ⟨⟨Tryz.t280, by kernel_rfl, by kernel_rfl, by kernel_rfl, _, rfl, by kernel_rfl, by kernel_rfl⟩, ⟨_, Tryz.underlying280, rfl⟩⟩
theorem tg44 : GoodT Tryz.prog 44 ⟨.other, 1, 8, [.nilFunc]⟩ := ⟨⟨Tryz.t44, by kernel_rfl, by kernel_rfl, by kernel_rfl, _, rfl, by kernel_rfl, by kernel_rfl⟩, ⟨_, Tryz.underlying44, rfl⟩⟩
theorem tg111 : GoodT Tryz.prog 111 ⟨.sl 110, 1, 24, [.slice none 0 0]⟩ := ⟨⟨Tryz.t111, by kernel_rfl, by kernel_rfl, by kernel_rfl, _, rfl, by kernel_rfl, by kernel_rfl⟩, Tryz.underlying111⟩
theorem tg132 : GoodT Tryz.prog 132 ⟨.other, 1, 8, [.nilFunc]⟩ := ⟨⟨Tryz.t132, by kernel_rfl, by kernel_rfl, by kernel_rfl, _, rfl, by kernel_rfl, by kernel_rfl⟩, ⟨_, Tryz.underlying132, rfl⟩⟩
theorem tg184 : GoodT Tryz.prog 184 ⟨.other, 1, 8, [.pointer none]⟩ := ⟨⟨Tryz.t184, by kernel_rfl, by kernel_rfl, by kernel_rfl, _, rfl, by kernel_rfl, by kernel_rfl⟩, ⟨_, Tryz.underlying184, rfl⟩⟩
theorem tg204 : GoodT Tryz.prog 204 ⟨.other, 1, 8, [.pointer none]⟩ := ⟨⟨Tryz.t204, by kernel_rfl, by kernel_rfl, by kernel_rfl, _, rfl, by kernel_rfl, by kernel_rfl⟩, ⟨_, Tryz.underlying204, rfl⟩⟩
theorem tg212 : GoodT Tryz.prog 212 ⟨.ar 256 23, 256, 6144, [.slice none 0 0, .slice none 0 0, .slice none 0 0, .slice none 0 0, .slice none 0 0, .slice none 0 0, .slice none 0 0, .slice none 0 0, .slice none 0 0, .slice none 0 0, .slice none 0 0, .slice none 0 0, .slice none 0 0, .slice none 0 0, .slice none 0 0, .slice none 0 0, .slice none 0 0, .slice none 0 0, .slice none 0 0, .slice none 0 0, .slice none 0 0, .slice none 0 0, .slice none 0 0, .slice none 0 0, .slice none 0 0, .slice none 0 0, .slice none 0 0, .slice none 0 0, .slice none 0 0, .slice none 0 0, .slice none 0 0, .slice none 0 0, .slice none 0 0, .slice none 0 0, .slice none 0 0, .slice none 0 0, .slice none 0 0, .slice none 0 0, .slice none 0 0, .slice none 0 0, .slice none 0 0, .slice none 0 0, .slice none 0 0, .slice none 0 0, .slice none 0 0, .slice none 0 0, .slice none 0 0, .slice none 0 0, .slice none 0 0, .slice none 0 0, .slice none 0 0, .slice none 0 0, .slice none 0 0, .slice none 0 0, .slice none 0 0, .slice none 0 0, .slice none 0 0, .slice none 0 0, .slice none 0 0, .slice none 0 0, .slice none 0 0, .slice none 0 0, .slice none 0 0, .slice none 0 0, .slice none 0 0, .slice none 0 0, .slice none 0 0, .slice none 0 0, .slice none 0 0, .slice none 0 0, .slice none 0 0, .slice none 0 0, .slice none 0 0, .slice none 0 0, .slice none 0 0, .slice none 0 0, .slice none 0 0, .slice none 0 0, .slice none 0 0, .slice none 0 0, .slice none 0 0, .slice none 0 0, .slice none 0 0, .slice none 0 0, .slice none 0 0, .slice none 0 0, .slice none 0 0, .slice none 0 0, .slice none 0 0, .slice none 0 0, .slice none 0 0, .slice none 0 0, .slice none 0 0, .slice none 0 0, .slice none 0 0, .slice none 0 0, .slice none 0 0, .slice none 0 0, .slice none 0 0, .slice none 0 0, .slice none 0 0, .slice none 0 0, .slice none 0 0, .slice none 0 0, .slice none 0 0, .slice none 0 0, .slice none 0 0, .slice none 0 0, .slice none 0 0, .slice none 0 0, .slice none 0 0, .slice none 0 0, .slice none 0 0, .slice none 0 0, .slice none 0 0, .slice none 0 0, .slice none 0 0, .slice none 0 0, .slice none 0 0, .slice none 0 0, .slice none 0 0, .slice none 0 0, .slice none 0 0, .slice none 0 0, .slice none 0 0, .slice none 0 0, .slice none 0 0, .slice none 0 0, .slice none 0 0, .slice none 0 0, .slice none 0 0, .slice none 0 0, .slice none 0 0, .slice none 0 0, .slice none 0 0, .slice none 0 0, .slice none 0 0, .slice none 0 0, .slice none 0 0, .slice none 0 0, .slice none 0 0, .slice none 0 0, .slice none 0 0, .slice none 0 0, .slice none 0 0, .slice none 0 0, .slice none 0 0, .slice none 0 0, .slice none 0 0, .slice none 0 0, .slice none 0 0, .slice none 0 0, .slice none 0 0, .slice none 0 0, .slice none 0 0, .slice none 0 0, .slice none 0 0, .slice none 0 0, .slice none 0 0, .slice none 0 0, .slice none 0 0, .slice none 0 0, .slice none 0 0, .slice none 0 0, .slice none 0 0, .slice none 0 0, .slice none 0 0, .slice none 0 0, .slice none 0 0, .slice none 0 0, .slice none 0 0, .slice none 0 0, .slice none 0 0, .slice none 0 0, .slice none 0 0, .slice none 0 0, .slice none 0 0, .slice none 0 0, .slice none 0 0, .slice none 0 0, .slice none 0 0, .slice none 0 0, .slice none 0 0, .slice none 0 0, .slice none 0 0, .slice none 0 0, .slice none 0 0, .slice none 0 0, .slice none 0 0, .slice none 0 0, .slice none 0 0, .slice none 0 0, .slice none 0 0, .slice none 0 0, .slice none 0 0, .slice none 0 0, .slice none 0 0, .slice none 0 0, .slice none 0 0, .slice none 0 0, .slice none 0 0, .slice none 0 0, .slice none 0 0, .slice none 0 0, .slice none 0 0, .slice none 0 0, .slice none 0 0, .slice none 0 0, .slice none 0 0, .slice none 0 0, .slice none 0 0, .slice none 0 0, .slice none 0 0, .slice none 0 0, .slice none 0 0, .slice none 0 0, .slice none 0 0, .slice none 0 0, .slice none 0 0, .slice none 0 0, .slice none 0 0, .slice none 0 0, .slice none 0 0, .slice none 0 0, .slice none 0 0, .slice none 0 0, .slice none 0 0, .slice none 0 0, .slice none 0 0, .slice none 0 0, .slice none 0 0, .slice none 0 0, .slice none 0 0, .slice none 0 0, .slice none 0 0, .slice none 0 0, .slice none 0 0, .slice none 0 0, .slice none 0 0, .slice none 0 0, .slice none 0 0, .slice none 0 0, .slice none 0 0, .slice none 0 0, .slice none 0 0, .slice none 0 0, .slice none 0 0, .slice none 0 0, .slice none 0 0, .slice none 0 0, .slice none 0 0, .slice none 0 0, .slice none 0 0, .slice none 0 0, .slice none 0 0, .slice none 0 0]⟩ := ⟨⟨Tryz.t212, by kernel_rfl, by kernel_rfl, by kernel_rfl, _, rfl, by kernel_rfl, by kernel_rfl⟩, Tryz.underlying212⟩
theorem tg275 : GoodT Tryz.prog 275 ⟨.other, 1, 8, [.pointer none]⟩ := ⟨⟨Tryz.t275, by kernel_rfl, by kernel_rfl, by kernel_rfl, _, rfl, by kernel_rfl, by kernel_rfl⟩, ⟨_, Tryz.underlying275, rfl⟩⟩
theorem tg24 : GoodT Tryz.prog 24 ⟨.other, 1, 8, [.nilFunc]⟩ := ⟨⟨Tryz.t24, by kernel_rfl, by kernel_rfl, by kernel_rfl, _, rfl, by kernel_rfl, by kernel_rfl⟩, ⟨_, Tryz.underlying24, rfl⟩⟩
theorem tg80 : GoodT Tryz.prog 80 ⟨.st [(0, 26), (1, 3), (2, 3), (3, 27)], 4, 48, [.slice none 0 0, .int .i64 0, .int .i64 0, .int .i64 0]⟩ := ⟨⟨Tryz.t80, by kernel_rfl, by kernel_rfl, by kernel_rfl, _, rfl, by kernel_rfl, by kernel_rfl⟩, ⟨_, Tryz.underlying80, rfl⟩⟩
theorem tg121 : GoodT Tryz.prog 121 ⟨.other, 1, 8, [.nilFunc]⟩ := ⟨⟨Tryz.t121, by kernel_rfl, by kernel_rfl, by kernel_rfl, _, rfl, by kernel_rfl, by kernel_rfl⟩, ⟨_, Tryz.underlying121, rfl⟩⟩
theorem tg178 : GoodT Tryz.prog 178 ⟨.other, 1, 8, [.pointer none]⟩ := ⟨⟨Tryz.t178, by kernel_rfl, by kernel_rfl, by kernel_rfl, _, rfl, by kernel_rfl, by kernel_rfl⟩, ⟨_, Tryz.underlying178, rfl⟩⟩
theorem tg192 : GoodT Tryz.prog 192 ⟨.other, 1, 8, [.pointer none]⟩ := ⟨⟨Tryz.t192, by kernel_rfl, by kernel_rfl, by kernel_rfl, _, rfl, by kernel_rfl, by kernel_rfl⟩, ⟨_, Tryz.underlying192, rfl⟩⟩
theorem tg201 : GoodT Tryz.prog 201 ⟨.other, 1, 8, [.pointer none]⟩ := ⟨⟨Tryz.t201, by kernel_rfl, by kernel_rfl, by kernel_rfl, _, rfl, by kernel_rfl, by kernel_rfl⟩, ⟨_, Tryz.underlying201, rfl⟩⟩
theorem tg211 : GoodT Tryz.prog 211 ⟨.other, 1, 8, [.pointer none]⟩ := ⟨⟨Tryz.t211, by kernel_rfl, by kernel_rfl, by kernel_rfl, _, rfl, by kernel_rfl, by kernel_rfl⟩, ⟨_, Tryz.underlying211, rfl⟩⟩
theorem tg214 : GoodT Tryz.prog 214 ⟨.st [(0, 212), (256, 25)], 257, 6168, [.slice none 0 0, .slice none 0 0, .slice none 0 0, .slice none 0 0, .slice none 0 0, .slice none 0 0, .slice none 0 0, .slice none 0 0, .slice none 0 0, .slice none 0 0, .slice none 0 0, .slice none 0 0, .slice none 0 0, .slice none 0 0, .slice none 0 0, .slice none 0 0, .slice none 0 0, .slice none 0 0, .slice none 0 0, .slice none 0 0, .slice none 0 0, .slice none 0 0, .slice none 0 0, .slice none 0 0, .slice none 0 0, .slice none 0 0, .slice none 0 0, .slice none 0 0, .slice none 0 0, .slice none 0 0, .slice none 0 0, .slice none 0 0, .slice none 0 0, .slice none 0 0, .slice none 0 0, .slice none 0 0, .slice none 0 0, .slice none 0 0, .slice none 0 0, .slice none 0 0, .slice none 0 0, .slice none 0 0, .slice none 0 0, .slice none 0 0, .slice none 0 0, .slice none 0 0, .slice none 0 0, .slice none 0 0, .slice none 0 0, .slice none 0 0, .slice none 0 0, .slice none 0 0, .slice none 0 0, .slice none 0 0, .slice none 0 0, .slice none 0 0, .slice none 0 0, .slice none 0 0, .slice none 0 0, .slice none 0 0, .slice none 0 0, .slice none 0 0, .slice none 0 0, .slice none 0 0, .slice none 0 0, .slice none 0 0, .slice none 0 0, .slice none 0 0, .slice none 0 0, .slice none 0 0, .slice none 0 0, .slice none 0 0, .slice none 0 0, .slice none 0 0, .slice none 0 0, .slice none 0 0, .slice none 0 0, .slice none 0 0, .slice none 0 0, .slice none 0 0, .slice none 0 0, .slice none 0 0, .slice none 0 0, .slice none 0 0, .slice none 0 0, .slice none 0 0, .slice none 0 0, .slice none 0 0, .slice none 0 0, .slice none 0 0, .slice none 0 0, .slice none 0 0, .slice none 0 0, .slice none 0 0, .slice none 0 0, .slice none 0 0, .slice none 0 0, .slice none 0 0, .slice none 0 0, .slice none 0 0, .slice none 0 0, .slice none 0 0, .slice none 0 0, .slice none 0 0, .slice none 0 0, .slice none 0 0, .slice none 0 0, .slice none 0 0, .slice none 0 0, .slice none 0 0, .slice none 0 0, .slice none 0 0, .slice none 0 0, .slice none 0 0, .slice none 0 0, .slice none 0 0, .slice none 0 0, .slice none 0 0, .slice none 0 0, .slice none 0 0, .slice none 0 0, .slice none 0 0, .slice none 0 0, .slice none 0 0, .slice none 0 0, .slice none 0 0, .slice none 0 0, .slice none 0 0, .slice none 0 0, .slice none 0 0, .slice none 0 0, .slice none 0 0, .slice none 0 0, .slice none 0 0, .slice none 0 0, .slice none 0 0, .slice none 0 0, .slice none 0 0, .slice none 0 0, .slice none 0 0, .slice none 0 0, .slice none 0 0, .slice none 0 0, .slice none 0 0, .slice none 0 0, .slice none 0 0, .slice none 0 0, .slice none 0 0, .slice none 0 0, .slice none 0 0, .slice none 0 0, .slice none 0 0, .slice none 0 0, .slice none 0 0, .slice none 0 0, .slice none 0 0, .slice none 0 0, .slice none 0 0, .slice none 0 0, .slice none 0 0, .slice none 0 0, .slice none 0 0, .slice none 0 0, .slice none 0 0, .slice none 0 0, .slice none 0 0, .slice none 0 0, .slice none 0 0, .slice none 0 0, .slice none 0 0, .slice none 0 0, .slice none 0 0, .slice none 0 0, .slice none 0 0, .slice none 0 0, .slice none 0 0, .slice none 0 0, .slice none 0 0, .slice none 0 0, .slice none 0 0, .slice none 0 0, .slice none 0 0, .slice none 0 0, .slice none 0 0, .slice none 0 0, .slice none 0 0, .slice none 0 0, .slice none 0 0, .slice none 0 0, .slice none 0 0, .slice none 0 0, .slice none 0 0, .slice none 0 0, .slice none 0 0, .slice none 0 0, .slice none 0 0, .slice none 0 0, .slice none 0 0, .slice none 0 0, .slice none 0 0, .slice none 0 0, .slice none 0 0, .slice none 0 0, .slice none 0 0, .slice none 0 0, .slice none 0 0, .slice none 0 0, .slice none 0 0, .slice none 0 0, .slice none 0 0, .slice none 0 0, .slice none 0 0, .slice none 0 0, .slice none 0 0, .slice none 0 0, .slice none 0 0, .slice none 0 0, .slice none 0 0, .slice none 0 0, .slice none 0 0, .slice none 0 0, .slice none 0 0, .slice none 0 0, .slice none 0 0, .slice none 0 0, .slice none 0 0, .slice none 0 0, .slice none 0 0, .slice none 0 0, .slice none 0 0, .slice none 0 0, .slice none 0 0, .slice none 0 0, .slice none 0 0, .slice none 0 0, .slice none 0 0, .slice none 0 0, .slice none 0 0, .slice none 0 0, .slice none 0 0, .slice none 0 0, .slice none 0 0, .slice none 0 0, .slice none 0 0, .slice none 0 0, .slice none 0 0, .slice none 0 0, .slice none 0 0, .slice none 0 0, .slice none 0 0, .slice none 0 0, .slice none 0 0, .slice none 0 0, .slice none 0 0, .slice none 0 0, .slice none 0 0, .slice none 0 0]⟩ := ⟨⟨Tryz.t214, by kernel_rfl, by kernel_rfl, by kernel_rfl, _, rfl, by kernel_rfl, by kernel_rfl⟩, ⟨_, Tryz.underlying214, rfl⟩⟩
theorem tg266 : GoodT Tryz.prog 266 ⟨.other, 1, 8, [.pointer none]⟩ := ⟨⟨Tryz.t266, by kernel_rfl, by kernel_rfl, by kernel_rfl, _, rfl, by kernel_rfl, by kernel_rfl⟩, ⟨_, Tryz.underlying266, rfl⟩⟩
theorem tg298 : GoodT Tryz.prog 298 ⟨.other, 1, 8, [.pointer none]⟩ := ⟨⟨Tryz.t298, by kernel_rfl, by kernel_rfl, by kernel_rfl, _, rfl, by kernel_rfl, by kernel_rfl⟩, ⟨_, Tryz.underlying298, rfl⟩⟩
theorem tg78 : GoodT Tryz.prog 78 ⟨.st [(0, 26), (1, 3), (2, 3), (3, 27)], 4, 48, [.slice none 0 0, .int .i64 0, .int .i64 0, .int .i64 0]⟩ := ⟨⟨Tryz.t78, by kernel_rfl, by kernel_rfl, by kernel_rfl, _, rfl, by kernel_rfl, by kernel_rfl⟩, ⟨_, Tryz.underlying78, rfl⟩⟩
theorem tg175 : GoodT Tryz.prog 175 ⟨.other, 1, 8, [.nilFunc]⟩ := ⟨⟨Tryz.t175, by kernel_rfl, by kernel_rfl, by kernel_rfl, _, rfl, by kernel_rfl, by kernel_rfl⟩, ⟨_, Tryz.underlying175, rfl⟩⟩
theorem tg218 : GoodT Tryz.prog 218 ⟨.st [(0, 3), (1, 3)], 2, 16, [.int .i64 0, .int .i64 0]⟩ := ⟨⟨Tryz.t218, by kernel_rfl, by kernel_rfl, by kernel_rfl, _, rfl, by kernel_rfl, by kernel_rfl⟩, ⟨_, Tryz.underlying218, rfl⟩⟩
theorem tg262 : GoodT Tryz.prog 262 ⟨.other, 1, 8, [.nilFunc]⟩ := ⟨⟨Tryz.t262, by kernel_rfl, by kernel_rfl, by kernel_rfl, _, rfl, by kernel_rfl, by kernel_rfl⟩, ⟨_, Tryz.underlying262, rfl⟩⟩
theorem tg18 : GoodT Tryz.prog 18 ⟨.st [(0, 17)], 1, 8, [.pointer none]⟩ := ⟨⟨Tryz.t18, by kernel_rfl, by kernel_rfl, by kernel_rfl, _, rfl, by kernel_rfl, by kernel_rfl⟩, ⟨_, Tryz.underlying18, rfl⟩⟩
theorem tg36 : GoodT Tryz.prog 36 ⟨.sl 42, 1, 24, [.slice none 0 0]⟩ := ⟨⟨Tryz.t36, by kernel_rfl, by kernel_rfl, by kernel_rfl, _, rfl, by kernel_rfl, by kernel_rfl⟩, Tryz.underlying36⟩
theorem tg59 : GoodT Tryz.prog 59 ⟨.other, 1, 8, [.nilFunc]⟩ := ⟨⟨Tryz.t59, by kernel_rfl, by kernel_rfl, by kernel_rfl, _, rfl, by kernel_rfl, by kernel_rfl⟩, ⟨_, Tryz.underlying59, rfl⟩⟩
theorem tg61 : GoodT Tryz.prog 61 ⟨.other, 1, 8, [.nilFunc]⟩ := ⟨⟨Tryz.t61, by kernel_rfl, by kernel_rfl, by kernel_rfl, _, rfl, by kernel_rfl, by kernel_rfl⟩, ⟨_, Tryz.underlying61, rfl⟩⟩
theorem tg85 : GoodT Tryz.prog 85 ⟨.other, 1, 8, [.nilFunc]⟩ := ⟨⟨Tryz.t85, by kernel_rfl, by kernel_rfl, by kernel_rfl, _, rfl, by kernel_rfl, by kernel_rfl⟩, ⟨_, Tryz.underlying85, rfl⟩⟩
theorem tg105 : GoodT Tryz.prog 105 ⟨.other, 1, 8, [.nilFunc]⟩ := ⟨⟨Tryz.t105, by kernel_rfl, by kernel_rfl, by kernel_rfl, _, rfl, by kernel_rfl, by kernel_rfl⟩, ⟨_, Tryz.underlying105, rfl⟩⟩
theorem tg108 : GoodT Tryz.prog 108 ⟨.other, 1, 8, [.nilFunc]⟩ := ⟨⟨Tryz.t108, by kernel_rfl, by kernel_rfl, by kernel_rfl, _, rfl, by kernel_rfl, by kernel_rfl⟩, ⟨_, Tryz.underlying108, rfl⟩⟩
theorem tg247 : GoodT Tryz.prog 247 ⟨.other, 1, 8, [.nilFunc]⟩ := ⟨⟨Tryz.t247, by kernel_rfl, by kernel_rfl, by kernel_rfl, _, rfl, by kernel_rfl, by kernel_rfl⟩, ⟨_, Tryz.underlying247, rfl⟩⟩
theorem tg38 : GoodT Tryz.prog 38 ⟨.other, 1, 8, [.nilFunc]⟩ := ⟨⟨Tryz.t38, by kernel_rfl, by kernel_rfl, by kernel_rfl, _, rfl, by kernel_rfl, by kernel_rfl⟩, ⟨_, Tryz.underlying38, rfl⟩⟩
theorem tg48 : GoodT Tryz.prog 48 ⟨.other, 1, 8, [.nilFunc]⟩ := ⟨⟨Tryz.t48, by kernel_rfl, by kernel_rfl, by kernel_rfl, _, rfl, by kernel_rfl, by kernel_rfl⟩, ⟨_, Tryz.underlying48, rfl⟩⟩
theorem tg62 : GoodT Tryz.prog 62 ⟨.other, 1, 8, [.nilFunc]⟩ := ⟨⟨Tryz.t62, by kernel_rfl, by kernel_rfl, by kernel_rfl, _, rfl, by kernel_rfl, by kernel_rfl⟩, ⟨_, Tryz.underlying62, rfl⟩⟩
theorem tg117 : GoodT Tryz.prog 117 ⟨.other, 1, 8, [.nilFunc]⟩ := ⟨⟨Tryz.t117, by kernel_rfl, by kernel_rfl, by kernel_rfl, _, rfl, by kernel_rfl, by kernel_rfl⟩, ⟨_, Tryz.underlying117, rfl⟩⟩
theorem tg140 : GoodT Tryz.prog 140 ⟨.other, 1, 8, [.nilFunc]⟩ := ⟨⟨Tryz.t140, by kernel_rfl, by kernel_rfl, by kernel_rfl, _, rfl, by kernel_rfl, by kernel_rfl⟩, ⟨_, Tryz.underlying140, rfl⟩⟩
theorem tg141 : GoodT Tryz.prog 141 ⟨.other, 1, 8, [.nilFunc]⟩ := ⟨⟨Tryz.t141, by kernel_rfl, by kernel_rfl, by kernel_rfl, _, rfl, by kernel_rfl, by kernel_rfl⟩, ⟨_, Tryz.underlying141, rfl⟩⟩
theorem tg176 : GoodT Tryz.prog 176 ⟨.other, 1, 8, [.nilFunc]⟩ := ⟨⟨Tryz.t176, by kernel_rfl, by kernel_rfl, by kernel_rfl, _, rfl, by kernel_rfl, by kernel_rfl⟩, ⟨_, Tryz.underlying176, rfl⟩⟩
theorem tg187 : GoodT Tryz.prog 187 ⟨.ar 24 5, 24, 24, [.int .u8 0, .int .u8 0, .int .u8 0, .int .u8 0, .int .u8 0, .int .u8 0, .int .u8 0, .int .u8 0, .int .u8 0, .int .u8 0, .int .u8 0, .int .u8 0, .int .u8 0, .int .u8 0, .int .u8 0, .int .u8 0, .int .u8 0, .int .u8 0, .int .u8 0, .int .u8 0, .int .u8 0, .int .u8 0, .int .u8 0, .int .u8 0]⟩ := ⟨⟨Tryz.t187, by kernel_rfl, by kernel_rfl, by kernel_rfl, _, rfl, by kernel_rfl, by kernel_rfl⟩, Tryz.underlying187⟩
theorem tg202 : GoodT Tryz.prog 202 ⟨.other, 1, 8, [.pointer none]⟩ := ⟨⟨Tryz.t202, by kernel_rfl, by kernel_rfl, by kernel_rfl, _, rfl, by kernel_rfl, by kernel_rfl⟩, ⟨_, Tryz.underlying202, rfl⟩⟩
theorem tg267 : GoodT Tryz.prog 267 ⟨.other, 1, 8, [.nilFunc]⟩ := ⟨⟨Tryz.t267, by kernel_rfl, by kernel_rfl, by kernel_rfl, _, rfl, by kernel_rfl, by kernel_rfl⟩, ⟨_, Tryz.underlying267, rfl⟩⟩
theorem tg270 : GoodT Tryz.prog 270 ⟨.sl 3, 1, 24, [.slice none 0 0]⟩ := ⟨⟨Tryz.t270, by kernel_rfl, by kernel_rfl, by kernel_rfl, _, rfl, by kernel_rfl, by kernel_rfl⟩, Tryz.underlying270⟩
theorem tg33 : GoodT Tryz.prog 33 ⟨.other, 1, 8, [.nilFunc]⟩ := ⟨⟨Tryz.t33, by kernel_rfl, by kernel_rfl, by kernel_rfl, _, rfl, by kernel_rfl, by kernel_rfl⟩, ⟨_, Tryz.underlying33, rfl⟩⟩
theorem tg55 : GoodT Tryz.prog 55 ⟨.other, 1, 8, [.nilFunc]⟩ := ⟨⟨Tryz.t55, by kernel_rfl, by kernel_rfl, by kernel_rfl, _, rfl, by kernel_rfl, by kernel_rfl⟩, ⟨_, Tryz.underlying55, rfl⟩⟩
theorem tg65 : GoodT Tryz.prog 65 ⟨.other, 1, 8, [.nilFunc]⟩ := ⟨⟨Tryz.t65, by kernel_rfl, by kernel_rfl, by kernel_rfl, _, rfl, by kernel_rfl, by kernel_rfl⟩, ⟨_, Tryz.underlying65, rfl⟩⟩
theorem tg73 : GoodT Tryz.prog 73 ⟨.st [(0, 9), (1, 3), (2, 3), (3, 3)], 4, 40, [.string ⟨#[]⟩, .int .i64 0, .int .i64 0, .int .i64 0]⟩ := ⟨⟨Tryz.t73, by kernel_rfl, by kernel_rfl, by kernel_rfl, _, rfl, by kernel_rfl, by kernel_rfl⟩, ⟨_, Tryz.underlying73, rfl⟩⟩
theorem tg81 : GoodT Tryz.prog 81 ⟨.other, 1, 8, [.nilFunc]⟩ := ⟨⟨Tryz.t81, by kernel_rfl, by kernel_rfl, by kernel_rfl, _, rfl, by kernel_rfl, by kernel_rfl⟩, ⟨_, Tryz.underlying81, rfl⟩⟩
theorem tg87 : GoodT Tryz.prog 87 ⟨.other, 1, 8, [.nilFunc]⟩ := ⟨⟨Tryz.t87, by kernel_rfl, by kernel_rfl, by kernel_rfl, _, rfl, by kernel_rfl, by kernel_rfl⟩, ⟨_, Tryz.underlying87, rfl⟩⟩
theorem tg92 : GoodT Tryz.prog 92 ⟨.other, 1, 8, [.nilFunc]⟩ := ⟨⟨Tryz.t92, by kernel_rfl, by kernel_rfl, by kernel_rfl, _, rfl, by kernel_rfl, by kernel_rfl⟩, ⟨_, Tryz.underlying92, rfl⟩⟩
theorem tg112 : GoodT Tryz.prog 112 ⟨.other, 1, 8, [.nilFunc]⟩ := ⟨⟨Tryz.t112, by kernel_rfl, by kernel_rfl, by kernel_rfl, _, rfl, by kernel_rfl, by kernel_rfl⟩, ⟨_, Tryz.underlying112, rfl⟩⟩
theorem tg119 : GoodT Tryz.prog 119 ⟨.other, 1, 8, [.nilFunc]⟩ := ⟨⟨Tryz.t119, by kernel_rfl, by kernel_rfl, by kernel_rfl, _, rfl, by kernel_rfl, by kernel_rfl⟩, ⟨_, Tryz.underlying119, rfl⟩⟩
theorem tg159 : GoodT Tryz.prog 159 ⟨.other, 1, 16, [.nilIface]⟩ := ⟨⟨Tryz.t159, by kernel_rfl, by kernel_rfl, by kernel_rfl, _, rfl, by kernel_rfl, by kernel_rfl⟩, ⟨_, Tryz.underlying159, rfl⟩⟩
theorem tg165 : GoodT Tryz.prog 165 ⟨.other, 1, 8, [.nilFunc]⟩ := ⟨⟨Tryz.t165, by kernel_rfl, by kernel_rfl, by kernel_rfl, _, rfl, by kernel_rfl, by kernel_rfl⟩, ⟨_, Tryz.underlying165, rfl⟩⟩
theorem tg222 : GoodT Tryz.prog 222 ⟨.st [(0, 9), (1, 9), (2, 128)], 3, 48, [.string ⟨#[]⟩, .string ⟨#[]⟩, .nilIface]⟩ := ⟨⟨Tryz.t222, by kernel_rfl, by kernel_rfl, by kernel_rfl, _, rfl, by kernel_rfl, by kernel_rfl⟩, ⟨_, Tryz.underlying222, rfl⟩⟩
theorem tg223 : GoodT Tryz.prog 223 ⟨.other, 1, 8, [.nilFunc]⟩ := ⟨⟨Tryz.t223, by kernel_rfl, by kernel_rfl, by kernel_rfl, _, rfl, by kernel_rfl, by kernel_rfl⟩, ⟨_, Tryz.underlying223, rfl⟩⟩
theorem tg232 : GoodT Tryz.prog 232 ⟨.other, 1, 8, [.nilFunc]⟩ := ⟨⟨Tryz.t232, by kernel_rfl, by kernel_rfl, by kernel_rfl, _, rfl, by kernel_rfl, by kernel_rfl⟩, ⟨_, Tryz.underlying232, rfl⟩⟩
theorem tg234 : GoodT Tryz.prog 234 ⟨.other, 1, 8, [.pointer none]⟩ := ⟨⟨Tryz.t234, by kernel_rfl, by kernel_rfl, by kernel_rfl, _, rfl, by kernel_rfl, by kernel_rfl⟩, ⟨_, Tryz.underlying234, rfl⟩⟩
theorem tg265 : GoodT Tryz.prog 265 ⟨.other, 1, 8, [.nilFunc]⟩ := ⟨⟨Tryz.t265, by kernel_rfl, by kernel_rfl, by kernel_rfl, _, rfl, by kernel_rfl, by kernel_rfl⟩, ⟨_, Tryz.underlying265, rfl⟩⟩
theorem tg276 : GoodT Tryz.prog 276 ⟨.ar 32 5, 32, 32, [.int .u8 0, .int .u8 0, .int .u8 0, .int .u8 0, .int .u8 0, .int .u8 0, .int .u8 0, .int .u8 0, .int .u8 0, .int .u8 0, .int .u8 0, .int .u8 0, .int .u8 0, .int .u8 0, .int .u8 0, .int .u8 0, .int .u8 0, .int .u8 0, .int .u8 0, .int .u8 0, .int .u8 0, .int .u8 0, .int .u8 0, .int .u8 0, .int .u8 0, .int .u8 0, .int .u8 0, .int .u8 0, .int .u8 0, .int .u8 0, .int .u8 0, .int .u8 0]⟩ := ⟨⟨Tryz.t276, by kernel_rfl, by kernel_rfl, by kernel_rfl, _, rfl, by kernel_rfl, by kernel_rfl⟩, Tryz.underlying276⟩
theorem tg277 : GoodT Tryz.prog 277 ⟨.ar 64 5, 64, 64, [.int .u8 0, .int .u8 0, .int .u8 0, .int .u8 0, .int .u8 0, .int .u8 0, .int .u8 0, .int .u8 0, .int .u8 0, .int .u8 0, .int .u8 0, .int .u8 0, .int .u8 0, .int .u8 0, .int .u8 0, .int .u8 0, .int .u8 0, .int .u8 0, .int .u8 0, .int .u8 0, .int .u8 0, .int .u8 0, .int .u8 0, .int .u8 0, .int .u8 0, .int .u8 0, .int .u8 0, .int .u8 0, .int .u8 0, .int .u8 0, .int .u8 0, .int .u8 0, .int .u8 0, .int .u8 0, .int .u8 0, .int .u8 0, .int .u8 0, .int .u8 0, .int .u8 0, .int .u8 0, .int .u8 0, .int .u8 0, .int .u8 0, .int .u8 0, .int .u8 0, .int .u8 0, .int .u8 0, .int .u8 0, .int .u8 0, .int .u8 0, .int .u8 0, .int .u8 0, .int .u8 0, .int .u8 0, .int .u8 0, .int .u8 0, .int .u8 0, .int .u8 0, .int .u8 0, .int .u8 0, .int .u8 0, .int .u8 0, .int .u8 0, .int .u8 0]⟩ := ⟨⟨Tryz.t277, by kernel_rfl, by kernel_rfl, by kernel_rfl, _, rfl, by kernel_rfl, by kernel_rfl⟩, Tryz.underlying277⟩
theorem tg281 : GoodT Tryz.prog 281 ⟨.ar 16 280, 32, 32, [.int .u8 0, .int .u8 0, .int .u8 0, .int .u8 0, .int .u8 0, .int .u8 0, .int .u8 0, .int .u8 0, .int .u8 0, .int .u8 0, .int .u8 0, .int .u8 0, .int .u8 0, .int .u8 0, .int .u8 0, .int .u8 0, .int .u8 0, .int .u8 0, .int .u8 0, .int .u8 0, .int .u8 0, .int .u8 0, .int .u8 0, .int .u8 0, .int .u8 0, .int .u8 0, .int .u8 0, .int .u8 0, .int .u8 0, .int .u8 0, .int .u8 0, .int .u8 0]⟩ := ⟨⟨Tryz.t281, by kernel_rfl, by kernel_rfl, by kernel_rfl, _, rfl, by kernel_rfl, by kernel_rfl⟩, Tryz.underlying281⟩
theorem tg283 : GoodT Tryz.prog 283 ⟨.other, 1, 8, [.nilFunc]⟩ := ⟨⟨Tryz.t283, by kernel_rfl, by kernel_rfl, by kernel_rfl, _, rfl, by kernel_rfl, by kernel_rfl⟩, ⟨_, Tryz.underlying283, rfl⟩⟩
theorem tg303 : GoodT Tryz.prog 303 ⟨.other, 1, 8, [.nilFunc]⟩ := ⟨⟨Tryz.t303, by kernel_rfl, by kernel_rfl, by kernel_rfl, _, rfl, by kernel_rfl, by kernel_rfl⟩, ⟨_, Tryz.underlying303, rfl⟩⟩
theorem tg40 : GoodT Tryz.prog 40 ⟨.other, 1, 8, [.nilFunc]⟩ := ⟨⟨Tryz.t40, by kernel_rfl, by kernel_rfl, by kernel_rfl, _, rfl, by kernel_rfl, by kernel_rfl⟩, ⟨_, Tryz.underlying40, rfl⟩⟩
theorem tg49 : GoodT Tryz.prog 49 ⟨.other, 1, 8, [.nilFunc]⟩ := ⟨⟨Tryz.t49, by kernel_rfl, by kernel_rfl, by kernel_rfl, _, rfl, by kernel_rfl, by kernel_rfl⟩, ⟨_, Tryz.underlying49, rfl⟩⟩
theorem tg58 : GoodT Tryz.prog 58 ⟨.other, 1, 8, [.nilFunc]⟩ := ⟨⟨Tryz.t58, by kernel_rfl, by kernel_rfl, by kernel_rfl, _, rfl, by kernel_rfl, by kernel_rfl⟩, ⟨_, Tryz.underlying58, rfl⟩⟩
theorem tg67 : GoodT Tryz.prog 67 ⟨.other, 1, 8, [.nilFunc]⟩ := ⟨⟨Tryz.t67, by kernel_rfl, by kernel_rfl, by kernel_rfl, _, rfl, by kernel_rfl, by kernel_rfl⟩, ⟨_, Tryz.underlying67, rfl⟩⟩
theorem tg74 : GoodT Tryz.prog 74 ⟨.st [(0, 9), (1, 3), (2, 3), (3, 3)], 4, 40, [.string ⟨#[]⟩, .int .i64 0, .int .i64 0, .int .i64 0]⟩ := ⟨⟨Tryz.t74, by kernel_rfl, by kernel_rfl, by kernel_rfl, _, rfl, by kernel_rfl, by kernel_rfl⟩, ⟨_, Tryz.underlying74, rfl⟩⟩
theorem tg91 : GoodT Tryz.prog 91 ⟨.other, 1, 8, [.nilFunc]⟩ := ⟨⟨Tryz.t91, by kernel_rfl, by kernel_rfl, by kernel_rfl, _, rfl, by kernel_rfl, by kernel_rfl⟩, ⟨_, Tryz.underlying91, rfl⟩⟩
theorem tg100 : GoodT Tryz.prog 100 ⟨.other, 1, 8, [.nilFunc]⟩ := ⟨⟨Tryz.t100, by kernel_rfl, by kernel_rfl, by kernel_rfl, _, rfl, by kernel_rfl, by kernel_rfl⟩, ⟨_, Tryz.underlying100, rfl⟩⟩
theorem tg101 : GoodT Tryz.prog 101 ⟨.other, 1, 8, [.nilFunc]⟩ := ⟨⟨Tryz.t101, by kernel_rfl, by kernel_rfl, by kernel_rfl, _, rfl, by kernel_rfl, by kernel_rfl⟩, ⟨_, Tryz.underlying101, rfl⟩⟩
theorem tg104 : GoodT Tryz.prog 104 ⟨.other, 1, 8, [.nilFunc]⟩ := ⟨⟨Tryz.t104, by kernel_rfl, by kernel_rfl, by kernel_rfl, _, rfl, by kernel_rfl, by kernel_rfl⟩, ⟨_, Tryz.underlying104, rfl⟩⟩
theorem tg106 : GoodT Tryz.prog 106 ⟨.other, 1, 8, [.nilFunc]⟩ := ⟨⟨Tryz.t106, by kernel_rfl, by kernel_rfl, by kernel_rfl, _, rfl, by kernel_rfl, by kernel_rfl⟩, ⟨_, Tryz.underlying106, rfl⟩⟩
theorem tg107 : GoodT Tryz.prog 107 ⟨.other, 1, 8, [.nilFunc]⟩ := ⟨⟨Tryz.t107, by kernel_rfl, by kernel_rfl, by kernel_rfl, _, rfl, by kernel_rfl, by kernel_rfl⟩, ⟨_, Tryz.underlying107, rfl⟩⟩
theorem tg123 : GoodT Tryz.prog 123 ⟨.other, 1, 8, [.nilFunc]⟩ := ⟨⟨Tryz.t123, by kernel_rfl, by kernel_rfl, by kernel_rfl, _, rfl, by kernel_rfl, by kernel_rfl⟩, ⟨_, Tryz.underlying123, rfl⟩⟩
theorem tg142 : GoodT Tryz.prog 142 ⟨.other, 1, 8, [.nilFunc]⟩ := ⟨⟨Tryz.t142, by kernel_rfl, by kernel_rfl, by kernel_rfl, _, rfl, by kernel_rfl, by kernel_rfl⟩, ⟨_, Tryz.underlying142, rfl⟩⟩
theorem tg143 : GoodT Tryz.prog 143 ⟨.other, 1, 8, [.nilFunc]⟩ := ⟨⟨Tryz.t143, by kernel_rfl, by kernel_rfl, by kernel_rfl, _, rfl, by kernel_rfl, by kernel_rfl⟩, ⟨_, Tryz.underlying143, rfl⟩⟩
theorem tg151 : GoodT Tryz.prog 151 ⟨.st [(0, 149), (0, 88)], 1, 4, [.int .u32 0]⟩ := ⟨⟨Tryz.t151, by kernel_rfl, by kernel_rfl, by kernel_rfl, _, rfl, by kernel_rfl, by kernel_rfl⟩, ⟨_, Tryz.underlying151, rfl⟩⟩
theorem tg155 : GoodT Tryz.prog 155 ⟨.st [(0, 148), (0, 153)], 2, 8, [.int .i32 0, .int .u32 0]⟩ := ⟨⟨Tryz.t155, by kernel_rfl, by kernel_rfl, by kernel_rfl, _, rfl, by kernel_rfl, by kernel_rfl⟩, ⟨_, Tryz.underlying155, rfl⟩⟩
theorem tg162 : GoodT Tryz.prog 162 ⟨.other, 1, 8, [.nilFunc]⟩ := ⟨⟨Tryz.t162, by kernel_rfl, by kernel_rfl, by kernel_rfl, _, rfl, by kernel_rfl, by kernel_rfl⟩, ⟨_, Tryz.underlying162, rfl⟩⟩
theorem tg186 : GoodT Tryz.prog 186 ⟨.other, 1, 8, [.nilFunc]⟩ := ⟨⟨Tryz.t186, by kernel_rfl, by kernel_rfl, by kernel_rfl, _, rfl, by kernel_rfl, by kernel_rfl⟩, ⟨_, Tryz.underlying186, rfl⟩⟩
theorem tg188 : GoodT Tryz.prog 188 ⟨.other, 1, 8, [.nilFunc]⟩ := ⟨⟨Tryz.t188, by kernel_rfl, by kernel_rfl, by kernel_rfl, _, rfl, by kernel_rfl, by kernel_rfl⟩, ⟨_, Tryz.underlying188, rfl⟩⟩
theorem tg219 : GoodT Tryz.prog 219 ⟨.other, 1, 8, [.nilFunc]⟩ := ⟨⟨Tryz.t219, by kernel_rfl, by kernel_rfl, by kernel_rfl, _, rfl, by kernel_rfl, by kernel_rfl⟩, ⟨_, Tryz.underlying219, rfl⟩⟩
theorem tg224 : GoodT Tryz.prog 224 ⟨.other, 1, 8, [.nilFunc]⟩ := ⟨⟨Tryz.t224, by kernel_rfl, by kernel_rfl, by kernel_rfl, _, rfl, by kernel_rfl, by kernel_rfl⟩, ⟨_, Tryz.underlying224, rfl⟩⟩
theorem tg226 : GoodT Tryz.prog 226 ⟨.ar 20 86, 20, 160, [.int .u64 0, .int .u64 0, .int .u64 0, .int .u64 0, .int .u64 0, .int .u64 0, .int .u64 0, .int .u64 0, .int .u64 0, .int .u64 0, .int .u64 0, .int .u64 0, .int .u64 0, .int .u64 0, .int .u64 0, .int .u64 0, .int .u64 0, .int .u64 0, .int .u64 0, .int .u64 0]⟩ := ⟨⟨Tryz.t226, by kernel_rfl, by kernel_rfl, by kernel_rfl, _, rfl, by kernel_rfl, by kernel_rfl⟩, Tryz.underlying226⟩
theorem tg255 : GoodT Tryz.prog 255 ⟨.other, 1, 8, [.nilFunc]⟩ := ⟨⟨Tryz.t255, by kernel_rfl, by kernel_rfl, by kernel_rfl, _, rfl, by kernel_rfl, by kernel_rfl⟩, ⟨_, Tryz.underlying255, rfl⟩⟩
theorem tg282 : GoodT Tryz.prog 282 ⟨.other, 1, 8, [.nilFunc]⟩ := ⟨⟨Tryz.t282, by kernel_rfl, by kernel_rfl, by kernel_rfl, _, rfl, by kernel_rfl, by kernel_rfl⟩, ⟨_, Tryz.underlying282, rfl⟩⟩
theorem tg290 : GoodT Tryz.prog 290 ⟨.int .u8, 1, 1, [.int .u8 0]⟩ := ⟨⟨Tryz.t290, by kernel_rfl, by kernel_rfl, by kernel_rfl, _, rfl, by kernel_rfl, by kernel_rfl⟩, Tryz.underlying290⟩
theorem tg305 : GoodT Tryz.prog 305 ⟨.other, 1, 8, [.nilFunc]⟩ := ⟨⟨Tryz.t305, by kernel_rfl, by kernel_rfl, by kernel_rfl, _, rfl, by kernel_rfl, by kernel_rfl⟩, ⟨_, Tryz.underlying305, rfl⟩⟩
theorem tg308 : GoodT Tryz.prog 308 ⟨.st [(0, 300)], 1, 16, [.nilIface]⟩ := ⟨⟨Tryz.t308, by kernel_rfl, by kernel_rfl, by kernel_rfl, _, rfl, by kernel_rfl, by kernel_rfl⟩, ⟨_, Tryz.underlying308, rfl⟩⟩
theorem tg309 : GoodT Tryz.prog 309 ⟨.other, 1, 8, [.nilFunc]⟩ := ⟨⟨Tryz.t309, by kernel_rfl, by kernel_rfl, by kernel_rfl, _, rfl, by kernel_rfl, by kernel_rfl⟩, ⟨_, Tryz.underlying309, rfl⟩⟩
theorem tg20 : GoodT Tryz.prog 20 ⟨.other, 1, 16, [.nilIface]⟩ := ⟨⟨Tryz.t20, by kernel_rfl, by kernel_rfl, by kernel_rfl, _, rfl, by kernel_rfl, by kernel_rfl⟩, ⟨_, Tryz.underlying20, rfl⟩⟩
theorem tg50 : GoodT Tryz.prog 50 ⟨.other, 1, 8, [.nilFunc]⟩ := ⟨⟨Tryz.t50, by kernel_rfl, by kernel_rfl, by kernel_rfl, _, rfl, by kernel_rfl, by kernel_rfl⟩, ⟨_, Tryz.underlying50, rfl⟩⟩
theorem tg66 : GoodT Tryz.prog 66 ⟨.other, 1, 8, [.nilFunc]⟩ := ⟨⟨Tryz.t66, by kernel_rfl, by kernel_rfl, by kernel_rfl, _, rfl, by kernel_rfl, by kernel_rfl⟩, ⟨_, Tryz.underlying66, rfl⟩⟩
theorem tg70 : GoodT Tryz.prog 70 ⟨.other, 1, 8, [.nilFunc]⟩ := ⟨⟨Tryz.t70, by kernel_rfl, by kernel_rfl, by kernel_rfl, _, rfl, by kernel_rfl, by kernel_rfl⟩, ⟨_, Tryz.underlying70, rfl⟩⟩
theorem tg71 : GoodT Tryz.prog 71 ⟨.other, 1, 8, [.nilFunc]⟩ := ⟨⟨Tryz.t71, by kernel_rfl, by kernel_rfl, by kernel_rfl, _, rfl, by kernel_rfl, by kernel_rfl⟩, ⟨_, Tryz.underlying71, rfl⟩⟩
theorem tg94 : GoodT Tryz.prog 94 ⟨.other, 1, 8, [.nilFunc]⟩ := ⟨⟨Tryz.t94, by kernel_rfl, by kernel_rfl, by kernel_rfl, _, rfl, by kernel_rfl, by kernel_rfl⟩, ⟨_, Tryz.underlying94, rfl⟩⟩
theorem tg118 : GoodT Tryz.prog 118 ⟨.other, 1, 8, [.nilFunc]⟩ := ⟨⟨Tryz.t118, by kernel_rfl, by kernel_rfl, by kernel_rfl, _, rfl, by kernel_rfl, by kernel_rfl⟩, ⟨_, Tryz.underlying118, rfl⟩⟩
theorem tg126 : GoodT Tryz.prog 126 ⟨.other, 1, 8, [.nilFunc]⟩ := ⟨⟨Tryz.t126, by kernel_rfl, by kernel_rfl, by kernel_rfl, _, rfl, by kernel_rfl, by kernel_rfl⟩, ⟨_, Tryz.underlying126, rfl⟩⟩
theorem tg130 : GoodT Tryz.prog 130 ⟨.other, 1, 8, [.nilFunc]⟩ := ⟨⟨Tryz.t130, by kernel_rfl, by kernel_rfl, by kernel_rfl, _, rfl, by kernel_rfl, by kernel_rfl⟩, ⟨_, Tryz.underlying130, rfl⟩⟩
theorem tg145 : GoodT Tryz.prog 145 ⟨.other, 1, 8, [.nilFunc]⟩ := ⟨⟨Tryz.t145, by kernel_rfl, by kernel_rfl, by kernel_rfl, _, rfl, by kernel_rfl, by kernel_rfl⟩, ⟨_, Tryz.underlying145, rfl⟩⟩
theorem tg152 : GoodT Tryz.prog 152 ⟨.st [(0, 21), (1, 88)], 2, 8, [.int .i32 0, .int .u32 0]⟩ := ⟨⟨Tryz.t152, by kernel_rfl, by kernel_rfl, by kernel_rfl, _, rfl, by kernel_rfl, by kernel_rfl⟩, ⟨_, Tryz.underlying152, rfl⟩⟩
theorem tg153 : GoodT Tryz.prog 153 ⟨.st [(0, 21), (1, 88)], 2, 8, [.int .i32 0, .int .u32 0]⟩ := ⟨⟨Tryz.t153, by kernel_rfl, by kernel_rfl, by kernel_rfl, _, rfl, by kernel_rfl, by kernel_rfl⟩, ⟨_, Tryz.underlying153, rfl⟩⟩
theorem tg154 : GoodT Tryz.prog 154 ⟨.st [(0, 148), (0, 153)], 2, 8, [.int .i32 0, .int .u32 0]⟩ := ⟨⟨Tryz.t154, by kernel_rfl, by kernel_rfl, by kernel_rfl, _, rfl, by kernel_rfl, by kernel_rfl⟩, ⟨_, Tryz.underlying154, rfl⟩⟩
theorem tg157 : GoodT Tryz.prog 157 ⟨.st [(0, 148), (0, 151), (1, 155)], 3, 12, [.int .u32 0, .int .i32 0, .int .u32 0]⟩ := ⟨⟨Tryz.t157, by kernel_rfl, by kernel_rfl, by kernel_rfl, _, rfl, by kernel_rfl, by kernel_rfl⟩, ⟨_, Tryz.underlying157, rfl⟩⟩
theorem tg161 : GoodT Tryz.prog 161 ⟨.st [(0, 157), (3, 159), (4, 25)], 5, 56, [.int .u32 0, .int .i32 0, .int .u32 0, .nilIface, .slice none 0 0]⟩ := ⟨⟨Tryz.t161, by kernel_rfl, by kernel_rfl, by kernel_rfl, _, rfl, by kernel_rfl, by kernel_rfl⟩, ⟨_, Tryz.underlying161, rfl⟩⟩
theorem tg169 : GoodT Tryz.prog 169 ⟨.other, 1, 8, [.nilFunc]⟩ := ⟨⟨Tryz.t169, by kernel_rfl, by kernel_rfl, by kernel_rfl, _, rfl, by kernel_rfl, by kernel_rfl⟩, ⟨_, Tryz.underlying169, rfl⟩⟩
theorem tg172 : GoodT Tryz.prog 172 ⟨.other, 1, 8, [.pointer none]⟩ := ⟨⟨Tryz.t172, by kernel_rfl, by kernel_rfl, by kernel_rfl, _, rfl, by kernel_rfl, by kernel_rfl⟩, ⟨_, Tryz.underlying172, rfl⟩⟩
theorem tg174 : GoodT Tryz.prog 174 ⟨.other, 1, 8, [.nilFunc]⟩ := ⟨⟨Tryz.t174, by kernel_rfl, by kernel_rfl, by kernel_rfl, _, rfl, by kernel_rfl, by kernel_rfl⟩, ⟨_, Tryz.underlying174, rfl⟩⟩
theorem tg179 : GoodT Tryz.prog 179 ⟨.other, 1, 8, [.nilFunc]⟩ := ⟨⟨Tryz.t179, by kernel_rfl, by kernel_rfl, by kernel_rfl, _, rfl, by kernel_rfl, by kernel_rfl⟩, ⟨_, Tryz.underlying179, rfl⟩⟩
theorem tg181 : GoodT Tryz.prog 181 ⟨.other, 1, 8, [.nilFunc]⟩ := ⟨⟨Tryz.t181, by kernel_rfl, by kernel_rfl, by kernel_rfl, _, rfl, by kernel_rfl, by kernel_rfl⟩, ⟨_, Tryz.underlying181, rfl⟩⟩
theorem tg185 : GoodT Tryz.prog 185 ⟨.other, 1, 8, [.nilFunc]⟩ := ⟨⟨Tryz.t185, by kernel_rfl, by kernel_rfl, by kernel_rfl, _, rfl, by kernel_rfl, by kernel_rfl⟩, ⟨_, Tryz.underlying185, rfl⟩⟩
theorem tg193 : GoodT Tryz.prog 193 ⟨.other, 1, 8, [.nilFunc]⟩ := ⟨⟨Tryz.t193, by kernel_rfl, by kernel_rfl, by kernel_rfl, _, rfl, by kernel_rfl, by kernel_rfl⟩, ⟨_, Tryz.underlying193, rfl⟩⟩
theorem tg195 : GoodT Tryz.prog 195 ⟨.other, 1, 8, [.nilFunc]⟩ := ⟨⟨Tryz.t195, by kernel_rfl, by kernel_rfl, by kernel_rfl, _, rfl, by kernel_rfl, by kernel_rfl⟩, ⟨_, Tryz.underlying195, rfl⟩⟩
theorem tg200 : GoodT Tryz.prog 200 ⟨.other, 1, 8, [.nilFunc]⟩ := ⟨⟨Tryz.t200, by kernel_rfl, by kernel_rfl, by kernel_rfl, _, rfl, by kernel_rfl, by kernel_rfl⟩, ⟨_, Tryz.underlying200, rfl⟩⟩
theorem tg228 : GoodT Tryz.prog 228 ⟨.other, 1, 8, [.nilFunc]⟩ := ⟨⟨Tryz.t228, by kernel_rfl, by kernel_rfl, by kernel_rfl, _, rfl, by kernel_rfl, by kernel_rfl⟩, ⟨_, Tryz.underlying228, rfl⟩⟩
theorem tg229 : GoodT Tryz.prog 229 ⟨.other, 1, 8, [.nilFunc]⟩ := ⟨⟨Tryz.t229, by kernel_rfl, by kernel_rfl, by kernel_rfl, _, rfl, by kernel_rfl, by kernel_rfl⟩, ⟨_, Tryz.underlying229, rfl⟩⟩
theorem tg233 : GoodT Tryz.prog 233 ⟨.other, 1, 8, [.nilFunc]⟩ := ⟨⟨Tryz.t233, by kernel_rfl, by kernel_rfl, by kernel_rfl, _, rfl, by kernel_rfl, by kernel_rfl⟩, ⟨_, Tryz.underlying233, rfl⟩⟩
theorem tg238 : GoodT Tryz.prog 238 ⟨.other, 1, 8, [.nilFunc]⟩ := ⟨⟨Tryz.t238, by kernel_rfl, by kernel_rfl, by kernel_rfl, _, rfl, by kernel_rfl, by kernel_rfl⟩, ⟨_, Tryz.underlying238, rfl⟩⟩
theorem tg240 : GoodT Tryz.prog 240 ⟨.st [(0, 237), (1, 9)], 2, 24, [.pointer none, .string ⟨#[]⟩]⟩ := ⟨⟨Tryz.t240, by kernel_rfl, by kernel_rfl, by kernel_rfl, _, rfl, by kernel_rfl, by kernel_rfl⟩, ⟨_, Tryz.underlying240, rfl⟩⟩
theorem tg258 : GoodT Tryz.prog 258 ⟨.other, 1, 8, [.nilFunc]⟩ := ⟨⟨Tryz.t258, by kernel_rfl, by kernel_rfl, by kernel_rfl, _, rfl, by kernel_rfl, by kernel_rfl⟩, ⟨_, Tryz.underlying258, rfl⟩⟩
theorem tg259 : GoodT Tryz.prog 259 ⟨.other, 1, 8, [.pointer none]⟩ := ⟨⟨Tryz.t259, by kernel_rfl, by kernel_rfl, by kernel_rfl, _, rfl, by kernel_rfl, by kernel_rfl⟩, ⟨_, Tryz.underlying259, rfl⟩⟩
theorem tg268 : GoodT Tryz.prog 268 ⟨.other, 1, 8, [.nilFunc]⟩ := ⟨⟨Tryz.t268, by kernel_rfl, by kernel_rfl, by kernel_rfl, _, rfl, by kernel_rfl, by kernel_rfl⟩, ⟨_, Tryz.underlying268, rfl⟩⟩
theorem tg269 : GoodT Tryz.prog 269 ⟨.other, 1, 8, [.nilFunc]⟩ := ⟨⟨Tryz.t269, by kernel_rfl, by kernel_rfl, by kernel_rfl, _, rfl, by kernel_rfl, by kernel_rfl⟩, ⟨_, Tryz.underlying269, rfl⟩⟩
theorem tg278 : GoodT Tryz.prog 278 ⟨.other, 1, 8, [.nilFunc]⟩ := ⟨⟨Tryz.t278, by kernel_rfl, by kernel_rfl, by kernel_rfl, _, rfl, by kernel_rfl, by kernel_rfl⟩, ⟨_, Tryz.underlying278, rfl⟩⟩
theorem tg286 : GoodT Tryz.prog 286 ⟨.ar 0 16, 0, 0, []⟩ := ⟨⟨Tryz.t286, by kernel_rfl, by kernel_rfl, by kernel_rfl, _, rfl, by kernel_rfl, by kernel_rfl⟩, Tryz.underlying286⟩
theorem tg292 : GoodT Tryz.prog 292 ⟨.int .i32, 1, 4, [.int .i32 0]⟩ := ⟨⟨Tryz.t292, by kernel_rfl, by kernel_rfl, by kernel_rfl, _, rfl, by kernel_rfl, by kernel_rfl⟩, Tryz.underlying292⟩
theorem tg296 : GoodT Tryz.prog 296 ⟨.other, 1, 8, [.nilFunc]⟩ := ⟨⟨Tryz.t296, by kernel_rfl, by kernel_rfl, by kernel_rfl, _, rfl, by kernel_rfl, by kernel_rfl⟩, ⟨_, Tryz.underlying296, rfl⟩⟩
theorem tg51 : GoodT Tryz.prog 51 ⟨.other, 1, 8, [.nilFunc]⟩ := ⟨⟨Tryz.t51, by kernel_rfl, by kernel_rfl, by kernel_rfl, _, rfl, by kernel_rfl, by kernel_rfl⟩, ⟨_, Tryz.underlying51, rfl⟩⟩
theorem tg53 : GoodT Tryz.prog 53 ⟨.st [(0, 4), (1, 52)], 2, 32, [.bool false, .slice none 0 0]⟩ := ⟨⟨Tryz.t53, by kernel_rfl, by kernel_rfl, by kernel_rfl, _, rfl, by kernel_rfl, by kernel_rfl⟩, ⟨_, Tryz.underlying53, rfl⟩⟩
theorem tg63 : GoodT Tryz.prog 63 ⟨.other, 1, 8, [.nilFunc]⟩ := ⟨⟨Tryz.t63, by kernel_rfl, by kernel_rfl, by kernel_rfl, _, rfl, by kernel_rfl, by kernel_rfl⟩, ⟨_, Tryz.underlying63, rfl⟩⟩
theorem tg68 : GoodT Tryz.prog 68 ⟨.other, 1, 8, [.nilFunc]⟩ := ⟨⟨Tryz.t68, by kernel_rfl, by kernel_rfl, by kernel_rfl, _, rfl, by kernel_rfl, by kernel_rfl⟩, ⟨_, Tryz.underlying68, rfl⟩⟩
theorem tg69 : GoodT Tryz.prog 69 ⟨.other, 1, 8, [.nilFunc]⟩ := ⟨⟨Tryz.t69, by kernel_rfl, by kernel_rfl, by kernel_rfl, _, rfl, by kernel_rfl, by kernel_rfl⟩, ⟨_, Tryz.underlying69, rfl⟩⟩
theorem tg76 : GoodT Tryz.prog 76 ⟨.other, 1, 8, [.nilFunc]⟩ := ⟨⟨Tryz.t76, by kernel_rfl, by kernel_rfl, by kernel_rfl, _, rfl, by kernel_rfl, by kernel_rfl⟩, ⟨_, Tryz.underlying76, rfl⟩⟩
theorem tg93 : GoodT Tryz.prog 93 ⟨.other, 1, 8, [.nilFunc]⟩ := ⟨⟨Tryz.t93, by kernel_rfl, by kernel_rfl, by kernel_rfl, _, rfl, by kernel_rfl, by kernel_rfl⟩, ⟨_, Tryz.underlying93, rfl⟩⟩
theorem tg96 : GoodT Tryz.prog 96 ⟨.other, 1, 8, [.nilFunc]⟩ := ⟨⟨Tryz.t96, by kernel_rfl, by kernel_rfl, by kernel_rfl, _, rfl, by kernel_rfl, by kernel_rfl⟩, ⟨_, Tryz.underlying96, rfl⟩⟩
theorem tg109 : GoodT Tryz.prog 109 ⟨.st [(0, 3), (1, 30), (2, 108)], 3, 24, [.int .i64 0, .nilFunc, .nilFunc]⟩ := ⟨⟨Tryz.t109, by kernel_rfl, by kernel_rfl, by kernel_rfl, _, rfl, by kernel_rfl, by kernel_rfl⟩, ⟨_, Tryz.underlying109, rfl⟩⟩
theorem tg114 : GoodT Tryz.prog 114 ⟨.st [(0, 9), (1, 3), (2, 3), (3, 3)], 4, 40, [.string ⟨#[]⟩, .int .i64 0, .int .i64 0, .int .i64 0]⟩ := ⟨⟨Tryz.t114, by kernel_rfl, by kernel_rfl, by kernel_rfl, _, rfl, by kernel_rfl, by kernel_rfl⟩, ⟨_, Tryz.underlying114, rfl⟩⟩
theorem tg115 : GoodT Tryz.prog 115 ⟨.st [(0, 9), (1, 3), (2, 3), (3, 3)], 4, 40, [.string ⟨#[]⟩, .int .i64 0, .int .i64 0, .int .i64 0]⟩ := ⟨⟨Tryz.t115, by kernel_rfl, by kernel_rfl, by kernel_rfl, _, rfl, by kernel_rfl, by kernel_rfl⟩, ⟨_, Tryz.underlying115, rfl⟩⟩
theorem tg124 : GoodT Tryz.prog 124 ⟨.other, 1, 8, [.nilFunc]⟩ := ⟨⟨Tryz.t124, by kernel_rfl, by kernel_rfl, by kernel_rfl, _, rfl, by kernel_rfl, by kernel_rfl⟩, ⟨_, Tryz.underlying124, rfl⟩⟩
theorem tg131 : GoodT Tryz.prog 131 ⟨.other, 1, 8, [.nilFunc]⟩ := ⟨⟨Tryz.t131, by kernel_rfl, by kernel_rfl, by kernel_rfl, _, rfl, by kernel_rfl, by kernel_rfl⟩, ⟨_, Tryz.underlying131, rfl⟩⟩
theorem tg134 : GoodT Tryz.prog 134 ⟨.other, 1, 8, [.nilFunc]⟩ := ⟨⟨Tryz.t134, by kernel_rfl, by kernel_rfl, by kernel_rfl, _, rfl, by kernel_rfl, by kernel_rfl⟩, ⟨_, Tryz.underlying134, rfl⟩⟩
theorem tg136 : GoodT Tryz.prog 136 ⟨.st [(0, 135), (1, 23)], 2, 32, [.pointer none, .slice none 0 0]⟩ := ⟨⟨Tryz.t136, by kernel_rfl, by kernel_rfl, by kernel_rfl, _, rfl, by kernel_rfl, by kernel_rfl⟩, ⟨_, Tryz.underlying136, rfl⟩⟩
theorem tg144 : GoodT Tryz.prog 144 ⟨.other, 1, 8, [.nilFunc]⟩ := ⟨⟨Tryz.t144, by kernel_rfl, by kernel_rfl, by kernel_rfl, _, rfl, by kernel_rfl, by kernel_rfl⟩, ⟨_, Tryz.underlying144, rfl⟩⟩
theorem tg146 : GoodT Tryz.prog 146 ⟨.other, 1, 8, [.nilFunc]⟩ := ⟨⟨Tryz.t146, by kernel_rfl, by kernel_rfl, by kernel_rfl, _, rfl, by kernel_rfl, by kernel_rfl⟩, ⟨_, Tryz.underlying146, rfl⟩⟩
theorem tg148 : GoodT Tryz.prog 148 ⟨.st [], 0, 0, []⟩ := ⟨⟨Tryz.t148, by kernel_rfl, by kernel_rfl, by kernel_rfl, _, rfl, by kernel_rfl, by kernel_rfl⟩, ⟨_, Tryz.underlying148, rfl⟩⟩
theorem tg158 : GoodT Tryz.prog 158 ⟨.other, 1, 16, [.nilIface]⟩ := ⟨⟨Tryz.t158, by kernel_rfl, by kernel_rfl, by kernel_rfl, _, rfl, by kernel_rfl, by kernel_rfl⟩, ⟨_, Tryz.underlying158, rfl⟩⟩
theorem tg163 : GoodT Tryz.prog 163 ⟨.other, 1, 8, [.nilFunc]⟩ := ⟨⟨Tryz.t163, by kernel_rfl, by kernel_rfl, by kernel_rfl, _, rfl, by kernel_rfl, by kernel_rfl⟩, ⟨_, Tryz.underlying163, rfl⟩⟩
theorem tg164 : GoodT Tryz.prog 164 ⟨.other, 1, 8, [.nilFunc]⟩ := ⟨⟨Tryz.t164, by kernel_rfl, by kernel_rfl, by kernel_rfl, _, rfl, by kernel_rfl, by kernel_rfl⟩, ⟨_, Tryz.underlying164, rfl⟩⟩
theorem tg166 : GoodT Tryz.prog 166 ⟨.other, 1, 8, [.nilFunc]⟩ := ⟨⟨Tryz.t166, by kernel_rfl, by kernel_rfl, by kernel_rfl, _, rfl, by kernel_rfl, by kernel_rfl⟩, ⟨_, Tryz.underlying166, rfl⟩⟩
theorem tg167 : GoodT Tryz.prog 167 ⟨.other, 1, 8, [.nilFunc]⟩ := ⟨⟨Tryz.t167, by kernel_rfl, by kernel_rfl, by kernel_rfl, _, rfl, by kernel_rfl, by kernel_rfl⟩, ⟨_, Tryz.underlying167, rfl⟩⟩
theorem tg171 : GoodT Tryz.prog 171 ⟨.other, 1, 8, [.nilFunc]⟩ := ⟨⟨Tryz.t171, by kernel_rfl, by kernel_rfl, by kernel_rfl, _, rfl, by kernel_rfl, by kernel_rfl⟩, ⟨_, Tryz.underlying171, rfl⟩⟩
theorem tg177 : GoodT Tryz.prog 177 ⟨.other, 1, 8, [.nilFunc]⟩ := ⟨⟨Tryz.t177, by kernel_rfl, by kernel_rfl, by kernel_rfl, _, rfl, by kernel_rfl, by kernel_rfl⟩, ⟨_, Tryz.underlying177, rfl⟩⟩
theorem tg189 : GoodT Tryz.prog 189 ⟨.other, 1, 8, [.nilFunc]⟩ := ⟨⟨Tryz.t189, by kernel_rfl, by kernel_rfl, by kernel_rfl, _, rfl, by kernel_rfl, by kernel_rfl⟩, ⟨_, Tryz.underlying189, rfl⟩⟩
theorem tg191 : GoodT Tryz.prog 191 ⟨.other, 1, 8, [.nilFunc]⟩ := ⟨⟨Tryz.t191, by kernel_rfl, by kernel_rfl, by kernel_rfl, _, rfl, by kernel_rfl, by kernel_rfl⟩, ⟨_, Tryz.underlying191, rfl⟩⟩
theorem tg194 : GoodT Tryz.prog 194 ⟨.other, 1, 8, [.nilFunc]⟩ := ⟨⟨Tryz.t194, by kernel_rfl, by kernel_rfl, by kernel_rfl, _, rfl, by kernel_rfl, by kernel_rfl⟩, ⟨_, Tryz.underlying194, rfl⟩⟩
theorem tg199 : GoodT Tryz.prog 199 ⟨.other, 1, 8, [.nilFunc]⟩ := ⟨⟨Tryz.t199, by kernel_rfl, by kernel_rfl, by kernel_rfl, _, rfl, by kernel_rfl, by kernel_rfl⟩, ⟨_, Tryz.underlying199, rfl⟩⟩
theorem tg203 : GoodT Tryz.prog 203 ⟨.other, 1, 8, [.nilFunc]⟩ := ⟨⟨Tryz.t203, by kernel_rfl, by kernel_rfl, by kernel_rfl, _, rfl, by kernel_rfl, by kernel_rfl⟩, ⟨_, Tryz.underlying203, rfl⟩⟩
theorem tg205 : GoodT Tryz.prog 205 ⟨.other, 1, 8, [.nilFunc]⟩ := ⟨⟨Tryz.t205, by kernel_rfl, by kernel_rfl, by kernel_rfl, _, rfl, by kernel_rfl, by kernel_rfl⟩, ⟨_, Tryz.underlying205, rfl⟩⟩
theorem tg207 : GoodT Tryz.prog 207 ⟨.other, 1, 8, [.nilFunc]⟩ := ⟨⟨Tryz.t207, by kernel_rfl, by kernel_rfl, by kernel_rfl, _, rfl, by kernel_rfl, by kernel_rfl⟩, ⟨_, Tryz.underlying207, rfl⟩⟩
theorem tg209 : GoodT Tryz.prog 209 ⟨.other, 1, 8, [.nilFunc]⟩ := ⟨⟨Tryz.t209, by kernel_rfl, by kernel_rfl, by kernel_rfl, _, rfl, by kernel_rfl, by kernel_rfl⟩, ⟨_, Tryz.underlying209, rfl⟩⟩
theorem tg225 : GoodT Tryz.prog 225 ⟨.other, 1, 8, [.nilFunc]⟩ := ⟨⟨Tryz.t225, by kernel_rfl, by kernel_rfl, by kernel_rfl, _, rfl, by kernel_rfl, by kernel_rfl⟩, ⟨_, Tryz.underlying225, rfl⟩⟩
theorem tg235 : GoodT Tryz.prog 235 ⟨.other, 1, 8, [.nilFunc]⟩ := ⟨⟨Tryz.t235, by kernel_rfl, by kernel_rfl, by kernel_rfl, _, rfl, by kernel_rfl, by kernel_rfl⟩, ⟨_, Tryz.underlying235, rfl⟩⟩
theorem tg236 : GoodT Tryz.prog 236 ⟨.other, 1, 8, [.nilFunc]⟩ := ⟨⟨Tryz.t236, by kernel_rfl, by kernel_rfl, by kernel_rfl, _, rfl, by kernel_rfl, by kernel_rfl⟩, ⟨_, Tryz.underlying236, rfl⟩⟩
theorem tg243 : GoodT Tryz.prog 243 ⟨.st [(0, 9), (1, 3), (2, 9), (3, 241), (4, 242)], 5, 72, [.string ⟨#[]⟩, .int .i64 0, .string ⟨#[]⟩, .pointer none, .slice none 0 0]⟩ := ⟨⟨Tryz.t243, by kernel_rfl, by kernel_rfl, by kernel_rfl, _, rfl, by kernel_rfl, by kernel_rfl⟩, ⟨_, Tryz.underlying243, rfl⟩⟩
theorem tg251 : GoodT Tryz.prog 251 ⟨.st [(0, 248), (1, 249), (2, 3)], 3, 56, [.slice none 0 0, .slice none 0 0, .int .i64 0]⟩ := ⟨⟨Tryz.t251, by kernel_rfl, by kernel_rfl, by kernel_rfl, _, rfl, by kernel_rfl, by kernel_rfl⟩, ⟨_, Tryz.underlying251, rfl⟩⟩
theorem tg261 : GoodT Tryz.prog 261 ⟨.st [(0, 9)], 1, 16, [.string ⟨#[]⟩]⟩ := ⟨⟨Tryz.t261, by kernel_rfl, by kernel_rfl, by kernel_rfl, _, rfl, by kernel_rfl, by kernel_rfl⟩, ⟨_, Tryz.underlying261, rfl⟩⟩
theorem tg263 : GoodT Tryz.prog 263 ⟨.other, 1, 8, [.nilFunc]⟩ := ⟨⟨Tryz.t263, by kernel_rfl, by kernel_rfl, by kernel_rfl, _, rfl, by kernel_rfl, by kernel_rfl⟩, ⟨_, Tryz.underlying263, rfl⟩⟩
theorem tg279 : GoodT Tryz.prog 279 ⟨.st [(0, 5), (1, 5)], 2, 2, [.int .u8 0, .int .u8 0]⟩ := ⟨⟨Tryz.t279, by kernel_rfl, by kernel_rfl, by kernel_rfl, _, rfl, by kernel_rfl, by kernel_rfl⟩, ⟨_, Tryz.underlying279, rfl⟩⟩
theorem tg285 : GoodT Tryz.prog 285 ⟨.st [(0, 17), (1, 17), (2, 17), (3, 9)], 4, 40, [.pointer none, .pointer none, .pointer none, .string ⟨#[]⟩]⟩ := ⟨⟨Tryz.t285, by kernel_rfl, by kernel_rfl, by kernel_rfl, _, rfl, by kernel_rfl, by kernel_rfl⟩, ⟨_, Tryz.underlying285, rfl⟩⟩
theorem tg288 : GoodT Tryz.prog 288 ⟨.st [(0, 286)], 0, 0, []⟩ := ⟨⟨Tryz.t288, by kernel_rfl, by kernel_rfl, by kernel_rfl, _, rfl, by kernel_rfl, by kernel_rfl⟩, ⟨_, Tryz.underlying288, rfl⟩⟩
theorem tg289 : GoodT Tryz.prog 289 ⟨.int .u8, 1, 1, [.int .u8 0]⟩ := ⟨⟨Tryz.t289, by kernel_rfl, by kernel_rfl, by kernel_rfl, _, rfl, by kernel_rfl, by kernel_rfl⟩, Tryz.underlying289⟩
theorem tg291 : GoodT Tryz.prog 291 ⟨.other, 1, 8, [.nilFunc]⟩ := ⟨⟨Tryz.t291, by kernel_rfl, by kernel_rfl, by kernel_rfl, _, rfl, by kernel_rfl, by kernel_rfl⟩, ⟨_, Tryz.underlying291, rfl⟩⟩
theorem tg293 : GoodT Tryz.prog 293 ⟨.int .i32, 1, 4, [.int .i32 0]⟩ := ⟨⟨Tryz.t293, by kernel_rfl, by kernel_rfl, by kernel_rfl, _, rfl, by kernel_rfl, by kernel_rfl⟩, Tryz.underlying293⟩
theorem tg295 : GoodT Tryz.prog 295 ⟨.st [(0, 12), (1, 12), (2, 88), (3, 289), (4, 5), (5, 5), (6, 290), (7, 291), (8, 172), (9, 292), (10, 293)], 11, 48, [.int .u64 0, .int .u64 0, .int .u32 0, .int .u8 0, .int .u8 0, .int .u8 0, .int .u8 0, .nilFunc, .pointer none, .int .i32 0, .int .i32 0]⟩ := ⟨⟨Tryz.t295, by kernel_rfl, by kernel_rfl, by kernel_rfl, _, rfl, by kernel_rfl, by kernel_rfl⟩, ⟨_, Tryz.underlying295, rfl⟩⟩
theorem tg299 : GoodT Tryz.prog 299 ⟨.other, 1, 16, [.nilIface]⟩ := ⟨⟨Tryz.t299, by kernel_rfl, by kernel_rfl, by kernel_rfl, _, rfl, by kernel_rfl, by kernel_rfl⟩, ⟨_, Tryz.underlying299, rfl⟩⟩
theorem tg31 : GoodT Tryz.prog 31 ⟨.st [(0, 3), (1, 9), (2, 3), (3, 3)], 4, 40, [.int .i64 0, .string ⟨#[]⟩, .int .i64 0, .int .i64 0]⟩ := ⟨⟨Tryz.t31, by kernel_rfl, by kernel_rfl, by kernel_rfl, _, rfl, by kernel_rfl, by kernel_rfl⟩, ⟨_, Tryz.underlying31, rfl⟩⟩
theorem tg41 : GoodT Tryz.prog 41 ⟨.st [(0, 5), (1, 9), (2, 3), (3, 3), (4, 5)], 5, 48, [.int .u8 0, .string ⟨#[]⟩, .int .i64 0, .int .i64 0, .int .u8 0]⟩ := ⟨⟨Tryz.t41, by kernel_rfl, by kernel_rfl, by kernel_rfl, _, rfl, by kernel_rfl, by kernel_rfl⟩, ⟨_, Tryz.underlying41, rfl⟩⟩
theorem tg46 : GoodT Tryz.prog 46 ⟨.st [(0, 32), (4, 9), (5, 3), (6, 4)], 7, 72, [.int .i64 0, .string ⟨#[]⟩, .int .i64 0, .int .i64 0, .string ⟨#[]⟩, .int .i64 0, .bool false]⟩ := ⟨⟨Tryz.t46, by kernel_rfl, by kernel_rfl, by kernel_rfl, _, rfl, by kernel_rfl, by kernel_rfl⟩, ⟨_, Tryz.underlying46, rfl⟩⟩
theorem tg77 : GoodT Tryz.prog 77 ⟨.st [(0, 26), (1, 3), (2, 3), (3, 27)], 4, 48, [.slice none 0 0, .int .i64 0, .int .i64 0, .int .i64 0]⟩ := ⟨⟨Tryz.t77, by kernel_rfl, by kernel_rfl, by kernel_rfl, _, rfl, by kernel_rfl, by kernel_rfl⟩, ⟨_, Tryz.underlying77, rfl⟩⟩
theorem tg79 : GoodT Tryz.prog 79 ⟨.st [(0, 26), (1, 3), (2, 3), (3, 27)], 4, 48, [.slice none 0 0, .int .i64 0, .int .i64 0, .int .i64 0]⟩ := ⟨⟨Tryz.t79, by kernel_rfl, by kernel_rfl, by kernel_rfl, _, rfl, by kernel_rfl, by kernel_rfl⟩, ⟨_, Tryz.underlying79, rfl⟩⟩
theorem tg97 : GoodT Tryz.prog 97 ⟨.st [(0, 54), (2, 54)], 4, 64, [.bool false, .slice none 0 0, .bool false, .slice none 0 0]⟩ := ⟨⟨Tryz.t97, by kernel_rfl, by kernel_rfl, by kernel_rfl, _, rfl, by kernel_rfl, by kernel_rfl⟩, ⟨_, Tryz.underlying97, rfl⟩⟩
theorem tg127 : GoodT Tryz.prog 127 ⟨.other, 1, 16, [.nilIface]⟩ := ⟨⟨Tryz.t127, by kernel_rfl, by kernel_rfl, by kernel_rfl, _, rfl, by kernel_rfl, by kernel_rfl⟩, ⟨_, Tryz.underlying127, rfl⟩⟩
theorem tg147 : GoodT Tryz.prog 147 ⟨.st [], 0, 0, []⟩ := ⟨⟨Tryz.t147, by kernel_rfl, by kernel_rfl, by kernel_rfl, _, rfl, by kernel_rfl, by kernel_rfl⟩, ⟨_, Tryz.underlying147, rfl⟩⟩
theorem tg149 : GoodT Tryz.prog 149 ⟨.st [], 0, 0, []⟩ := ⟨⟨Tryz.t149, by kernel_rfl, by kernel_rfl, by kernel_rfl, _, rfl, by kernel_rfl, by kernel_rfl⟩, ⟨_, Tryz.underlying149, rfl⟩⟩
theorem tg150 : GoodT Tryz.prog 150 ⟨.st [(0, 149), (0, 88)], 1, 4, [.int .u32 0]⟩ := ⟨⟨Tryz.t150, by kernel_rfl, by kernel_rfl, by kernel_rfl, _, rfl, by kernel_rfl, by kernel_rfl⟩, ⟨_, Tryz.underlying150, rfl⟩⟩
theorem tg156 : GoodT Tryz.prog 156 ⟨.st [(0, 148), (0, 151), (1, 155)], 3, 12, [.int .u32 0, .int .i32 0, .int .u32 0]⟩ := ⟨⟨Tryz.t156, by kernel_rfl, by kernel_rfl, by kernel_rfl, _, rfl, by kernel_rfl, by kernel_rfl⟩, ⟨_, Tryz.underlying156, rfl⟩⟩
theorem tg160 : GoodT Tryz.prog 160 ⟨.st [(0, 157), (3, 159), (4, 25)], 5, 56, [.int .u32 0, .int .i32 0, .int .u32 0, .nilIface, .slice none 0 0]⟩ := ⟨⟨Tryz.t160, by kernel_rfl, by kernel_rfl, by kernel_rfl, _, rfl, by kernel_rfl, by kernel_rfl⟩, ⟨_, Tryz.underlying160, rfl⟩⟩
theorem tg213 : GoodT Tryz.prog 213 ⟨.st [(0, 212), (256, 25)], 257, 6168, [.slice none 0 0, .slice none 0 0, .slice none 0 0, .slice none 0 0, .slice none 0 0, .slice none 0 0, .slice none 0 0, .slice none 0 0, .slice none 0 0, .slice none 0 0, .slice none 0 0, .slice none 0 0, .slice none 0 0, .slice none 0 0, .slice none 0 0, .slice none 0 0, .slice none 0 0, .slice none 0 0, .slice none 0 0, .slice none 0 0, .slice none 0 0, .slice none 0 0, .slice none 0 0, .slice none 0 0, .slice none 0 0, .slice none 0 0, .slice none 0 0, .slice none 0 0, .slice none 0 0, .slice none 0 0, .slice none 0 0, .slice none 0 0, .slice none 0 0, .slice none 0 0, .slice none 0 0, .slice none 0 0, .slice none 0 0, .slice none 0 0, .slice none 0 0, .slice none 0 0, .slice none 0 0, .slice none 0 0, .slice none 0 0, .slice none 0 0, .slice none 0 0, .slice none 0 0, .slice none 0 0, .slice none 0 0, .slice none 0 0, .slice none 0 0, .slice none 0 0, .slice none 0 0, .slice none 0 0, .slice none 0 0, .slice none 0 0, .slice none 0 0, .slice none 0 0, .slice none 0 0, .slice none 0 0, .slice none 0 0, .slice none 0 0, .slice none 0 0, .slice none 0 0, .slice none 0 0, .slice none 0 0, .slice none 0 0, .slice none 0 0, .slice none 0 0, .slice none 0 0, .slice none 0 0, .slice none 0 0, .slice none 0 0, .slice none 0 0, .slice none 0 0, .slice none 0 0, .slice none 0 0, .slice none 0 0, .slice none 0 0, .slice none 0 0, .slice none 0 0, .slice none 0 0, .slice none 0 0, .slice none 0 0, .slice none 0 0, .slice none 0 0, .slice none 0 0, .slice none 0 0, .slice none 0 0, .slice none 0 0, .slice none 0 0, .slice none 0 0, .slice none 0 0, .slice none 0 0, .slice none 0 0, .slice none 0 0, .slice none 0 0, .slice none 0 0, .slice none 0 0, .slice none 0 0, .slice none 0 0, .slice none 0 0, .slice none 0 0, .slice none 0 0, .slice none 0 0, .slice none 0 0, .slice none 0 0, .slice none 0 0, .slice none 0 0, .slice none 0 0, .slice none 0 0, .slice none 0 0, .slice none 0 0, .slice none 0 0, .slice none 0 0, .slice none 0 0, .slice none 0 0, .slice none 0 0, .slice none 0 0, .slice none 0 0, .slice none 0 0, .slice none 0 0, .slice none 0 0, .slice none 0 0, .slice none 0 0, .slice none 0 0, .slice none 0 0, .slice none 0 0, .slice none 0 0, .slice none 0 0, .slice none 0 0, .slice none 0 0, .slice none 0 0, .slice none 0 0, .slice none 0 0, .slice none 0 0, .slice none 0 0, .slice none 0 0, .slice none 0 0, .slice none 0 0, .slice none 0 0, .slice none 0 0, .slice none 0 0, .slice none 0 0, .slice none 0 0, .slice none 0 0, .slice none 0 0, .slice none 0 0, .slice none 0 0, .slice none 0 0, .slice none 0 0, .slice none 0 0, .slice none 0 0, .slice none 0 0, .slice none 0 0, .slice none 0 0, .slice none 0 0, .slice none 0 0, .slice none 0 0, .slice none 0 0, .slice none 0 0, .slice none 0 0, .slice none 0 0, .slice none 0 0, .slice none 0 0, .slice none 0 0, .slice none 0 0, .slice none 0 0, .slice none 0 0, .slice none 0 0, .slice none 0 0, .slice none 0 0, .slice none 0 0, .slice none 0 0, .slice none 0 0, .slice none 0 0, .slice none 0 0, .slice none 0 0, .slice none 0 0, .slice none 0 0, .slice none 0 0, .slice none 0 0, .slice none 0 0, .slice none 0 0, .slice none 0 0, .slice none 0 0, .slice none 0 0, .slice none 0 0, .slice none 0 0, .slice none 0 0, .slice none 0 0, .slice none 0 0, .slice none 0 0, .slice none 0 0, .slice none 0 0, .slice none 0 0, .slice none 0 0, .slice none 0 0, .slice none 0 0, .slice none 0 0, .slice none 0 0, .slice none 0 0, .slice none 0 0, .slice none 0 0, .slice none 0 0, .slice none 0 0, .slice none 0 0, .slice none 0 0, .slice none 0 0, .slice none 0 0, .slice none 0 0, .slice none 0 0, .slice none 0 0, .slice none 0 0, .slice none 0 0, .slice none 0 0, .slice none 0 0, .slice none 0 0, .slice none 0 0, .slice none 0 0, .slice none 0 0, .slice none 0 0, .slice none 0 0, .slice none 0 0, .slice none 0 0, .slice none 0 0, .slice none 0 0, .slice none 0 0, .slice none 0 0, .slice none 0 0, .slice none 0 0, .slice none 0 0, .slice none 0 0, .slice none 0 0, .slice none 0 0, .slice none 0 0, .slice none 0 0, .slice none 0 0, .slice none 0 0, .slice none 0 0, .slice none 0 0, .slice none 0 0, .slice none 0 0, .slice none 0 0, .slice none 0 0, .slice none 0 0, .slice none 0 0, .slice none 0 0, .slice none 0 0, .slice none 0 0, .slice none 0 0, .slice none 0 0, .slice none 0 0, .slice none 0 0, .slice none 0 0, .slice none 0 0, .slice none 0 0, .slice none 0 0]⟩ := ⟨⟨Tryz.t213, by kernel_rfl, by kernel_rfl, by kernel_rfl, _, rfl, by kernel_rfl, by kernel_rfl⟩, ⟨_, Tryz.underlying213, rfl⟩⟩
theorem tg217 : GoodT Tryz.prog 217 ⟨.st [(0, 3), (1, 3)], 2, 16, [.int .i64 0, .int .i64 0]⟩ := ⟨⟨Tryz.t217, by kernel_rfl, by kernel_rfl, by kernel_rfl, _, rfl, by kernel_rfl, by kernel_rfl⟩, ⟨_, Tryz.underlying217, rfl⟩⟩
theorem tg221 : GoodT Tryz.prog 221 ⟨.st [(0, 9), (1, 9), (2, 128)], 3, 48, [.string ⟨#[]⟩, .string ⟨#[]⟩, .nilIface]⟩ := ⟨⟨Tryz.t221, by kernel_rfl, by kernel_rfl, by kernel_rfl, _, rfl, by kernel_rfl, by kernel_rfl⟩, ⟨_, Tryz.underlying221, rfl⟩⟩
theorem tg239 : GoodT Tryz.prog 239 ⟨.st [(0, 237), (1, 9)], 2, 24, [.pointer none, .string ⟨#[]⟩]⟩ := ⟨⟨Tryz.t239, by kernel_rfl, by kernel_rfl, by kernel_rfl, _, rfl, by kernel_rfl, by kernel_rfl⟩, ⟨_, Tryz.underlying239, rfl⟩⟩
theorem tg250 : GoodT Tryz.prog 250 ⟨.st [(0, 248), (1, 249), (2, 3)], 3, 56, [.slice none 0 0, .slice none 0 0, .int .i64 0]⟩ := ⟨⟨Tryz.t250, by kernel_rfl, by kernel_rfl, by kernel_rfl, _, rfl, by kernel_rfl, by kernel_rfl⟩, ⟨_, Tryz.underlying250, rfl⟩⟩
theorem tg253 : GoodT Tryz.prog 253 ⟨.st [(0, 252), (1, 252), (2, 252)], 3, 6, [.int .u16 0, .int .u16 0, .int .u16 0]⟩ := ⟨⟨Tryz.t253, by kernel_rfl, by kernel_rfl, by kernel_rfl, _, rfl, by kernel_rfl, by kernel_rfl⟩, ⟨_, Tryz.underlying253, rfl⟩⟩
theorem tg256 : GoodT Tryz.prog 256 ⟨.st [(0, 88), (1, 88), (2, 88)], 3, 12, [.int .u32 0, .int .u32 0, .int .u32 0]⟩ := ⟨⟨Tryz.t256, by kernel_rfl, by kernel_rfl, by kernel_rfl, _, rfl, by kernel_rfl, by kernel_rfl⟩, ⟨_, Tryz.underlying256, rfl⟩⟩
theorem tg260 : GoodT Tryz.prog 260 ⟨.st [(0, 9)], 1, 16, [.string ⟨#[]⟩]⟩ := ⟨⟨Tryz.t260, by kernel_rfl, by kernel_rfl, by kernel_rfl, _, rfl, by kernel_rfl, by kernel_rfl⟩, ⟨_, Tryz.underlying260, rfl⟩⟩
theorem tg284 : GoodT Tryz.prog 284 ⟨.st [(0, 17), (1, 17), (2, 17), (3, 9)], 4, 40, [.pointer none, .pointer none, .pointer none, .string ⟨#[]⟩]⟩ := ⟨⟨Tryz.t284, by kernel_rfl, by kernel_rfl, by kernel_rfl, _, rfl, by kernel_rfl, by kernel_rfl⟩, ⟨_, Tryz.underlying284, rfl⟩⟩
theorem tg287 : GoodT Tryz.prog 287 ⟨.st [(0, 286)], 0, 0, []⟩ := ⟨⟨Tryz.t287, by kernel_rfl, by kernel_rfl, by kernel_rfl, _, rfl, by kernel_rfl, by kernel_rfl⟩, ⟨_, Tryz.underlying287, rfl⟩⟩
theorem tg294 : GoodT Tryz.prog 294 ⟨.st [(0, 12), (1, 12), (2, 88), (3, 289), (4, 5), (5, 5), (6, 290), (7, 291), (8, 172), (9, 292), (10, 293)], 11, 48, [.int .u64 0, .int .u64 0, .int .u32 0, .int .u8 0, .int .u8 0, .int .u8 0, .int .u8 0, .nilFunc, .pointer none, .int .i32 0, .int .i32 0]⟩ := ⟨⟨Tryz.t294, by kernel_rfl, by kernel_rfl, by kernel_rfl, _, rfl, by kernel_rfl, by kernel_rfl⟩, ⟨_, Tryz.underlying294, rfl⟩⟩
theorem tg301 : GoodT Tryz.prog 301 ⟨.other, 1, 16, [.nilIface]⟩ := ⟨⟨Tryz.t301, by kernel_rfl, by kernel_rfl, by kernel_rfl, _, rfl, by kernel_rfl, by kernel_rfl⟩, ⟨_, Tryz.underlying301, rfl⟩⟩
theorem tg307 : GoodT Tryz.prog 307 ⟨.st [(0, 300)], 1, 16, [.nilIface]⟩ := ⟨⟨Tryz.t307, by kernel_rfl, by kernel_rfl, by kernel_rfl, _, rfl, by kernel_rfl, by kernel_rfl⟩, ⟨_, Tryz.underlying307, rfl⟩⟩
theorem tall : ∀ p ∈ tt, GoodT Tryz.prog p.1 p.2 := by
  unfold tt
  refine List.forall_mem_cons.2 ⟨tg3, ?_⟩
  refine List.forall_mem_cons.2 ⟨tg4, ?_⟩
  refine List.forall_mem_cons.2 ⟨tg9, ?_⟩
  refine List.forall_mem_cons.2 ⟨tg5, ?_⟩
  refine List.forall_mem_cons.2 ⟨tg1, ?_⟩
  refine List.forall_mem_cons.2 ⟨tg2, ?_⟩
  refine List.forall_mem_cons.2 ⟨tg86, ?_⟩
  refine List.forall_mem_cons.2 ⟨tg88, ?_⟩
  refine List.forall_mem_cons.2 ⟨tg27, ?_⟩
  refine List.forall_mem_cons.2 ⟨tg21, ?_⟩
  refine List.forall_mem_cons.2 ⟨tg6, ?_⟩
  refine List.forall_mem_cons.2 ⟨tg7, ?_⟩
  refine List.forall_mem_cons.2 ⟨tg52, ?_⟩
  refine List.forall_mem_cons.2 ⟨tg8, ?_⟩
  refine List.forall_mem_cons.2 ⟨tg26, ?_⟩
  refine List.forall_mem_cons.2 ⟨tg32, ?_⟩
  refine List.forall_mem_cons.2 ⟨tg23, ?_⟩
  refine List.forall_mem_cons.2 ⟨tg37, ?_⟩
  refine List.forall_mem_cons.2 ⟨tg10, ?_⟩
  refine List.forall_mem_cons.2 ⟨tg89, ?_⟩
  refine List.forall_mem_cons.2 ⟨tg25, ?_⟩
  refine List.forall_mem_cons.2 ⟨tg11, ?_⟩
  refine List.forall_mem_cons.2 ⟨tg241, ?_⟩
  refine List.forall_mem_cons.2 ⟨tg54, ?_⟩
  refine List.forall_mem_cons.2 ⟨tg39, ?_⟩
  refine List.forall_mem_cons.2 ⟨tg128, ?_⟩
  refine List.forall_mem_cons.2 ⟨tg12, ?_⟩
  refine List.forall_mem_cons.2 ⟨tg252, ?_⟩
  refine List.forall_mem_cons.2 ⟨tg13, ?_⟩
  refine List.forall_mem_cons.2 ⟨tg72, ?_⟩
  refine List.forall_mem_cons.2 ⟨tg14, ?_⟩
  refine List.forall_mem_cons.2 ⟨tg208, ?_⟩
  refine List.forall_mem_cons.2 ⟨tg135, ?_⟩
  refine List.forall_mem_cons.2 ⟨tg113, ?_⟩
  refine List.forall_mem_cons.2 ⟨tg45, ?_⟩
  refine List.forall_mem_cons.2 ⟨tg60, ?_⟩
  refine List.forall_mem_cons.2 ⟨tg47, ?_⟩
  refine List.forall_mem_cons.2 ⟨tg302, ?_⟩
  refine List.forall_mem_cons.2 ⟨tg42, ?_⟩
  refine List.forall_mem_cons.2 ⟨tg137, ?_⟩
  refine List.forall_mem_cons.2 ⟨tg264, ?_⟩
  refine List.forall_mem_cons.2 ⟨tg22, ?_⟩
  refine List.forall_mem_cons.2 ⟨tg30, ?_⟩
  refine List.forall_mem_cons.2 ⟨tg98, ?_⟩
  refine List.forall_mem_cons.2 ⟨tg237, ?_⟩
  refine List.forall_mem_cons.2 ⟨tg29, ?_⟩
  refine List.forall_mem_cons.2 ⟨tg139, ?_⟩
  refine List.forall_mem_cons.2 ⟨tg103, ?_⟩
  refine List.forall_mem_cons.2 ⟨tg274, ?_⟩
  refine List.forall_mem_cons.2 ⟨tg300, ?_⟩
  refine List.forall_mem_cons.2 ⟨tg15, ?_⟩
  refine List.forall_mem_cons.2 ⟨tg56, ?_⟩
  refine List.forall_mem_cons.2 ⟨tg82, ?_⟩
  refine List.forall_mem_cons.2 ⟨tg116, ?_⟩
  refine List.forall_mem_cons.2 ⟨tg248, ?_⟩
  refine List.forall_mem_cons.2 ⟨tg34, ?_⟩
  refine List.forall_mem_cons.2 ⟨tg83, ?_⟩
  refine List.forall_mem_cons.2 ⟨tg182, ?_⟩
  refine List.forall_mem_cons.2 ⟨tg206, ?_⟩
  refine List.forall_mem_cons.2 ⟨tg242, ?_⟩
  refine List.forall_mem_cons.2 ⟨tg102, ?_⟩
  refine List.forall_mem_cons.2 ⟨tg183, ?_⟩
  refine List.forall_mem_cons.2 ⟨tg215, ?_⟩
  refine List.forall_mem_cons.2 ⟨tg216, ?_⟩
  refine List.forall_mem_cons.2 ⟨tg297, ?_⟩
  refine List.forall_mem_cons.2 ⟨tg16, ?_⟩
  refine List.forall_mem_cons.2 ⟨tg17, ?_⟩
  refine List.forall_mem_cons.2 ⟨tg220, ?_⟩
  refine List.forall_mem_cons.2 ⟨tg249, ?_⟩
  refine List.forall_mem_cons.2 ⟨tg254, ?_⟩
  refine List.forall_mem_cons.2 ⟨tg19, ?_⟩
  refine List.forall_mem_cons.2 ⟨tg35, ?_⟩
  refine List.forall_mem_cons.2 ⟨tg110, ?_⟩
  refine List.forall_mem_cons.2 ⟨tg230, ?_⟩
  refine List.forall_mem_cons.2 ⟨tg244, ?_⟩
  refine List.forall_mem_cons.2 ⟨tg257, ?_⟩
  refine List.forall_mem_cons.2 ⟨tg280, ?_⟩
  refine List.forall_mem_cons.2 ⟨tg44, ?_⟩
  refine List.forall_mem_cons.2 ⟨tg111, ?_⟩
  refine List.forall_mem_cons.2 ⟨tg132, ?_⟩
  refine List.forall_mem_cons.2 ⟨tg184, ?_⟩
  refine List.forall_mem_cons.2 ⟨tg204, ?_⟩
  refine List.forall_mem_cons.2 ⟨tg212, ?_⟩
  refine List.forall_mem_cons.2 ⟨tg275, ?_⟩
  refine List.forall_mem_cons.2 ⟨tg24, ?_⟩
  refine List.forall_mem_cons.2 ⟨tg80, ?_⟩
  refine List.forall_mem_cons.2 ⟨tg121, ?_⟩
  refine List.forall_mem_cons.2 ⟨tg178, ?_⟩
  refine List.forall_mem_cons.2 ⟨tg192, ?_⟩
  refine List.forall_mem_cons.2 ⟨tg201, ?_⟩
  refine List.forall_mem_cons.2 ⟨tg211, ?_⟩
  refine List.forall_mem_cons.2 ⟨tg214, ?_⟩
  refine List.forall_mem_cons.2 ⟨tg266, ?_⟩
  refine List.forall_mem_cons.2 ⟨tg298, ?_⟩
  refine List.forall_mem_cons.2 ⟨tg78, ?_⟩
  refine List.forall_mem_cons.2 ⟨tg175, ?_⟩
  refine List.forall_mem_cons.2 ⟨tg218, ?_⟩
  refine List.forall_mem_cons.2 ⟨tg262, ?_⟩
  refine List.forall_mem_cons.2 ⟨tg18, ?_⟩
  refine List.forall_mem_cons.2 ⟨tg36, ?_⟩
  refine List.forall_mem_cons.2 ⟨tg59, ?_⟩
  refine List.forall_mem_cons.2 ⟨tg61, ?_⟩
  refine List.forall_mem_cons.2 ⟨tg85, ?_⟩
  refine List.forall_mem_cons.2 ⟨tg105, ?_⟩
  refine List.forall_mem_cons.2 ⟨tg108, ?_⟩
  refine List.forall_mem_cons.2 ⟨tg247, ?_⟩
  refine List.forall_mem_cons.2 ⟨tg38, ?_⟩
  refine List.forall_mem_cons.2 ⟨tg48, ?_⟩
  refine List.forall_mem_cons.2 ⟨tg62, ?_⟩
  refine List.forall_mem_cons.2 ⟨tg117, ?_⟩
  refine List.forall_mem_cons.2 ⟨tg140, ?_⟩
  refine List.forall_mem_cons.2 ⟨tg141, ?_⟩
  refine List.forall_mem_cons.2 ⟨tg176, ?_⟩
  refine List.forall_mem_cons.2 ⟨tg187, ?_⟩
  refine List.forall_mem_cons.2 ⟨tg202, ?_⟩
  refine List.forall_mem_cons.2 ⟨tg267, ?_⟩
  refine List.forall_mem_cons.2 ⟨tg270, ?_⟩
  refine List.forall_mem_cons.2 ⟨tg33, ?_⟩
  refine List.forall_mem_cons.2 ⟨tg55, ?_⟩
  refine List.forall_mem_cons.2 ⟨tg65, ?_⟩
  refine List.forall_mem_cons.2 ⟨tg73, ?_⟩
  refine List.forall_mem_cons.2 ⟨tg81, ?_⟩
  refine List.forall_mem_cons.2 ⟨tg87, ?_⟩
  refine List.forall_mem_cons.2 ⟨tg92, ?_⟩
  refine List.forall_mem_cons.2 ⟨tg112, ?_⟩
  refine List.forall_mem_cons.2 ⟨tg119, ?_⟩
  refine List.forall_mem_cons.2 ⟨tg159, ?_⟩
  refine List.forall_mem_cons.2 ⟨tg165, ?_⟩
  refine List.forall_mem_cons.2 ⟨tg222, ?_⟩
  refine List.forall_mem_cons.2 ⟨tg223, ?_⟩
  refine List.forall_mem_cons.2 ⟨tg232, ?_⟩
  refine List.forall_mem_cons.2 ⟨tg234, ?_⟩
  refine List.forall_mem_cons.2 ⟨tg265, ?_⟩
  refine List.forall_mem_cons.2 ⟨tg276, ?_⟩
  refine List.forall_mem_cons.2 ⟨tg277, ?_⟩
  refine List.forall_mem_cons.2 ⟨tg281, ?_⟩
  refine List.forall_mem_cons.2 ⟨tg283, ?_⟩
  refine List.forall_mem_cons.2 ⟨tg303, ?_⟩
  refine List.forall_mem_cons.2 ⟨tg40, ?_⟩
  refine List.forall_mem_cons.2 ⟨tg49, ?_⟩
  refine List.forall_mem_cons.2 ⟨tg58, ?_⟩
  refine List.forall_mem_cons.2 ⟨tg67, ?_⟩
  refine List.forall_mem_cons.2 ⟨tg74, ?_⟩
  refine List.forall_mem_cons.2 ⟨tg91, ?_⟩
  refine List.forall_mem_cons.2 ⟨tg100, ?_⟩
  refine List.forall_mem_cons.2 ⟨tg101, ?_⟩
  refine List.forall_mem_cons.2 ⟨tg104, ?_⟩
  refine List.forall_mem_cons.2 ⟨tg106, ?_⟩
  refine List.forall_mem_cons.2 ⟨tg107, ?_⟩
  refine List.forall_mem_cons.2 ⟨tg123, ?_⟩
  refine List.forall_mem_cons.2 ⟨tg142, ?_⟩
  refine List.forall_mem_cons.2 ⟨tg143, ?_⟩
  refine List.forall_mem_cons.2 ⟨tg151, ?_⟩
  refine List.forall_mem_cons.2 ⟨tg155, ?_⟩
  refine List.forall_mem_cons.2 ⟨tg162, ?_⟩
  refine List.forall_mem_cons.2 ⟨tg186, ?_⟩
  refine List.forall_mem_cons.2 ⟨tg188, ?_⟩
  refine List.forall_mem_cons.2 ⟨tg219, ?_⟩
  refine List.forall_mem_cons.2 ⟨tg224, ?_⟩
  refine List.forall_mem_cons.2 ⟨tg226, ?_⟩
  refine List.forall_mem_cons.2 ⟨tg255, ?_⟩
  refine List.forall_mem_cons.2 ⟨tg282, ?_⟩
  refine List.forall_mem_cons.2 ⟨tg290, ?_⟩
  refine List.forall_mem_cons.2 ⟨tg305, ?_⟩
  refine List.forall_mem_cons.2 ⟨tg308, ?_⟩
  refine List.forall_mem_cons.2 ⟨tg309, ?_⟩
  refine List.forall_mem_cons.2 ⟨tg20, ?_⟩
  refine List.forall_mem_cons.2 ⟨tg50, ?_⟩
  refine List.forall_mem_cons.2 ⟨tg66, ?_⟩
  refine List.forall_mem_cons.2 ⟨tg70, ?_⟩
  refine List.forall_mem_cons.2 ⟨tg71, ?_⟩
  refine List.forall_mem_cons.2 ⟨tg94, ?_⟩
  refine List.forall_mem_cons.2 ⟨tg118, ?_⟩
  refine List.forall_mem_cons.2 ⟨tg126, ?_⟩
  refine List.forall_mem_cons.2 ⟨tg130, ?_⟩
  refine List.forall_mem_cons.2 ⟨tg145, ?_⟩
  refine List.forall_mem_cons.2 ⟨tg152, ?_⟩
  refine List.forall_mem_cons.2 ⟨tg153, ?_⟩
  refine List.forall_mem_cons.2 ⟨tg154, ?_⟩
  refine List.forall_mem_cons.2 ⟨tg157, ?_⟩
  refine List.forall_mem_cons.2 ⟨tg161, ?_⟩
  refine List.forall_mem_cons.2 ⟨tg169, ?_⟩
  refine List.forall_mem_cons.2 ⟨tg172, ?_⟩
  refine List.forall_mem_cons.2 ⟨tg174, ?_⟩
  refine List.forall_mem_cons.2 ⟨tg179, ?_⟩
  refine List.forall_mem_cons.2 ⟨tg181, ?_⟩
  refine List.forall_mem_cons.2 ⟨tg185, ?_⟩
  refine List.forall_mem_cons.2 ⟨tg193, ?_⟩
  refine List.forall_mem_cons.2 ⟨tg195, ?_⟩
  refine List.forall_mem_cons.2 ⟨tg200, ?_⟩
  refine List.forall_mem_cons.2 ⟨tg228, ?_⟩
  refine List.forall_mem_cons.2 ⟨tg229, ?_⟩
  refine List.forall_mem_cons.2 ⟨tg233, ?_⟩
  refine List.forall_mem_cons.2 ⟨tg238, ?_⟩
  refine List.forall_mem_cons.2 ⟨tg240, ?_⟩
  refine List.forall_mem_cons.2 ⟨tg258, ?_⟩
  refine List.forall_mem_cons.2 ⟨tg259, ?_⟩
  refine List.forall_mem_cons.2 ⟨tg268, ?_⟩
  refine List.forall_mem_cons.2 ⟨tg269, ?_⟩
  refine List.forall_mem_cons.2 ⟨tg278, ?_⟩
  refine List.forall_mem_cons.2 ⟨tg286, ?_⟩
  refine List.forall_mem_cons.2 ⟨tg292, ?_⟩
  refine List.forall_mem_cons.2 ⟨tg296, ?_⟩
  refine List.forall_mem_cons.2 ⟨tg51, ?_⟩
  refine List.forall_mem_cons.2 ⟨tg53, ?_⟩
  refine List.forall_mem_cons.2 ⟨tg63, ?_⟩
  refine List.forall_mem_cons.2 ⟨tg68, ?_⟩
  refine List.forall_mem_cons.2 ⟨tg69, ?_⟩
  refine List.forall_mem_cons.2 ⟨tg76, ?_⟩
  refine List.forall_mem_cons.2 ⟨tg93, ?_⟩
  refine List.forall_mem_cons.2 ⟨tg96, ?_⟩
  refine List.forall_mem_cons.2 ⟨tg109, ?_⟩
  refine List.forall_mem_cons.2 ⟨tg114, ?_⟩
  refine List.forall_mem_cons.2 ⟨tg115, ?_⟩
  refine List.forall_mem_cons.2 ⟨tg124, ?_⟩
  refine List.forall_mem_cons.2 ⟨tg131, ?_⟩
  refine List.forall_mem_cons.2 ⟨tg134, ?_⟩
  refine List.forall_mem_cons.2 ⟨tg136, ?_⟩
  refine List.forall_mem_cons.2 ⟨tg144, ?_⟩
  refine List.forall_mem_cons.2 ⟨tg146, ?_⟩
  refine List.forall_mem_cons.2 ⟨tg148, ?_⟩
  refine List.forall_mem_cons.2 ⟨tg158, ?_⟩
  refine List.forall_mem_cons.2 ⟨tg163, ?_⟩
  refine List.forall_mem_cons.2 ⟨tg164, ?_⟩
  refine List.forall_mem_cons.2 ⟨tg166, ?_⟩
  refine List.forall_mem_cons.2 ⟨tg167, ?_⟩
  refine List.forall_mem_cons.2 ⟨tg171, ?_⟩
  refine List.forall_mem_cons.2 ⟨tg177, ?_⟩
  refine List.forall_mem_cons.2 ⟨tg189, ?_⟩
  refine List.forall_mem_cons.2 ⟨tg191, ?_⟩
  refine List.forall_mem_cons.2 ⟨tg194, ?_⟩
  refine List.forall_mem_cons.2 ⟨tg199, ?_⟩
  refine List.forall_mem_cons.2 ⟨tg203, ?_⟩
  refine List.forall_mem_cons.2 ⟨tg205, ?_⟩
  refine List.forall_mem_cons.2 ⟨tg207, ?_⟩
  refine List.forall_mem_cons.2 ⟨tg209, ?_⟩
  refine List.forall_mem_cons.2 ⟨tg225, ?_⟩
  refine List.forall_mem_cons.2 ⟨tg235, ?_⟩
  refine List.forall_mem_cons.2 ⟨tg236, ?_⟩
  refine List.forall_mem_cons.2 ⟨tg243, ?_⟩
  refine List.forall_mem_cons.2 ⟨tg251, ?_⟩
  refine List.forall_mem_cons.2 ⟨tg261, ?_⟩
  refine List.forall_mem_cons.2 ⟨tg263, ?_⟩
  refine List.forall_mem_cons.2 ⟨tg279, ?_⟩
  refine List.forall_mem_cons.2 ⟨tg285, ?_⟩
  refine List.forall_mem_cons.2 ⟨tg288, ?_⟩
  refine List.forall_mem_cons.2 ⟨tg289, ?_⟩
  refine List.forall_mem_cons.2 ⟨tg291, ?_⟩
  refine List.forall_mem_cons.2 ⟨tg293, ?_⟩
  refine List.forall_mem_cons.2 ⟨tg295, ?_⟩
  refine List.forall_mem_cons.2 ⟨tg299, ?_⟩
  refine List.forall_mem_cons.2 ⟨tg31, ?_⟩
  refine List.forall_mem_cons.2 ⟨tg41, ?_⟩
  refine List.forall_mem_cons.2 ⟨tg46, ?_⟩
  refine List.forall_mem_cons.2 ⟨tg77, ?_⟩
  refine List.forall_mem_cons.2 ⟨tg79, ?_⟩
  refine List.forall_mem_cons.2 ⟨tg97, ?_⟩
  refine List.forall_mem_cons.2 ⟨tg127, ?_⟩
  refine List.forall_mem_cons.2 ⟨tg147, ?_⟩
  refine List.forall_mem_cons.2 ⟨tg149, ?_⟩
  refine List.forall_mem_cons.2 ⟨tg150, ?_⟩
  refine List.forall_mem_cons.2 ⟨tg156, ?_⟩
  refine List.forall_mem_cons.2 ⟨tg160, ?_⟩
  refine List.forall_mem_cons.2 ⟨tg213, ?_⟩
  refine List.forall_mem_cons.2 ⟨tg217, ?_⟩
  refine List.forall_mem_cons.2 ⟨tg221, ?_⟩
  refine List.forall_mem_cons.2 ⟨tg239, ?_⟩
  refine List.forall_mem_cons.2 ⟨tg250, ?_⟩
  refine List.forall_mem_cons.2 ⟨tg253, ?_⟩
  refine List.forall_mem_cons.2 ⟨tg256, ?_⟩
  refine List.forall_mem_cons.2 ⟨tg260, ?_⟩
  refine List.forall_mem_cons.2 ⟨tg284, ?_⟩
  refine List.forall_mem_cons.2 ⟨tg287, ?_⟩
  refine List.forall_mem_cons.2 ⟨tg294, ?_⟩
  refine List.forall_mem_cons.2 ⟨tg301, ?_⟩
  refine List.forall_mem_cons.2 ⟨tg307, ?_⟩
  exact fun p hp => by cases hp
theorem tget_mem : ∀ (l : List (Nat × TI)) (t : Nat) (i : TI), tget l t = some i → (t, i) ∈ l
  | [], _, _, h => by cases h
  | (d, x) :: r, t, i, h => by
    simp only [tget] at h
    cases e : Nat.beq d t with
    | true => rw [e] at h; cases h; rw [Nat.eq_of_beq_eq_true e]; exact List.mem_cons_self
    | false => rw [e] at h; exact List.mem_cons_of_mem _ (tget_mem r t i h)
noncomputable def cx (n : Nat) : Ctx := ⟨Tryz.prog, n, tt⟩
theorem follows : Tryz.prog.follows .mixedOrders = true := by kernel_rfl
theorem cxg (n : Nat) : (cx n).Good := by
  refine And.intro follows (fun t i h => ?_)
  exact tall (t, i) (tget_mem tt t i h)
end Go.Dw
