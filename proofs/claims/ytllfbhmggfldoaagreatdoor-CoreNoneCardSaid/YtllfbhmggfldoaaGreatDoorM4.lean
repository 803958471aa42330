/- Texts of this proof, put together: LvT. No condition. -/
import Derived.Test.YtllfbhmggfldoaaGreatDoorM3
import Derived.Test.YtllfbhmggfldoaaGreatDoorProg
/- The table of types of this program, as a program of this session has printed it. -/
namespace Go.Lv
open Go Go.Proofs
set_option maxRecDepth 100000
def tabL : List (TypeId × TI) := [
  (3, ⟨.int Go.IntKind.i64, 1, 8, [.int Go.IntKind.i64 (0)]⟩),
  (4, ⟨.bool, 1, 1, [.bool false]⟩),
  (5, ⟨.int Go.IntKind.u8, 1, 1, [.int Go.IntKind.u8 (0)]⟩),
  (9, ⟨.str, 1, 16, [.str ⟨#[]⟩]⟩),
  (23, ⟨.struct [(3, 0), (3, 1), (3, 2), (3, 3), (3, 4)], 5, 40, [.int Go.IntKind.i64 (0), .int Go.IntKind.i64 (0), .int Go.IntKind.i64 (0), .int Go.IntKind.i64 (0), .int Go.IntKind.i64 (0)]⟩),
  (24, ⟨.slice 42, 1, 24, [.nilsl]⟩),
  (26, ⟨.ptr 156, 1, 8, [.nilp]⟩),
  (27, ⟨.ptr 121, 1, 8, [.nilp]⟩),
  (31, ⟨.slice 98, 1, 24, [.nilsl]⟩),
  (32, ⟨.slice 64, 1, 24, [.nilsl]⟩),
  (34, ⟨.struct [(3, 0), (31, 1), (32, 2)], 3, 56, [.int Go.IntKind.i64 (0), .nilsl, .nilsl]⟩),
  (35, ⟨.int Go.IntKind.i64, 1, 8, [.int Go.IntKind.i64 (0)]⟩),
  (38, ⟨.slice 5, 1, 24, [.nilsl]⟩),
  (40, ⟨.struct [(4, 0), (38, 1)], 2, 32, [.bool false, .nilsl]⟩),
  (42, ⟨.struct [(3, 0), (3, 1), (3, 2), (3, 3), (40, 4)], 6, 64, [.int Go.IntKind.i64 (0), .int Go.IntKind.i64 (0), .int Go.IntKind.i64 (0), .int Go.IntKind.i64 (0), .bool false, .nilsl]⟩),
  (49, ⟨.slice 67, 1, 24, [.nilsl]⟩),
  (50, ⟨.slice 148, 1, 24, [.nilsl]⟩),
  (52, ⟨.struct [(49, 0), (50, 1), (3, 2), (3, 3)], 4, 64, [.nilsl, .nilsl, .int Go.IntKind.i64 (0), .int Go.IntKind.i64 (0)]⟩),
  (53, ⟨.slice 128, 1, 24, [.nilsl]⟩),
  (55, ⟨.struct [(52, 0), (53, 4), (3, 5), (3, 6), (3, 7), (3, 8), (3, 9), (3, 10), (32, 11)], 12, 160, [.nilsl, .nilsl, .int Go.IntKind.i64 (0), .int Go.IntKind.i64 (0), .nilsl, .int Go.IntKind.i64 (0), .int Go.IntKind.i64 (0), .int Go.IntKind.i64 (0), .int Go.IntKind.i64 (0), .int Go.IntKind.i64 (0), .int Go.IntKind.i64 (0), .nilsl]⟩),
  (61, ⟨.slice 145, 1, 24, [.nilsl]⟩),
  (62, ⟨.slice 3, 1, 24, [.nilsl]⟩),
  (64, ⟨.struct [(3, 0), (3, 1), (3, 2), (3, 3), (61, 4), (62, 5)], 6, 80, [.int Go.IntKind.i64 (0), .int Go.IntKind.i64 (0), .int Go.IntKind.i64 (0), .int Go.IntKind.i64 (0), .nilsl, .nilsl]⟩),
  (67, ⟨.struct [(3, 0), (3, 1), (3, 2)], 3, 24, [.int Go.IntKind.i64 (0), .int Go.IntKind.i64 (0), .int Go.IntKind.i64 (0)]⟩),
  (70, ⟨.slice 4, 1, 24, [.nilsl]⟩),
  (72, ⟨.struct [(70, 0), (3, 1), (3, 2)], 3, 40, [.nilsl, .int Go.IntKind.i64 (0), .int Go.IntKind.i64 (0)]⟩),
  (98, ⟨.struct [(3, 0), (38, 1)], 2, 32, [.int Go.IntKind.i64 (0), .nilsl]⟩),
  (106, ⟨.struct [(3, 0), (3, 1), (3, 2), (3, 3)], 4, 32, [.int Go.IntKind.i64 (0), .int Go.IntKind.i64 (0), .int Go.IntKind.i64 (0), .int Go.IntKind.i64 (0)]⟩),
  (116, ⟨.ptr 215, 1, 8, [.nilp]⟩),
  (117, ⟨.ptr 208, 1, 8, [.nilp]⟩),
  (119, ⟨.struct [(62, 0), (32, 1)], 2, 48, [.nilsl, .nilsl]⟩),
  (121, ⟨.struct [(26, 0), (23, 1), (116, 6), (117, 7), (106, 8), (119, 12)], 14, 144, [.nilp, .int Go.IntKind.i64 (0), .int Go.IntKind.i64 (0), .int Go.IntKind.i64 (0), .int Go.IntKind.i64 (0), .int Go.IntKind.i64 (0), .nilp, .nilp, .int Go.IntKind.i64 (0), .int Go.IntKind.i64 (0), .int Go.IntKind.i64 (0), .int Go.IntKind.i64 (0), .nilsl, .nilsl]⟩),
  (128, ⟨.struct [(3, 0), (3, 1)], 2, 16, [.int Go.IntKind.i64 (0), .int Go.IntKind.i64 (0)]⟩),
  (141, ⟨.struct [(3, 0), (3, 1), (3, 2), (3, 3), (3, 4), (3, 5), (3, 6), (3, 7), (3, 8), (3, 9), (40, 10), (40, 12)], 14, 144, [.int Go.IntKind.i64 (0), .int Go.IntKind.i64 (0), .int Go.IntKind.i64 (0), .int Go.IntKind.i64 (0), .int Go.IntKind.i64 (0), .int Go.IntKind.i64 (0), .int Go.IntKind.i64 (0), .int Go.IntKind.i64 (0), .int Go.IntKind.i64 (0), .int Go.IntKind.i64 (0), .bool false, .nilsl, .bool false, .nilsl]⟩),
  (145, ⟨.struct [(3, 0), (3, 1), (3, 2), (40, 3), (40, 5)], 7, 88, [.int Go.IntKind.i64 (0), .int Go.IntKind.i64 (0), .int Go.IntKind.i64 (0), .bool false, .nilsl, .bool false, .nilsl]⟩),
  (148, ⟨.struct [(3, 0), (3, 1), (3, 2)], 3, 24, [.int Go.IntKind.i64 (0), .int Go.IntKind.i64 (0), .int Go.IntKind.i64 (0)]⟩),
  (152, ⟨.slice 38, 1, 24, [.nilsl]⟩),
  (154, ⟨.slice 161, 1, 24, [.nilsl]⟩),
  (156, ⟨.struct [(152, 0), (152, 1), (154, 2), (4, 3), (4, 4), (3, 5)], 6, 88, [.nilsl, .nilsl, .nilsl, .bool false, .bool false, .int Go.IntKind.i64 (0)]⟩),
  (161, ⟨.struct [(3, 0), (38, 1)], 2, 32, [.int Go.IntKind.i64 (0), .nilsl]⟩),
  (192, ⟨.struct [(3, 0), (3, 1), (31, 2)], 3, 40, [.int Go.IntKind.i64 (0), .int Go.IntKind.i64 (0), .nilsl]⟩),
  (193, ⟨.ptr 119, 1, 8, [.nilp]⟩),
  (202, ⟨.slice 329, 1, 24, [.nilsl]⟩),
  (204, ⟨.struct [(3, 0), (202, 1)], 2, 32, [.int Go.IntKind.i64 (0), .nilsl]⟩),
  (205, ⟨.map 3 38, 1, 8, [.nilm]⟩),
  (206, ⟨.map 3 3, 1, 8, [.nilm]⟩),
  (208, ⟨.struct [(26, 0), (116, 1), (52, 2), (3, 6), (3, 7), (204, 8), (205, 10), (206, 11)], 12, 144, [.nilp, .nilp, .nilsl, .nilsl, .int Go.IntKind.i64 (0), .int Go.IntKind.i64 (0), .int Go.IntKind.i64 (0), .int Go.IntKind.i64 (0), .int Go.IntKind.i64 (0), .nilsl, .nilm, .nilm]⟩),
  (213, ⟨.slice 141, 1, 24, [.nilsl]⟩),
  (215, ⟨.struct [(26, 0), (3, 1), (3, 2), (3, 3), (3, 4), (3, 5), (3, 6), (3, 7), (213, 8)], 9, 88, [.nilp, .int Go.IntKind.i64 (0), .int Go.IntKind.i64 (0), .int Go.IntKind.i64 (0), .int Go.IntKind.i64 (0), .int Go.IntKind.i64 (0), .int Go.IntKind.i64 (0), .int Go.IntKind.i64 (0), .nilsl]⟩),
  (221, ⟨.ptr 281, 1, 8, [.nilp]⟩),
  (236, ⟨.int Go.IntKind.u64, 1, 8, [.int Go.IntKind.u64 (0)]⟩),
  (272, ⟨.struct [(38, 0)], 1, 24, [.nilsl]⟩),
  (281, ⟨.struct [(62, 0), (152, 1)], 2, 48, [.nilsl, .nilsl]⟩),
  (292, ⟨.int Go.IntKind.i64, 1, 8, [.int Go.IntKind.i64 (0)]⟩),
  (299, ⟨.int Go.IntKind.u32, 1, 4, [.int Go.IntKind.u32 (0)]⟩),
  (301, ⟨.int Go.IntKind.u64, 1, 8, [.int Go.IntKind.u64 (0)]⟩),
  (304, ⟨.struct [(3, 0), (3, 1), (3, 2), (213, 3)], 4, 48, [.int Go.IntKind.i64 (0), .int Go.IntKind.i64 (0), .int Go.IntKind.i64 (0), .nilsl]⟩),
  (320, ⟨.arr 256 5, 256, 256, List.replicate 256 (.int Go.IntKind.u8 (0))⟩),
  (322, ⟨.ptr 272, 1, 8, [.nilp]⟩),
  (329, ⟨.struct [(3, 0), (4, 1), (4, 2)], 3, 16, [.int Go.IntKind.i64 (0), .bool false, .bool false]⟩),
  (336, ⟨.int Go.IntKind.u64, 1, 8, [.int Go.IntKind.u64 (0)]⟩),
  (345, ⟨.arr 4 5, 4, 4, [.int Go.IntKind.u8 (0), .int Go.IntKind.u8 (0), .int Go.IntKind.u8 (0), .int Go.IntKind.u8 (0)]⟩)]
def tab : Tab := Tab.ofList tabL
theorem tok : TOK Tryz.prog tab := TOK.ofList (by kernel_rfl)
@[simp] theorem tab3 : tab 3 = some ⟨.int Go.IntKind.i64, 1, 8, [.int Go.IntKind.i64 (0)]⟩ := rfl
@[simp] theorem tab4 : tab 4 = some ⟨.bool, 1, 1, [.bool false]⟩ := rfl
@[simp] theorem tab5 : tab 5 = some ⟨.int Go.IntKind.u8, 1, 1, [.int Go.IntKind.u8 (0)]⟩ := rfl
@[simp] theorem tab9 : tab 9 = some ⟨.str, 1, 16, [.str ⟨#[]⟩]⟩ := rfl
@[simp] theorem tab23 : tab 23 = some ⟨.struct [(3, 0), (3, 1), (3, 2), (3, 3), (3, 4)], 5, 40, [.int Go.IntKind.i64 (0), .int Go.IntKind.i64 (0), .int Go.IntKind.i64 (0), .int Go.IntKind.i64 (0), .int Go.IntKind.i64 (0)]⟩ := rfl
@[simp] theorem tab24 : tab 24 = some ⟨.slice 42, 1, 24, [.nilsl]⟩ := rfl
@[simp] theorem tab26 : tab 26 = some ⟨.ptr 156, 1, 8, [.nilp]⟩ := rfl
@[simp] theorem tab27 : tab 27 = some ⟨.ptr 121, 1, 8, [.nilp]⟩ := rfl
@[simp] theorem tab31 : tab 31 = some ⟨.slice 98, 1, 24, [.nilsl]⟩ := rfl
@[simp] theorem tab32 : tab 32 = some ⟨.slice 64, 1, 24, [.nilsl]⟩ := rfl
@[simp] theorem tab34 : tab 34 = some ⟨.struct [(3, 0), (31, 1), (32, 2)], 3, 56, [.int Go.IntKind.i64 (0), .nilsl, .nilsl]⟩ := rfl
@[simp] theorem tab35 : tab 35 = some ⟨.int Go.IntKind.i64, 1, 8, [.int Go.IntKind.i64 (0)]⟩ := rfl
@[simp] theorem tab38 : tab 38 = some ⟨.slice 5, 1, 24, [.nilsl]⟩ := rfl
@[simp] theorem tab40 : tab 40 = some ⟨.struct [(4, 0), (38, 1)], 2, 32, [.bool false, .nilsl]⟩ := rfl
@[simp] theorem tab42 : tab 42 = some ⟨.struct [(3, 0), (3, 1), (3, 2), (3, 3), (40, 4)], 6, 64, [.int Go.IntKind.i64 (0), .int Go.IntKind.i64 (0), .int Go.IntKind.i64 (0), .int Go.IntKind.i64 (0), .bool false, .nilsl]⟩ := rfl
@[simp] theorem tab49 : tab 49 = some ⟨.slice 67, 1, 24, [.nilsl]⟩ := rfl
@[simp] theorem tab50 : tab 50 = some ⟨.slice 148, 1, 24, [.nilsl]⟩ := rfl
@[simp] theorem tab52 : tab 52 = some ⟨.struct [(49, 0), (50, 1), (3, 2), (3, 3)], 4, 64, [.nilsl, .nilsl, .int Go.IntKind.i64 (0), .int Go.IntKind.i64 (0)]⟩ := rfl
@[simp] theorem tab53 : tab 53 = some ⟨.slice 128, 1, 24, [.nilsl]⟩ := rfl
@[simp] theorem tab55 : tab 55 = some ⟨.struct [(52, 0), (53, 4), (3, 5), (3, 6), (3, 7), (3, 8), (3, 9), (3, 10), (32, 11)], 12, 160, [.nilsl, .nilsl, .int Go.IntKind.i64 (0), .int Go.IntKind.i64 (0), .nilsl, .int Go.IntKind.i64 (0), .int Go.IntKind.i64 (0), .int Go.IntKind.i64 (0), .int Go.IntKind.i64 (0), .int Go.IntKind.i64 (0), .int Go.IntKind.i64 (0), .nilsl]⟩ := rfl
@[simp] theorem tab61 : tab 61 = some ⟨.slice 145, 1, 24, [.nilsl]⟩ := rfl
@[simp] theorem tab62 : tab 62 = some ⟨.slice 3, 1, 24, [.nilsl]⟩ := rfl
@[simp] theorem tab64 : tab 64 = some ⟨.struct [(3, 0), (3, 1), (3, 2), (3, 3), (61, 4), (62, 5)], 6, 80, [.int Go.IntKind.i64 (0), .int Go.IntKind.i64 (0), .int Go.IntKind.i64 (0), .int Go.IntKind.i64 (0), .nilsl, .nilsl]⟩ := rfl
@[simp] theorem tab67 : tab 67 = some ⟨.struct [(3, 0), (3, 1), (3, 2)], 3, 24, [.int Go.IntKind.i64 (0), .int Go.IntKind.i64 (0), .int Go.IntKind.i64 (0)]⟩ := rfl
@[simp] theorem tab70 : tab 70 = some ⟨.slice 4, 1, 24, [.nilsl]⟩ := rfl
@[simp] theorem tab72 : tab 72 = some ⟨.struct [(70, 0), (3, 1), (3, 2)], 3, 40, [.nilsl, .int Go.IntKind.i64 (0), .int Go.IntKind.i64 (0)]⟩ := rfl
@[simp] theorem tab98 : tab 98 = some ⟨.struct [(3, 0), (38, 1)], 2, 32, [.int Go.IntKind.i64 (0), .nilsl]⟩ := rfl
@[simp] theorem tab106 : tab 106 = some ⟨.struct [(3, 0), (3, 1), (3, 2), (3, 3)], 4, 32, [.int Go.IntKind.i64 (0), .int Go.IntKind.i64 (0), .int Go.IntKind.i64 (0), .int Go.IntKind.i64 (0)]⟩ := rfl
@[simp] theorem tab116 : tab 116 = some ⟨.ptr 215, 1, 8, [.nilp]⟩ := rfl
@[simp] theorem tab117 : tab 117 = some ⟨.ptr 208, 1, 8, [.nilp]⟩ := rfl
@[simp] theorem tab119 : tab 119 = some ⟨.struct [(62, 0), (32, 1)], 2, 48, [.nilsl, .nilsl]⟩ := rfl
@[simp] theorem tab121 : tab 121 = some ⟨.struct [(26, 0), (23, 1), (116, 6), (117, 7), (106, 8), (119, 12)], 14, 144, [.nilp, .int Go.IntKind.i64 (0), .int Go.IntKind.i64 (0), .int Go.IntKind.i64 (0), .int Go.IntKind.i64 (0), .int Go.IntKind.i64 (0), .nilp, .nilp, .int Go.IntKind.i64 (0), .int Go.IntKind.i64 (0), .int Go.IntKind.i64 (0), .int Go.IntKind.i64 (0), .nilsl, .nilsl]⟩ := rfl
@[simp] theorem tab128 : tab 128 = some ⟨.struct [(3, 0), (3, 1)], 2, 16, [.int Go.IntKind.i64 (0), .int Go.IntKind.i64 (0)]⟩ := rfl
@[simp] theorem tab141 : tab 141 = some ⟨.struct [(3, 0), (3, 1), (3, 2), (3, 3), (3, 4), (3, 5), (3, 6), (3, 7), (3, 8), (3, 9), (40, 10), (40, 12)], 14, 144, [.int Go.IntKind.i64 (0), .int Go.IntKind.i64 (0), .int Go.IntKind.i64 (0), .int Go.IntKind.i64 (0), .int Go.IntKind.i64 (0), .int Go.IntKind.i64 (0), .int Go.IntKind.i64 (0), .int Go.IntKind.i64 (0), .int Go.IntKind.i64 (0), .int Go.IntKind.i64 (0), .bool false, .nilsl, .bool false, .nilsl]⟩ := rfl
@[simp] theorem tab145 : tab 145 = some ⟨.struct [(3, 0), (3, 1), (3, 2), (40, 3), (40, 5)], 7, 88, [.int Go.IntKind.i64 (0), .int Go.IntKind.i64 (0), .int Go.IntKind.i64 (0), .bool false, .nilsl, .bool false, .nilsl]⟩ := rfl
@[simp] theorem tab148 : tab 148 = some ⟨.struct [(3, 0), (3, 1), (3, 2)], 3, 24, [.int Go.IntKind.i64 (0), .int Go.IntKind.i64 (0), .int Go.IntKind.i64 (0)]⟩ := rfl
@[simp] theorem tab152 : tab 152 = some ⟨.slice 38, 1, 24, [.nilsl]⟩ := rfl
@[simp] theorem tab154 : tab 154 = some ⟨.slice 161, 1, 24, [.nilsl]⟩ := rfl
@[simp] theorem tab156 : tab 156 = some ⟨.struct [(152, 0), (152, 1), (154, 2), (4, 3), (4, 4), (3, 5)], 6, 88, [.nilsl, .nilsl, .nilsl, .bool false, .bool false, .int Go.IntKind.i64 (0)]⟩ := rfl
@[simp] theorem tab161 : tab 161 = some ⟨.struct [(3, 0), (38, 1)], 2, 32, [.int Go.IntKind.i64 (0), .nilsl]⟩ := rfl
@[simp] theorem tab192 : tab 192 = some ⟨.struct [(3, 0), (3, 1), (31, 2)], 3, 40, [.int Go.IntKind.i64 (0), .int Go.IntKind.i64 (0), .nilsl]⟩ := rfl
@[simp] theorem tab193 : tab 193 = some ⟨.ptr 119, 1, 8, [.nilp]⟩ := rfl
@[simp] theorem tab202 : tab 202 = some ⟨.slice 329, 1, 24, [.nilsl]⟩ := rfl
@[simp] theorem tab204 : tab 204 = some ⟨.struct [(3, 0), (202, 1)], 2, 32, [.int Go.IntKind.i64 (0), .nilsl]⟩ := rfl
@[simp] theorem tab205 : tab 205 = some ⟨.map 3 38, 1, 8, [.nilm]⟩ := rfl
@[simp] theorem tab206 : tab 206 = some ⟨.map 3 3, 1, 8, [.nilm]⟩ := rfl
@[simp] theorem tab208 : tab 208 = some ⟨.struct [(26, 0), (116, 1), (52, 2), (3, 6), (3, 7), (204, 8), (205, 10), (206, 11)], 12, 144, [.nilp, .nilp, .nilsl, .nilsl, .int Go.IntKind.i64 (0), .int Go.IntKind.i64 (0), .int Go.IntKind.i64 (0), .int Go.IntKind.i64 (0), .int Go.IntKind.i64 (0), .nilsl, .nilm, .nilm]⟩ := rfl
@[simp] theorem tab213 : tab 213 = some ⟨.slice 141, 1, 24, [.nilsl]⟩ := rfl
@[simp] theorem tab215 : tab 215 = some ⟨.struct [(26, 0), (3, 1), (3, 2), (3, 3), (3, 4), (3, 5), (3, 6), (3, 7), (213, 8)], 9, 88, [.nilp, .int Go.IntKind.i64 (0), .int Go.IntKind.i64 (0), .int Go.IntKind.i64 (0), .int Go.IntKind.i64 (0), .int Go.IntKind.i64 (0), .int Go.IntKind.i64 (0), .int Go.IntKind.i64 (0), .nilsl]⟩ := rfl
@[simp] theorem tab221 : tab 221 = some ⟨.ptr 281, 1, 8, [.nilp]⟩ := rfl
@[simp] theorem tab236 : tab 236 = some ⟨.int Go.IntKind.u64, 1, 8, [.int Go.IntKind.u64 (0)]⟩ := rfl
@[simp] theorem tab272 : tab 272 = some ⟨.struct [(38, 0)], 1, 24, [.nilsl]⟩ := rfl
@[simp] theorem tab281 : tab 281 = some ⟨.struct [(62, 0), (152, 1)], 2, 48, [.nilsl, .nilsl]⟩ := rfl
@[simp] theorem tab292 : tab 292 = some ⟨.int Go.IntKind.i64, 1, 8, [.int Go.IntKind.i64 (0)]⟩ := rfl
@[simp] theorem tab299 : tab 299 = some ⟨.int Go.IntKind.u32, 1, 4, [.int Go.IntKind.u32 (0)]⟩ := rfl
@[simp] theorem tab301 : tab 301 = some ⟨.int Go.IntKind.u64, 1, 8, [.int Go.IntKind.u64 (0)]⟩ := rfl
@[simp] theorem tab304 : tab 304 = some ⟨.struct [(3, 0), (3, 1), (3, 2), (213, 3)], 4, 48, [.int Go.IntKind.i64 (0), .int Go.IntKind.i64 (0), .int Go.IntKind.i64 (0), .nilsl]⟩ := rfl
@[simp] theorem tab320 : tab 320 = some ⟨.arr 256 5, 256, 256, List.replicate 256 (.int Go.IntKind.u8 (0))⟩ := rfl
@[simp] theorem tab322 : tab 322 = some ⟨.ptr 272, 1, 8, [.nilp]⟩ := rfl
@[simp] theorem tab329 : tab 329 = some ⟨.struct [(3, 0), (4, 1), (4, 2)], 3, 16, [.int Go.IntKind.i64 (0), .bool false, .bool false]⟩ := rfl
@[simp] theorem tab336 : tab 336 = some ⟨.int Go.IntKind.u64, 1, 8, [.int Go.IntKind.u64 (0)]⟩ := rfl
@[simp] theorem tab345 : tab 345 = some ⟨.arr 4 5, 4, 4, [.int Go.IntKind.u8 (0), .int Go.IntKind.u8 (0), .int Go.IntKind.u8 (0), .int Go.IntKind.u8 (0)]⟩ := rfl
@[simp] theorem kindT3 : kindT tab 3 = (.int Go.IntKind.i64 : TK) := rfl
@[simp] theorem kindT4 : kindT tab 4 = (.bool : TK) := rfl
@[simp] theorem kindT5 : kindT tab 5 = (.int Go.IntKind.u8 : TK) := rfl
@[simp] theorem kindT9 : kindT tab 9 = (.str : TK) := rfl
@[simp] theorem kindT23 : kindT tab 23 = (.struct [(3, 0), (3, 1), (3, 2), (3, 3), (3, 4)] : TK) := rfl
@[simp] theorem kindT24 : kindT tab 24 = (.slice 42 : TK) := rfl
@[simp] theorem kindT26 : kindT tab 26 = (.ptr 156 : TK) := rfl
@[simp] theorem kindT27 : kindT tab 27 = (.ptr 121 : TK) := rfl
@[simp] theorem kindT31 : kindT tab 31 = (.slice 98 : TK) := rfl
@[simp] theorem kindT32 : kindT tab 32 = (.slice 64 : TK) := rfl
@[simp] theorem kindT34 : kindT tab 34 = (.struct [(3, 0), (31, 1), (32, 2)] : TK) := rfl
@[simp] theorem kindT35 : kindT tab 35 = (.int Go.IntKind.i64 : TK) := rfl
@[simp] theorem kindT38 : kindT tab 38 = (.slice 5 : TK) := rfl
@[simp] theorem kindT40 : kindT tab 40 = (.struct [(4, 0), (38, 1)] : TK) := rfl
@[simp] theorem kindT42 : kindT tab 42 = (.struct [(3, 0), (3, 1), (3, 2), (3, 3), (40, 4)] : TK) := rfl
@[simp] theorem kindT49 : kindT tab 49 = (.slice 67 : TK) := rfl
@[simp] theorem kindT50 : kindT tab 50 = (.slice 148 : TK) := rfl
@[simp] theorem kindT52 : kindT tab 52 = (.struct [(49, 0), (50, 1), (3, 2), (3, 3)] : TK) := rfl
@[simp] theorem kindT53 : kindT tab 53 = (.slice 128 : TK) := rfl
@[simp] theorem kindT55 : kindT tab 55 = (.struct [(52, 0), (53, 4), (3, 5), (3, 6), (3, 7), (3, 8), (3, 9), (3, 10), (32, 11)] : TK) := rfl
@[simp] theorem kindT61 : kindT tab 61 = (.slice 145 : TK) := rfl
@[simp] theorem kindT62 : kindT tab 62 = (.slice 3 : TK) := rfl
@[simp] theorem kindT64 : kindT tab 64 = (.struct [(3, 0), (3, 1), (3, 2), (3, 3), (61, 4), (62, 5)] : TK) := rfl
@[simp] theorem kindT67 : kindT tab 67 = (.struct [(3, 0), (3, 1), (3, 2)] : TK) := rfl
@[simp] theorem kindT70 : kindT tab 70 = (.slice 4 : TK) := rfl
@[simp] theorem kindT72 : kindT tab 72 = (.struct [(70, 0), (3, 1), (3, 2)] : TK) := rfl
@[simp] theorem kindT98 : kindT tab 98 = (.struct [(3, 0), (38, 1)] : TK) := rfl
@[simp] theorem kindT106 : kindT tab 106 = (.struct [(3, 0), (3, 1), (3, 2), (3, 3)] : TK) := rfl
@[simp] theorem kindT116 : kindT tab 116 = (.ptr 215 : TK) := rfl
@[simp] theorem kindT117 : kindT tab 117 = (.ptr 208 : TK) := rfl
@[simp] theorem kindT119 : kindT tab 119 = (.struct [(62, 0), (32, 1)] : TK) := rfl
@[simp] theorem kindT121 : kindT tab 121 = (.struct [(26, 0), (23, 1), (116, 6), (117, 7), (106, 8), (119, 12)] : TK) := rfl
@[simp] theorem kindT128 : kindT tab 128 = (.struct [(3, 0), (3, 1)] : TK) := rfl
@[simp] theorem kindT141 : kindT tab 141 = (.struct [(3, 0), (3, 1), (3, 2), (3, 3), (3, 4), (3, 5), (3, 6), (3, 7), (3, 8), (3, 9), (40, 10), (40, 12)] : TK) := rfl
@[simp] theorem kindT145 : kindT tab 145 = (.struct [(3, 0), (3, 1), (3, 2), (40, 3), (40, 5)] : TK) := rfl
@[simp] theorem kindT148 : kindT tab 148 = (.struct [(3, 0), (3, 1), (3, 2)] : TK) := rfl
@[simp] theorem kindT152 : kindT tab 152 = (.slice 38 : TK) := rfl
@[simp] theorem kindT154 : kindT tab 154 = (.slice 161 : TK) := rfl
@[simp] theorem kindT156 : kindT tab 156 = (.struct [(152, 0), (152, 1), (154, 2), (4, 3), (4, 4), (3, 5)] : TK) := rfl
@[simp] theorem kindT161 : kindT tab 161 = (.struct [(3, 0), (38, 1)] : TK) := rfl
@[simp] theorem kindT192 : kindT tab 192 = (.struct [(3, 0), (3, 1), (31, 2)] : TK) := rfl
@[simp] theorem kindT193 : kindT tab 193 = (.ptr 119 : TK) := rfl
@[simp] theorem kindT202 : kindT tab 202 = (.slice 329 : TK) := rfl
@[simp] theorem kindT204 : kindT tab 204 = (.struct [(3, 0), (202, 1)] : TK) := rfl
@[simp] theorem kindT205 : kindT tab 205 = (.map 3 38 : TK) := rfl
@[simp] theorem kindT206 : kindT tab 206 = (.map 3 3 : TK) := rfl
@[simp] theorem kindT208 : kindT tab 208 = (.struct [(26, 0), (116, 1), (52, 2), (3, 6), (3, 7), (204, 8), (205, 10), (206, 11)] : TK) := rfl
@[simp] theorem kindT213 : kindT tab 213 = (.slice 141 : TK) := rfl
@[simp] theorem kindT215 : kindT tab 215 = (.struct [(26, 0), (3, 1), (3, 2), (3, 3), (3, 4), (3, 5), (3, 6), (3, 7), (213, 8)] : TK) := rfl
@[simp] theorem kindT221 : kindT tab 221 = (.ptr 281 : TK) := rfl
@[simp] theorem kindT236 : kindT tab 236 = (.int Go.IntKind.u64 : TK) := rfl
@[simp] theorem kindT272 : kindT tab 272 = (.struct [(38, 0)] : TK) := rfl
@[simp] theorem kindT281 : kindT tab 281 = (.struct [(62, 0), (152, 1)] : TK) := rfl
@[simp] theorem kindT292 : kindT tab 292 = (.int Go.IntKind.i64 : TK) := rfl
@[simp] theorem kindT299 : kindT tab 299 = (.int Go.IntKind.u32 : TK) := rfl
@[simp] theorem kindT301 : kindT tab 301 = (.int Go.IntKind.u64 : TK) := rfl
@[simp] theorem kindT304 : kindT tab 304 = (.struct [(3, 0), (3, 1), (3, 2), (213, 3)] : TK) := rfl
@[simp] theorem kindT320 : kindT tab 320 = (.arr 256 5 : TK) := rfl
@[simp] theorem kindT322 : kindT tab 322 = (.ptr 272 : TK) := rfl
@[simp] theorem kindT329 : kindT tab 329 = (.struct [(3, 0), (4, 1), (4, 2)] : TK) := rfl
@[simp] theorem kindT336 : kindT tab 336 = (.int Go.IntKind.u64 : TK) := rfl
@[simp] theorem kindT345 : kindT tab 345 = (.arr 4 5 : TK) := rfl
end Go.Lv
