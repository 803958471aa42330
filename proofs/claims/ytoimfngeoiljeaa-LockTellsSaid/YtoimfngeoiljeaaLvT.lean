/- The table of types of this program, as a program of this session has printed it. -/
import Derived.Test.YtoimfngeoiljeaaProg
import Derived.Test.YtoimfngeoiljeaaLvW
namespace Go.Lv
open Go Go.Proofs
set_option maxRecDepth 100000
def tabL : List (TypeId × TI) := [
  (3, ⟨.int Go.IntKind.i64, 1, 8, [.int Go.IntKind.i64 (0)]⟩),
  (4, ⟨.bool, 1, 1, [.bool false]⟩),
  (5, ⟨.int Go.IntKind.u8, 1, 1, [.int Go.IntKind.u8 (0)]⟩),
  (9, ⟨.str, 1, 16, [.str ⟨#[]⟩]⟩),
  (24, ⟨.slice 26, 1, 24, [.nilsl]⟩),
  (26, ⟨.struct [(3, 0), (3, 1), (3, 2)], 3, 24, [.int Go.IntKind.i64 (0), .int Go.IntKind.i64 (0), .int Go.IntKind.i64 (0)]⟩),
  (28, ⟨.slice 3, 1, 24, [.nilsl]⟩),
  (34, ⟨.int Go.IntKind.i64, 1, 8, [.int Go.IntKind.i64 (0)]⟩),
  (47, ⟨.int Go.IntKind.u64, 1, 8, [.int Go.IntKind.u64 (0)]⟩),
  (49, ⟨.int Go.IntKind.i64, 1, 8, [.int Go.IntKind.i64 (0)]⟩),
  (57, ⟨.int Go.IntKind.u32, 1, 4, [.int Go.IntKind.u32 (0)]⟩),
  (59, ⟨.int Go.IntKind.u64, 1, 8, [.int Go.IntKind.u64 (0)]⟩),
  (60, ⟨.int Go.IntKind.u64, 1, 8, [.int Go.IntKind.u64 (0)]⟩)]
def tab : Tab := Tab.ofList tabL
theorem tok : TOK Try.prog tab := TOK.ofList (by kernel_rfl)
@[simp] theorem tab3 : tab 3 = some ⟨.int Go.IntKind.i64, 1, 8, [.int Go.IntKind.i64 (0)]⟩ := rfl
@[simp] theorem tab4 : tab 4 = some ⟨.bool, 1, 1, [.bool false]⟩ := rfl
@[simp] theorem tab5 : tab 5 = some ⟨.int Go.IntKind.u8, 1, 1, [.int Go.IntKind.u8 (0)]⟩ := rfl
@[simp] theorem tab9 : tab 9 = some ⟨.str, 1, 16, [.str ⟨#[]⟩]⟩ := rfl
@[simp] theorem tab24 : tab 24 = some ⟨.slice 26, 1, 24, [.nilsl]⟩ := rfl
@[simp] theorem tab26 : tab 26 = some ⟨.struct [(3, 0), (3, 1), (3, 2)], 3, 24, [.int Go.IntKind.i64 (0), .int Go.IntKind.i64 (0), .int Go.IntKind.i64 (0)]⟩ := rfl
@[simp] theorem tab28 : tab 28 = some ⟨.slice 3, 1, 24, [.nilsl]⟩ := rfl
@[simp] theorem tab34 : tab 34 = some ⟨.int Go.IntKind.i64, 1, 8, [.int Go.IntKind.i64 (0)]⟩ := rfl
@[simp] theorem tab47 : tab 47 = some ⟨.int Go.IntKind.u64, 1, 8, [.int Go.IntKind.u64 (0)]⟩ := rfl
@[simp] theorem tab49 : tab 49 = some ⟨.int Go.IntKind.i64, 1, 8, [.int Go.IntKind.i64 (0)]⟩ := rfl
@[simp] theorem tab57 : tab 57 = some ⟨.int Go.IntKind.u32, 1, 4, [.int Go.IntKind.u32 (0)]⟩ := rfl
@[simp] theorem tab59 : tab 59 = some ⟨.int Go.IntKind.u64, 1, 8, [.int Go.IntKind.u64 (0)]⟩ := rfl
@[simp] theorem tab60 : tab 60 = some ⟨.int Go.IntKind.u64, 1, 8, [.int Go.IntKind.u64 (0)]⟩ := rfl
@[simp] theorem kindT3 : kindT tab 3 = (.int Go.IntKind.i64 : TK) := rfl
@[simp] theorem kindT4 : kindT tab 4 = (.bool : TK) := rfl
@[simp] theorem kindT5 : kindT tab 5 = (.int Go.IntKind.u8 : TK) := rfl
@[simp] theorem kindT9 : kindT tab 9 = (.str : TK) := rfl
@[simp] theorem kindT24 : kindT tab 24 = (.slice 26 : TK) := rfl
@[simp] theorem kindT26 : kindT tab 26 = (.struct [(3, 0), (3, 1), (3, 2)] : TK) := rfl
@[simp] theorem kindT28 : kindT tab 28 = (.slice 3 : TK) := rfl
@[simp] theorem kindT34 : kindT tab 34 = (.int Go.IntKind.i64 : TK) := rfl
@[simp] theorem kindT47 : kindT tab 47 = (.int Go.IntKind.u64 : TK) := rfl
@[simp] theorem kindT49 : kindT tab 49 = (.int Go.IntKind.i64 : TK) := rfl
@[simp] theorem kindT57 : kindT tab 57 = (.int Go.IntKind.u32 : TK) := rfl
@[simp] theorem kindT59 : kindT tab 59 = (.int Go.IntKind.u64 : TK) := rfl
@[simp] theorem kindT60 : kindT tab 60 = (.int Go.IntKind.u64 : TK) := rfl
end Go.Lv
