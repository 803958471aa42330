/- Texts of this proof, put together: Cf10. No condition. -/
import Derived.Test.YtllfbhmggfldoaaGreatDoorM17
import Derived.JoinedOf
import Derived.KernelRfl
/- The closed facts of the row coreNone that go over all that the law reaches. -/
namespace Go.Proofs.YtllfbhmggfldoaaGreatDoor
open Go
set_option maxRecDepth 100000
theorem clo10 : Tryz.prog.closure 10 = [10, 11, 12, 30, 33, 34, 87, 35, 31, 91, 32, 96, 159, 97, 83, 98, 160, 23, 84, 85, 153, 86, 155, 154, 209, 133, 134, 74, 106, 164, 224, 240, 272, 249, 196, 248, 273, 173, 235, 236, 237, 238, 271, 284, 285, 197, 92, 189, 190, 90, 192, 131, 121, 174, 239, 136, 175, 135, 139, 137, 193, 194, 246, 208, 247, 62, 66, 72, 138, 195, 140, 110, 141, 21, 75, 16, 56, 120, 172, 233, 270, 234, 76, 58, 122, 176, 177, 241, 274, 123, 178, 179, 242, 275, 22, 77, 69, 70, 78, 127, 142, 198, 250, 255, 251, 278, 277, 199, 252, 257, 253, 200, 254, 256, 65, 128, 184, 185, 244, 186, 107, 165, 225, 226, 269, 231, 227, 228, 166, 229, 167, 129, 29, 94, 95, 68, 230, 201, 258, 262, 161, 212, 213, 263, 282, 191, 25, 259, 28, 130, 187, 245, 276, 188, 232, 73, 132, 168, 79, 143, 202, 203, 260, 279, 280, 286, 287, 144, 80, 145, 204, 146, 71, 147, 81, 148, 205, 261, 182, 281, 206, 149, 82, 109, 169, 150, 207, 151, 152, 37, 102, 39, 103, 60, 124, 181, 180, 243, 125, 59, 42, 17, 57, 61, 126, 183, 45, 36, 99, 100, 163, 222, 223, 162, 214, 215, 264, 216, 265, 266, 217, 267, 268, 283, 218, 219, 220, 221, 101, 46, 18, 63, 64, 47, 20, 67, 48, 108, 111, 170, 19] := by kernel_rfl
theorem inP10 : Tryz.prog.inPlace 10 = Rows.coreNoneRow.inPlace := by unfold Program.inPlace; rw [clo10]; kernel_rfl
theorem unf10 : Tryz.prog.unfollowed 10 = Rows.coreNoneRow.unfollowed := by unfold Program.unfollowed; rw [clo10]; kernel_rfl
theorem rec10 : Tryz.prog.recurses 10 = Rows.coreNoneRow.recurses := by unfold Program.recurses; rw [unf10]; rfl
theorem var10 : Tryz.prog.varsNamed 10 = Rows.coreNoneRow.named := by unfold Program.varsNamed; rw [clo10]; kernel_rfl
theorem joined10 : joinedFacts Tryz.prog 10 Tryz.f10 Rows.coreNoneSpec Rows.coreNoneRow = true := by
  unfold joinedFacts
  rw [inP10, unf10, rec10, var10]
  kernel_rfl
end Go.Proofs.YtllfbhmggfldoaaGreatDoor
