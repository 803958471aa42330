/- Texts of this proof, put together: XeQ5. No condition. -/
import Derived.Test.YtllfbhmggfldoaaGreatDoorM14
/- awake(), chunk 5. -/
namespace Go.Xv.Q11
open Go Go.Lv Go.Xv Go.Proofs
set_option maxRecDepth 100000
theorem q5 : (match Tryz.prog.funcs[11]? with
  | some fn => (match exC tabF cl (dtF 11) (fun _ => none) true C5 E5 S5 with | some (.exit _, _, _) => none | some (_, e', s') => (xres tabF s' e' fn.results.toList).map fun v => (v, { s' with t := gcT s'.t [0] }) | none => none)
  | none => none) = some (.bool true, S6) := by kernel_rfl
end Go.Xv.Q11
