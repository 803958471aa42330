/- The laws' walks: LockClash. -/
import Derived.Test.YtoimfngeoiljeaaLe1
namespace Go.Lv
open Go Go.Proofs
set_option maxRecDepth 10000
set_option linter.unusedSimpArgs false

def lawClash (a b : Int) : Bool := (gClash a b == rClash a b) && (gClash a b == gClash b a)
theorem lawClash_lv (a b : Int) (ha : inI a) (hb : inI b) (H : OHeap) : CallL Try.prog 3 [i64 a, i64 b] H fun x H' => x = .bool (lawClash a b) ∧ H' = H := by
  refine CallL.of_vc (n := 2) tok Try.func3 (c := _) rfl (by kernel_rfl) rfl ?_
  simp -implicitDefEqProofs
  refine CallL.ret (awake_lv H) ?_
  simp -implicitDefEqProofs
  refine CallL.ret (clash_lv a b H) ?_
  simp -implicitDefEqProofs
  refine CallL.ret (rclash_lv a b ha hb H) ?_
  simp -implicitDefEqProofs
  cases h : (gClash a b == rClash a b)
  · simp -implicitDefEqProofs
    exact Ends.of ⟨by simp [lawClash, h], rfl⟩
  · simp -implicitDefEqProofs
    refine CallL.ret (clash_lv a b H) ?_
    simp -implicitDefEqProofs
    refine CallL.ret (clash_lv b a H) ?_
    simp -implicitDefEqProofs
    exact Ends.of ⟨by simp [lawClash, h], rfl⟩
end Go.Lv
