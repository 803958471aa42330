/-
  No cell of these rows narrows 'for every input' (looked for: loops, veiled, ifaces, maps, wideKeys, modest, calm, conditions, laid).
  DERIVED. THE GIVEN ROWS OF THIS SEAT. 7 by the template 'for every input the law returns true; each argument reads behind the call as it read before'; 0 by the template 'total and deterministic' (their statements: YtoimfngeoiljeaaTotals.lean).
  GIVEN WITH THE SEED: the statements are not yours to turn. If you find one false, say at which input.
  Laid BY PROGRAM, IN A SANDBOX (cutbox-rows.mjs): the forced cells as the released guide's own fill.sh prints them over the translation c519d189684f2817… (all of the seat's roots in one cut). By AI agents, Wed Nov 11 2026. No macro, syntax, notation, axiom, sorry.
-/
import Derived.Test.YtoimfngeoiljeaaChecked
import GoSem.Claim
import GoSem.ClaimJoined
import GoSem.ClaimMapViews
import Derived.JoinedTies
import Derived.KernelRfl
namespace Go.Proofs.Ytoimfngeoiljeaa
/- THE CELL 'sum', in the pinned program and in every row, IS THE sha256 OF THE DUMP (.gsa) THAT YtoimfngeoiljeaaProg.lean LOADS. Nothing in Lean hashes anything: it is a label: what it is worth is what the hold of that sum in a sandbox is worth. -/
noncomputable def Try.pinned : Pinned := { name := "ytoimfngeoiljeaa", sum := "c519d189684f2817f409408f9b9c371f7f19bdf7c11f1831e2c42ac94aa89347", checked := Try.checked }
namespace Rows
def none {H : Type} : Left H := { results := [], args := [] }

/-- 'bobbinlaw12.LockClash': WHATEVER THE INPUT: true; the input reads as it did. -/
def lockClashSpec : ChangeSpec := { name := "lockClash", fn := fun _ => fun
  | [d1, d2] => { results := [.lit (.bool true)], args := [d1, d2] }
  | _ => none }
def lockClashRow : OpenClaim := { program := "ytoimfngeoiljeaa", sum := "c519d189684f2817f409408f9b9c371f7f19bdf7c11f1831e2c42ac94aa89347", func := "bobbin/bobbinlaw12.LockClash", spec := "lockClash", unfollowed := true, recurses := true, apart := false }
def LockClashSaid : Prop := lockClashRow.holds Try.pinned (OpenSpec.ofChange lockClashSpec)

/-- ITS FALSE NEIGHBOUR: 'it returns false'. Refute it at one input. -/
def lockClashWrong : ChangeSpec := { name := "lockClash", fn := fun _ => fun
  | [d1, d2] => { results := [.lit (.bool false)], args := [d1, d2] }
  | _ => none }
def LockClashWrongFalsely : Prop := lockClashRow.holds Try.pinned (OpenSpec.ofChange lockClashWrong)

/-- 'bobbinlaw12.LockOrder': WHATEVER THE INPUT: true; the input reads as it did. -/
def lockOrderSpec : ChangeSpec := { name := "lockOrder", fn := fun _ => fun
  | [d1, d2, d3, d4] => { results := [.lit (.bool true)], args := [d1, d2, d3, d4] }
  | _ => none }
def lockOrderRow : OpenClaim := { program := "ytoimfngeoiljeaa", sum := "c519d189684f2817f409408f9b9c371f7f19bdf7c11f1831e2c42ac94aa89347", func := "bobbin/bobbinlaw12.LockOrder", spec := "lockOrder", unfollowed := true, recurses := true, apart := false }
def LockOrderSaid : Prop := lockOrderRow.holds Try.pinned (OpenSpec.ofChange lockOrderSpec)

/-- ITS FALSE NEIGHBOUR: 'it returns false'. Refute it at one input. -/
def lockOrderWrong : ChangeSpec := { name := "lockOrder", fn := fun _ => fun
  | [d1, d2, d3, d4] => { results := [.lit (.bool false)], args := [d1, d2, d3, d4] }
  | _ => none }
def LockOrderWrongFalsely : Prop := lockOrderRow.holds Try.pinned (OpenSpec.ofChange lockOrderWrong)

/-- 'bobbinlaw12.LockMore': WHATEVER THE INPUT: true; the input reads as it did. -/
def lockMoreSpec : ChangeSpec := { name := "lockMore", fn := fun _ => fun
  | [d1, d2, d3, d4, d5] => { results := [.lit (.bool true)], args := [d1, d2, d3, d4, d5] }
  | _ => none }
def lockMoreRow : OpenClaim := { program := "ytoimfngeoiljeaa", sum := "c519d189684f2817f409408f9b9c371f7f19bdf7c11f1831e2c42ac94aa89347", func := "bobbin/bobbinlaw12.LockMore", spec := "lockMore", unfollowed := true, recurses := true, apart := false }
def LockMoreSaid : Prop := lockMoreRow.holds Try.pinned (OpenSpec.ofChange lockMoreSpec)

/-- ITS FALSE NEIGHBOUR: 'it returns false'. Refute it at one input. -/
def lockMoreWrong : ChangeSpec := { name := "lockMore", fn := fun _ => fun
  | [d1, d2, d3, d4, d5] => { results := [.lit (.bool false)], args := [d1, d2, d3, d4, d5] }
  | _ => none }
def LockMoreWrongFalsely : Prop := lockMoreRow.holds Try.pinned (OpenSpec.ofChange lockMoreWrong)

/-- 'bobbinlaw12.LockTells': WHATEVER THE INPUT: true; the input reads as it did. -/
def lockTellsSpec : ChangeSpec := { name := "lockTells", fn := fun _ => fun
  | [d1, d2, d3, d4] => { results := [.lit (.bool true)], args := [d1, d2, d3, d4] }
  | _ => none }
def lockTellsRow : OpenClaim := { program := "ytoimfngeoiljeaa", sum := "c519d189684f2817f409408f9b9c371f7f19bdf7c11f1831e2c42ac94aa89347", func := "bobbin/bobbinlaw12.LockTells", spec := "lockTells", unfollowed := true, recurses := true, apart := false }
def LockTellsSaid : Prop := lockTellsRow.holds Try.pinned (OpenSpec.ofChange lockTellsSpec)

/-- ITS FALSE NEIGHBOUR: 'it returns false'. Refute it at one input. -/
def lockTellsWrong : ChangeSpec := { name := "lockTells", fn := fun _ => fun
  | [d1, d2, d3, d4] => { results := [.lit (.bool false)], args := [d1, d2, d3, d4] }
  | _ => none }
def LockTellsWrongFalsely : Prop := lockTellsRow.holds Try.pinned (OpenSpec.ofChange lockTellsWrong)

/-- 'bobbinlaw12.LockSafe': WHATEVER THE INPUT: true; the input reads as it did. -/
def lockSafeSpec : ChangeSpec := { name := "lockSafe", fn := fun _ => fun
  | [d] => { results := [.lit (.bool true)], args := [d] }
  | _ => none }
def lockSafeRow : OpenClaim := { program := "ytoimfngeoiljeaa", sum := "c519d189684f2817f409408f9b9c371f7f19bdf7c11f1831e2c42ac94aa89347", func := "bobbin/bobbinlaw12.LockSafe", spec := "lockSafe", unfollowed := true, recurses := true, apart := false }
def LockSafeSaid : Prop := lockSafeRow.holds Try.pinned (OpenSpec.ofChange lockSafeSpec)

/-- ITS FALSE NEIGHBOUR: 'it returns false'. Refute it at one input. -/
def lockSafeWrong : ChangeSpec := { name := "lockSafe", fn := fun _ => fun
  | [d] => { results := [.lit (.bool false)], args := [d] }
  | _ => none }
def LockSafeWrongFalsely : Prop := lockSafeRow.holds Try.pinned (OpenSpec.ofChange lockSafeWrong)

/-- 'bobbinlaw12.LockOnce': WHATEVER THE INPUT: true; the input reads as it did. -/
def lockOnceSpec : ChangeSpec := { name := "lockOnce", fn := fun _ => fun
  | [d1, d2, d3, d4, d5] => { results := [.lit (.bool true)], args := [d1, d2, d3, d4, d5] }
  | _ => none }
def lockOnceRow : OpenClaim := { program := "ytoimfngeoiljeaa", sum := "c519d189684f2817f409408f9b9c371f7f19bdf7c11f1831e2c42ac94aa89347", func := "bobbin/bobbinlaw12.LockOnce", spec := "lockOnce", unfollowed := true, recurses := true, apart := false }
def LockOnceSaid : Prop := lockOnceRow.holds Try.pinned (OpenSpec.ofChange lockOnceSpec)

/-- ITS FALSE NEIGHBOUR: 'it returns false'. Refute it at one input. -/
def lockOnceWrong : ChangeSpec := { name := "lockOnce", fn := fun _ => fun
  | [d1, d2, d3, d4, d5] => { results := [.lit (.bool false)], args := [d1, d2, d3, d4, d5] }
  | _ => none }
def LockOnceWrongFalsely : Prop := lockOnceRow.holds Try.pinned (OpenSpec.ofChange lockOnceWrong)

/-- 'bobbinlaw12.LockDrops': WHATEVER THE INPUT: true; the input reads as it did. -/
def lockDropsSpec : ChangeSpec := { name := "lockDrops", fn := fun _ => fun
  | [d1, d2, d3, d4, d5] => { results := [.lit (.bool true)], args := [d1, d2, d3, d4, d5] }
  | _ => none }
def lockDropsRow : OpenClaim := { program := "ytoimfngeoiljeaa", sum := "c519d189684f2817f409408f9b9c371f7f19bdf7c11f1831e2c42ac94aa89347", func := "bobbin/bobbinlaw12.LockDrops", spec := "lockDrops", unfollowed := true, recurses := true, apart := false }
def LockDropsSaid : Prop := lockDropsRow.holds Try.pinned (OpenSpec.ofChange lockDropsSpec)

/-- ITS FALSE NEIGHBOUR: 'it returns false'. Refute it at one input. -/
def lockDropsWrong : ChangeSpec := { name := "lockDrops", fn := fun _ => fun
  | [d1, d2, d3, d4, d5] => { results := [.lit (.bool false)], args := [d1, d2, d3, d4, d5] }
  | _ => none }
def LockDropsWrongFalsely : Prop := lockDropsRow.holds Try.pinned (OpenSpec.ofChange lockDropsWrong)

/- THE SECOND FORM. 'bulk': how many values and letters a reading holds, each counted each time it is reached (what is shared counts as often as it is met; a slice's spare places count too). A statement '..UptoSaid' is the law's where the arguments, and the package variables that the reading takes, are together of bulk at most 1048576: NARROWER than '..Said'. Prove '..Said' where nothing that the law and all that it calls make is longer than what came in: it says more and counts as full. Else prove '..UptoSaid'. A law counts once. -/
mutual
def uptoBulk {H : Type} : DataW H → Nat
  | .lit (.string bytes) => bytes.length + 1
  | .lit _ => 1
  | .nil => 1
  | .ptr d => uptoBulk d + 1
  | .slice elems spare => uptoBulkAll elems + uptoBulkAll spare + 1
  | .agg parts => uptoBulkAll parts + 1
  | .iface _ d => uptoBulk d + 1
  | .map entries => uptoBulkEntries entries + 1
  | .held _ => 1
def uptoBulkAll {H : Type} : List (DataW H) → Nat
  | [] => 0
  | d :: r => uptoBulk d + uptoBulkAll r
def uptoBulkEntries {H : Type} : List (Lit × DataW H) → Nat
  | [] => 0
  | x :: r => uptoBulkEntry x + uptoBulkEntries r
def uptoBulkEntry {H : Type} : Lit × DataW H → Nat
  | (.string bytes, d) => bytes.length + uptoBulk d + 1
  | (_, d) => uptoBulk d + 1
 end
def uptoSmall : (H : Type) → List (DataW H) → Bool := fun _ ds => decide (uptoBulkAll ds ≤ 1048576)
def OpenSpec.upto (s : _root_.Go.ChangeSpec) : _root_.Go.OpenSpec := { _root_.Go.OpenSpec.ofChange s with cond := some uptoSmall }

/-- 'bobbinlaw12.LockClash', WHERE WHAT IT READS IS OF BULK AT MOST 1048576: true; the input reads as it did. -/
def lockClashUptoRow : OpenClaim := { program := "ytoimfngeoiljeaa", sum := "c519d189684f2817f409408f9b9c371f7f19bdf7c11f1831e2c42ac94aa89347", func := "bobbin/bobbinlaw12.LockClash", spec := "lockClash", unfollowed := true, recurses := true, apart := false, narrowed := true }
def LockClashUptoSaid : Prop := lockClashUptoRow.holds Try.pinned (OpenSpec.upto lockClashSpec)

/-- 'bobbinlaw12.LockOrder', WHERE WHAT IT READS IS OF BULK AT MOST 1048576: true; the input reads as it did. -/
def lockOrderUptoRow : OpenClaim := { program := "ytoimfngeoiljeaa", sum := "c519d189684f2817f409408f9b9c371f7f19bdf7c11f1831e2c42ac94aa89347", func := "bobbin/bobbinlaw12.LockOrder", spec := "lockOrder", unfollowed := true, recurses := true, apart := false, narrowed := true }
def LockOrderUptoSaid : Prop := lockOrderUptoRow.holds Try.pinned (OpenSpec.upto lockOrderSpec)

/-- 'bobbinlaw12.LockMore', WHERE WHAT IT READS IS OF BULK AT MOST 1048576: true; the input reads as it did. -/
def lockMoreUptoRow : OpenClaim := { program := "ytoimfngeoiljeaa", sum := "c519d189684f2817f409408f9b9c371f7f19bdf7c11f1831e2c42ac94aa89347", func := "bobbin/bobbinlaw12.LockMore", spec := "lockMore", unfollowed := true, recurses := true, apart := false, narrowed := true }
def LockMoreUptoSaid : Prop := lockMoreUptoRow.holds Try.pinned (OpenSpec.upto lockMoreSpec)

/-- 'bobbinlaw12.LockTells', WHERE WHAT IT READS IS OF BULK AT MOST 1048576: true; the input reads as it did. -/
def lockTellsUptoRow : OpenClaim := { program := "ytoimfngeoiljeaa", sum := "c519d189684f2817f409408f9b9c371f7f19bdf7c11f1831e2c42ac94aa89347", func := "bobbin/bobbinlaw12.LockTells", spec := "lockTells", unfollowed := true, recurses := true, apart := false, narrowed := true }
def LockTellsUptoSaid : Prop := lockTellsUptoRow.holds Try.pinned (OpenSpec.upto lockTellsSpec)

/-- 'bobbinlaw12.LockSafe', WHERE WHAT IT READS IS OF BULK AT MOST 1048576: true; the input reads as it did. -/
def lockSafeUptoRow : OpenClaim := { program := "ytoimfngeoiljeaa", sum := "c519d189684f2817f409408f9b9c371f7f19bdf7c11f1831e2c42ac94aa89347", func := "bobbin/bobbinlaw12.LockSafe", spec := "lockSafe", unfollowed := true, recurses := true, apart := false, narrowed := true }
def LockSafeUptoSaid : Prop := lockSafeUptoRow.holds Try.pinned (OpenSpec.upto lockSafeSpec)

/-- 'bobbinlaw12.LockOnce', WHERE WHAT IT READS IS OF BULK AT MOST 1048576: true; the input reads as it did. -/
def lockOnceUptoRow : OpenClaim := { program := "ytoimfngeoiljeaa", sum := "c519d189684f2817f409408f9b9c371f7f19bdf7c11f1831e2c42ac94aa89347", func := "bobbin/bobbinlaw12.LockOnce", spec := "lockOnce", unfollowed := true, recurses := true, apart := false, narrowed := true }
def LockOnceUptoSaid : Prop := lockOnceUptoRow.holds Try.pinned (OpenSpec.upto lockOnceSpec)

/-- 'bobbinlaw12.LockDrops', WHERE WHAT IT READS IS OF BULK AT MOST 1048576: true; the input reads as it did. -/
def lockDropsUptoRow : OpenClaim := { program := "ytoimfngeoiljeaa", sum := "c519d189684f2817f409408f9b9c371f7f19bdf7c11f1831e2c42ac94aa89347", func := "bobbin/bobbinlaw12.LockDrops", spec := "lockDrops", unfollowed := true, recurses := true, apart := false, narrowed := true }
def LockDropsUptoSaid : Prop := lockDropsUptoRow.holds Try.pinned (OpenSpec.upto lockDropsSpec)

end Rows
end Go.Proofs.Ytoimfngeoiljeaa
