/-
  No cell of these rows narrows 'for every input' (looked for: loops, veiled, ifaces, maps, wideKeys, modest, calm, conditions, laid).
  DERIVED. THE GIVEN ROWS OF THIS SEAT. 3 by the template 'for every input the law returns true; each argument reads behind the call as it read before'; 0 by the template 'total and deterministic' (their statements: YtnmgjclaegpnoaaTotals.lean).
  GIVEN WITH THE SEED: the statements are not yours to turn. If you find one false, say at which input.
  Laid BY PROGRAM, IN A SANDBOX (cutbox-rows.mjs): the forced cells as the released guide's own fill.sh prints them over the translation a9aef0e0f37bbfa9… (all of the seat's roots in one cut). By AI agents, Wed Nov 11 2026. No macro, syntax, notation, axiom, sorry.
-/
import Derived.Test.YtnmgjclaegpnoaaChecked
import GoSem.Claim
import GoSem.ClaimJoined
import GoSem.ClaimMapViews
import Derived.JoinedTies
import Derived.KernelRfl
namespace Go.Proofs.Ytnmgjclaegpnoaa
/- THE CELL 'sum', in the pinned program and in every row, IS THE sha256 OF THE DUMP (.gsa) THAT YtnmgjclaegpnoaaProg.lean LOADS. Nothing in Lean hashes anything: it is a label: what it is worth is what the hold of that sum in a sandbox is worth. -/
noncomputable def Try.pinned : Pinned := { name := "ytnmgjclaegpnoaa", sum := "a9aef0e0f37bbfa9958b8cd02dfdbbce48d2daea8f90179ac2b26c2013ffc6a6", checked := Try.checked }
namespace Rows
def none {H : Type} : Left H := { results := [], args := [] }

/-- 'bobbinlaw23.JudgeAborts': WHATEVER THE INPUT: true; the input reads as it did. -/
def judgeAbortsSpec : ChangeSpec := { name := "judgeAborts", fn := fun _ => fun
  | [d] => { results := [.lit (.bool true)], args := [d] }
  | _ => none }
def judgeAbortsRow : OpenClaim := { program := "ytnmgjclaegpnoaa", sum := "a9aef0e0f37bbfa9958b8cd02dfdbbce48d2daea8f90179ac2b26c2013ffc6a6", func := "bobbin/bobbinlaw23.JudgeAborts", spec := "judgeAborts", inPlace := ["slices.overlaps[int]", "slices.overlaps[[]byte]", "slices.overlaps[map[int]bool]"], unfollowed := true, recurses := true, apart := false }
def JudgeAbortsSaid : Prop := judgeAbortsRow.holds Try.pinned (OpenSpec.ofChange judgeAbortsSpec)

/-- ITS FALSE NEIGHBOUR: 'it returns false'. Refute it at one input. -/
def judgeAbortsWrong : ChangeSpec := { name := "judgeAborts", fn := fun _ => fun
  | [d] => { results := [.lit (.bool false)], args := [d] }
  | _ => none }
def JudgeAbortsWrongFalsely : Prop := judgeAbortsRow.holds Try.pinned (OpenSpec.ofChange judgeAbortsWrong)

/-- 'bobbinlaw23.JudgeOrder': WHATEVER THE INPUT: true; the input reads as it did. -/
def judgeOrderSpec : ChangeSpec := { name := "judgeOrder", fn := fun _ => fun
  | [d] => { results := [.lit (.bool true)], args := [d] }
  | _ => none }
def judgeOrderRow : OpenClaim := { program := "ytnmgjclaegpnoaa", sum := "a9aef0e0f37bbfa9958b8cd02dfdbbce48d2daea8f90179ac2b26c2013ffc6a6", func := "bobbin/bobbinlaw23.JudgeOrder", spec := "judgeOrder", inPlace := ["slices.overlaps[int]", "slices.overlaps[[]byte]", "slices.overlaps[map[int]bool]"], unfollowed := true, recurses := true, apart := false }
def JudgeOrderSaid : Prop := judgeOrderRow.holds Try.pinned (OpenSpec.ofChange judgeOrderSpec)

/-- ITS FALSE NEIGHBOUR: 'it returns false'. Refute it at one input. -/
def judgeOrderWrong : ChangeSpec := { name := "judgeOrder", fn := fun _ => fun
  | [d] => { results := [.lit (.bool false)], args := [d] }
  | _ => none }
def JudgeOrderWrongFalsely : Prop := judgeOrderRow.holds Try.pinned (OpenSpec.ofChange judgeOrderWrong)

/-- 'bobbinlaw23.JudgeAlone': WHATEVER THE INPUT: true; the input reads as it did. -/
def judgeAloneSpec : ChangeSpec := { name := "judgeAlone", fn := fun _ => fun
  | [d1, d2] => { results := [.lit (.bool true)], args := [d1, d2] }
  | _ => none }
def judgeAloneRow : OpenClaim := { program := "ytnmgjclaegpnoaa", sum := "a9aef0e0f37bbfa9958b8cd02dfdbbce48d2daea8f90179ac2b26c2013ffc6a6", func := "bobbin/bobbinlaw23.JudgeAlone", spec := "judgeAlone", inPlace := ["slices.overlaps[int]", "slices.overlaps[[]byte]", "slices.overlaps[map[int]bool]"], unfollowed := true, recurses := true, apart := false }
def JudgeAloneSaid : Prop := judgeAloneRow.holds Try.pinned (OpenSpec.ofChange judgeAloneSpec)

/-- ITS FALSE NEIGHBOUR: 'it returns false'. Refute it at one input. -/
def judgeAloneWrong : ChangeSpec := { name := "judgeAlone", fn := fun _ => fun
  | [d1, d2] => { results := [.lit (.bool false)], args := [d1, d2] }
  | _ => none }
def JudgeAloneWrongFalsely : Prop := judgeAloneRow.holds Try.pinned (OpenSpec.ofChange judgeAloneWrong)

/- THE SECOND FORM. 'bulk': how many values and letters a reading holds, each counted each time it is reached (what is shared counts as often as it is met; a slice's spare places count too). A statement '..UptoSaid' is the law's where the arguments, and the package variables that the reading takes, are together of bulk at most 1048576: NARROWER than '..Said'. Prove '..Said' where nothing that the law and all that it calls make is longer than what came in: it says more and counts as full. Else prove '..UptoSaid'. A law counts once. -/
mutual
def uptoBulk {H : Type} : DataW H → Nat
  | .lit (.string bytes) => bytes.length + 1
  | .lit _ => 1
  | .nil => 1
  | .ptr d => uptoBulk d + 1
  | .slice elems spare => uptoBulkAll elems + uptoBulkAll spare + 1
  | .agg parts => uptoBulkAll parts + 1
  | .iface _ d => uptoBulk d + 1
  | .map entries => uptoBulkEntries entries + 1
  | .held _ => 1
def uptoBulkAll {H : Type} : List (DataW H) → Nat
  | [] => 0
  | d :: r => uptoBulk d + uptoBulkAll r
def uptoBulkEntries {H : Type} : List (Lit × DataW H) → Nat
  | [] => 0
  | x :: r => uptoBulkEntry x + uptoBulkEntries r
def uptoBulkEntry {H : Type} : Lit × DataW H → Nat
  | (.string bytes, d) => bytes.length + uptoBulk d + 1
  | (_, d) => uptoBulk d + 1
 end
def uptoSmall : (H : Type) → List (DataW H) → Bool := fun _ ds => decide (uptoBulkAll ds ≤ 1048576)
def OpenSpec.upto (s : _root_.Go.ChangeSpec) : _root_.Go.OpenSpec := { _root_.Go.OpenSpec.ofChange s with cond := some uptoSmall }

/-- 'bobbinlaw23.JudgeAborts', WHERE WHAT IT READS IS OF BULK AT MOST 1048576: true; the input reads as it did. -/
def judgeAbortsUptoRow : OpenClaim := { program := "ytnmgjclaegpnoaa", sum := "a9aef0e0f37bbfa9958b8cd02dfdbbce48d2daea8f90179ac2b26c2013ffc6a6", func := "bobbin/bobbinlaw23.JudgeAborts", spec := "judgeAborts", inPlace := ["slices.overlaps[int]", "slices.overlaps[[]byte]", "slices.overlaps[map[int]bool]"], unfollowed := true, recurses := true, apart := false, narrowed := true }
def JudgeAbortsUptoSaid : Prop := judgeAbortsUptoRow.holds Try.pinned (OpenSpec.upto judgeAbortsSpec)

/-- 'bobbinlaw23.JudgeOrder', WHERE WHAT IT READS IS OF BULK AT MOST 1048576: true; the input reads as it did. -/
def judgeOrderUptoRow : OpenClaim := { program := "ytnmgjclaegpnoaa", sum := "a9aef0e0f37bbfa9958b8cd02dfdbbce48d2daea8f90179ac2b26c2013ffc6a6", func := "bobbin/bobbinlaw23.JudgeOrder", spec := "judgeOrder", inPlace := ["slices.overlaps[int]", "slices.overlaps[[]byte]", "slices.overlaps[map[int]bool]"], unfollowed := true, recurses := true, apart := false, narrowed := true }
def JudgeOrderUptoSaid : Prop := judgeOrderUptoRow.holds Try.pinned (OpenSpec.upto judgeOrderSpec)

/-- 'bobbinlaw23.JudgeAlone', WHERE WHAT IT READS IS OF BULK AT MOST 1048576: true; the input reads as it did. -/
def judgeAloneUptoRow : OpenClaim := { program := "ytnmgjclaegpnoaa", sum := "a9aef0e0f37bbfa9958b8cd02dfdbbce48d2daea8f90179ac2b26c2013ffc6a6", func := "bobbin/bobbinlaw23.JudgeAlone", spec := "judgeAlone", inPlace := ["slices.overlaps[int]", "slices.overlaps[[]byte]", "slices.overlaps[map[int]bool]"], unfollowed := true, recurses := true, apart := false, narrowed := true }
def JudgeAloneUptoSaid : Prop := judgeAloneUptoRow.holds Try.pinned (OpenSpec.upto judgeAloneSpec)

end Rows
end Go.Proofs.Ytnmgjclaegpnoaa
