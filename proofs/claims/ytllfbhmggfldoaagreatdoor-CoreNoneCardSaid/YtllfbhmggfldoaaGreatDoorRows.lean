/-
  NARROWER THAN 'FOR EVERY INPUT', by the rows' own cells (each row's printed sentence says how): CoreFrees: laid · CoreKeeps: laid · CoreMay: laid · CoreUndoes: laid · CoreTicks: laid · CoreScans: laid · CoreShrinks: laid · CoreNone: laid.
  DERIVED. THE GIVEN ROWS OF THIS SEAT. 8 by the template 'for every input the law returns true; each argument reads behind the call as it read before'; 0 by the template 'total and deterministic' (their statements: YtllfbhmggfldoaaGreatDoorTotals.lean).
  GIVEN WITH THE SEED: the statements are not yours to turn. If you find one false, say at which input.
  Laid BY PROGRAM, IN A SANDBOX (cutbox-rows.mjs): the forced cells as the released guide's own fill.sh prints them over the translation 2761780de10ff458… (all of the seat's roots in one cut). By AI agents, Wed Nov 11 2026. No macro, syntax, notation, axiom, sorry.
-/
import Derived.Test.YtllfbhmggfldoaaGreatDoorChecked
import GoSem.Claim
import GoSem.ClaimJoined
import GoSem.ClaimMapViews
import Derived.JoinedTies
import Derived.KernelRfl
namespace Go.Proofs.YtllfbhmggfldoaaGreatDoor
/- THE CELL 'sum', in the pinned program and in every row, IS THE sha256 OF THE DUMP (.gsa) THAT YtllfbhmggfldoaaGreatDoorProg.lean LOADS. Nothing in Lean hashes anything: it is a label: what it is worth is what the hold of that sum in a sandbox is worth. -/
noncomputable def Tryz.pinned : Pinned := { name := "ytllfbhmggfldoaagreatdoor", sum := "2761780de10ff458fa64c0e5d7c1cf4bece90c868635a56fe7c94f9702e8c684", checked := Tryz.checked }
namespace Rows
def none {H : Type} : Left H := { results := [], args := [] }

/- WHAT THE LISTED PACKAGE-LEVEL VARIABLES READ AS WHEN THE CALL BEGINS. Each datum BY PROGRAM (the guide's laid-datum.mjs) off the statement by which the dump's own 'gosem.cut.vars' lays the variable. In a bare row this is a premise. The card (YtllfbhmggfldoaaGreatDoorCards.lean) ties it to the program's text. -/
def laid_bobbin_table_nowhere {H : Type} : DataW H := .agg [.lit (.int .i64 (-1)), .lit (.int .i64 0), .lit (.int .i64 0)]

/-- 'bobbinlaw19.CoreFrees': WHATEVER THE INPUT: true; the input reads as it did. -/
def coreFreesSpec : ChangeSpec := { name := "coreFrees", fn := fun _ => fun
  | [d1, d2] => { results := [.lit (.bool true)], args := [d1, d2] }
  | _ => none }
def coreFreesRow : OpenClaim := { program := "ytllfbhmggfldoaagreatdoor", sum := "2761780de10ff458fa64c0e5d7c1cf4bece90c868635a56fe7c94f9702e8c684", func := "bobbin/bobbinlaw19.CoreFrees", spec := "coreFrees", inPlace := ["slices.overlaps[int]", "slices.overlaps[bobbin/api.Tx]", "slices.overlaps[[]byte]"], unfollowed := true, recurses := true, named := ["bobbin/table.nowhere"], apart := false, laid := [("bobbin/table.nowhere", laid_bobbin_table_nowhere)] }
def CoreFreesSaid : Prop := coreFreesRow.holds Tryz.pinned (OpenSpec.ofChange coreFreesSpec)

/-- ITS FALSE NEIGHBOUR: 'it returns false'. Refute it at one input. -/
def coreFreesWrong : ChangeSpec := { name := "coreFrees", fn := fun _ => fun
  | [d1, d2] => { results := [.lit (.bool false)], args := [d1, d2] }
  | _ => none }
def CoreFreesWrongFalsely : Prop := coreFreesRow.holds Tryz.pinned (OpenSpec.ofChange coreFreesWrong)

/-- 'bobbinlaw19.CoreKeeps': WHATEVER THE INPUT: true; the input reads as it did. -/
def coreKeepsSpec : ChangeSpec := { name := "coreKeeps", fn := fun _ => fun
  | [d1, d2] => { results := [.lit (.bool true)], args := [d1, d2] }
  | _ => none }
def coreKeepsRow : OpenClaim := { program := "ytllfbhmggfldoaagreatdoor", sum := "2761780de10ff458fa64c0e5d7c1cf4bece90c868635a56fe7c94f9702e8c684", func := "bobbin/bobbinlaw19.CoreKeeps", spec := "coreKeeps", inPlace := ["slices.overlaps[int]", "slices.overlaps[bobbin/api.Tx]", "slices.overlaps[[]byte]"], unfollowed := true, recurses := true, named := ["bobbin/table.nowhere"], apart := false, laid := [("bobbin/table.nowhere", laid_bobbin_table_nowhere)] }
def CoreKeepsSaid : Prop := coreKeepsRow.holds Tryz.pinned (OpenSpec.ofChange coreKeepsSpec)

/-- ITS FALSE NEIGHBOUR: 'it returns false'. Refute it at one input. -/
def coreKeepsWrong : ChangeSpec := { name := "coreKeeps", fn := fun _ => fun
  | [d1, d2] => { results := [.lit (.bool false)], args := [d1, d2] }
  | _ => none }
def CoreKeepsWrongFalsely : Prop := coreKeepsRow.holds Tryz.pinned (OpenSpec.ofChange coreKeepsWrong)

/-- 'bobbinlaw19.CoreMay': WHATEVER THE INPUT: true; the input reads as it did. -/
def coreMaySpec : ChangeSpec := { name := "coreMay", fn := fun _ => fun
  | [d1, d2] => { results := [.lit (.bool true)], args := [d1, d2] }
  | _ => none }
def coreMayRow : OpenClaim := { program := "ytllfbhmggfldoaagreatdoor", sum := "2761780de10ff458fa64c0e5d7c1cf4bece90c868635a56fe7c94f9702e8c684", func := "bobbin/bobbinlaw19.CoreMay", spec := "coreMay", inPlace := ["slices.overlaps[int]", "slices.overlaps[bobbin/api.Tx]", "slices.overlaps[[]byte]"], unfollowed := true, recurses := true, named := ["bobbin/table.nowhere"], apart := false, laid := [("bobbin/table.nowhere", laid_bobbin_table_nowhere)] }
def CoreMaySaid : Prop := coreMayRow.holds Tryz.pinned (OpenSpec.ofChange coreMaySpec)

/-- ITS FALSE NEIGHBOUR: 'it returns false'. Refute it at one input. -/
def coreMayWrong : ChangeSpec := { name := "coreMay", fn := fun _ => fun
  | [d1, d2] => { results := [.lit (.bool false)], args := [d1, d2] }
  | _ => none }
def CoreMayWrongFalsely : Prop := coreMayRow.holds Tryz.pinned (OpenSpec.ofChange coreMayWrong)

/-- 'bobbinlaw19.CoreUndoes': WHATEVER THE INPUT: true; the input reads as it did. -/
def coreUndoesSpec : ChangeSpec := { name := "coreUndoes", fn := fun _ => fun
  | [d1, d2, d3, d4] => { results := [.lit (.bool true)], args := [d1, d2, d3, d4] }
  | _ => none }
def coreUndoesRow : OpenClaim := { program := "ytllfbhmggfldoaagreatdoor", sum := "2761780de10ff458fa64c0e5d7c1cf4bece90c868635a56fe7c94f9702e8c684", func := "bobbin/bobbinlaw19.CoreUndoes", spec := "coreUndoes", inPlace := ["slices.overlaps[int]", "slices.overlaps[bobbin/api.Tx]", "slices.overlaps[[]byte]"], unfollowed := true, recurses := true, named := ["bobbin/table.nowhere"], apart := false, laid := [("bobbin/table.nowhere", laid_bobbin_table_nowhere)] }
def CoreUndoesSaid : Prop := coreUndoesRow.holds Tryz.pinned (OpenSpec.ofChange coreUndoesSpec)

/-- ITS FALSE NEIGHBOUR: 'it returns false'. Refute it at one input. -/
def coreUndoesWrong : ChangeSpec := { name := "coreUndoes", fn := fun _ => fun
  | [d1, d2, d3, d4] => { results := [.lit (.bool false)], args := [d1, d2, d3, d4] }
  | _ => none }
def CoreUndoesWrongFalsely : Prop := coreUndoesRow.holds Tryz.pinned (OpenSpec.ofChange coreUndoesWrong)

/-- 'bobbinlaw19.CoreTicks': WHATEVER THE INPUT: true; the input reads as it did. -/
def coreTicksSpec : ChangeSpec := { name := "coreTicks", fn := fun _ => fun
  | [d1, d2, d3] => { results := [.lit (.bool true)], args := [d1, d2, d3] }
  | _ => none }
def coreTicksRow : OpenClaim := { program := "ytllfbhmggfldoaagreatdoor", sum := "2761780de10ff458fa64c0e5d7c1cf4bece90c868635a56fe7c94f9702e8c684", func := "bobbin/bobbinlaw19.CoreTicks", spec := "coreTicks", inPlace := ["slices.overlaps[int]", "slices.overlaps[bobbin/api.Tx]", "slices.overlaps[[]byte]"], unfollowed := true, recurses := true, named := ["bobbin/table.nowhere"], apart := false, laid := [("bobbin/table.nowhere", laid_bobbin_table_nowhere)] }
def CoreTicksSaid : Prop := coreTicksRow.holds Tryz.pinned (OpenSpec.ofChange coreTicksSpec)

/-- ITS FALSE NEIGHBOUR: 'it returns false'. Refute it at one input. -/
def coreTicksWrong : ChangeSpec := { name := "coreTicks", fn := fun _ => fun
  | [d1, d2, d3] => { results := [.lit (.bool false)], args := [d1, d2, d3] }
  | _ => none }
def CoreTicksWrongFalsely : Prop := coreTicksRow.holds Tryz.pinned (OpenSpec.ofChange coreTicksWrong)

/-- 'bobbinlaw19.CoreScans': WHATEVER THE INPUT: true; the input reads as it did. -/
def coreScansSpec : ChangeSpec := { name := "coreScans", fn := fun _ => fun
  | [d1, d2, d3] => { results := [.lit (.bool true)], args := [d1, d2, d3] }
  | _ => none }
def coreScansRow : OpenClaim := { program := "ytllfbhmggfldoaagreatdoor", sum := "2761780de10ff458fa64c0e5d7c1cf4bece90c868635a56fe7c94f9702e8c684", func := "bobbin/bobbinlaw19.CoreScans", spec := "coreScans", inPlace := ["slices.overlaps[int]", "slices.overlaps[bobbin/api.Tx]", "slices.overlaps[[]byte]"], unfollowed := true, recurses := true, named := ["bobbin/table.nowhere"], apart := false, laid := [("bobbin/table.nowhere", laid_bobbin_table_nowhere)] }
def CoreScansSaid : Prop := coreScansRow.holds Tryz.pinned (OpenSpec.ofChange coreScansSpec)

/-- ITS FALSE NEIGHBOUR: 'it returns false'. Refute it at one input. -/
def coreScansWrong : ChangeSpec := { name := "coreScans", fn := fun _ => fun
  | [d1, d2, d3] => { results := [.lit (.bool false)], args := [d1, d2, d3] }
  | _ => none }
def CoreScansWrongFalsely : Prop := coreScansRow.holds Tryz.pinned (OpenSpec.ofChange coreScansWrong)

/-- 'bobbinlaw19.CoreShrinks': WHATEVER THE INPUT: true; the input reads as it did. -/
def coreShrinksSpec : ChangeSpec := { name := "coreShrinks", fn := fun _ => fun
  | [d1, d2, d3] => { results := [.lit (.bool true)], args := [d1, d2, d3] }
  | _ => none }
def coreShrinksRow : OpenClaim := { program := "ytllfbhmggfldoaagreatdoor", sum := "2761780de10ff458fa64c0e5d7c1cf4bece90c868635a56fe7c94f9702e8c684", func := "bobbin/bobbinlaw19.CoreShrinks", spec := "coreShrinks", inPlace := ["slices.overlaps[int]", "slices.overlaps[bobbin/api.Tx]", "slices.overlaps[[]byte]"], unfollowed := true, recurses := true, named := ["bobbin/table.nowhere"], apart := false, laid := [("bobbin/table.nowhere", laid_bobbin_table_nowhere)] }
def CoreShrinksSaid : Prop := coreShrinksRow.holds Tryz.pinned (OpenSpec.ofChange coreShrinksSpec)

/-- ITS FALSE NEIGHBOUR: 'it returns false'. Refute it at one input. -/
def coreShrinksWrong : ChangeSpec := { name := "coreShrinks", fn := fun _ => fun
  | [d1, d2, d3] => { results := [.lit (.bool false)], args := [d1, d2, d3] }
  | _ => none }
def CoreShrinksWrongFalsely : Prop := coreShrinksRow.holds Tryz.pinned (OpenSpec.ofChange coreShrinksWrong)

/-- 'bobbinlaw19.CoreNone': WHATEVER THE INPUT: true; the input reads as it did. -/
def coreNoneSpec : ChangeSpec := { name := "coreNone", fn := fun _ => fun
  | [d1, d2, d3] => { results := [.lit (.bool true)], args := [d1, d2, d3] }
  | _ => none }
def coreNoneRow : OpenClaim := { program := "ytllfbhmggfldoaagreatdoor", sum := "2761780de10ff458fa64c0e5d7c1cf4bece90c868635a56fe7c94f9702e8c684", func := "bobbin/bobbinlaw19.CoreNone", spec := "coreNone", inPlace := ["slices.overlaps[int]", "slices.overlaps[bobbin/api.Tx]", "slices.overlaps[[]byte]"], unfollowed := true, recurses := true, named := ["bobbin/table.nowhere"], apart := false, laid := [("bobbin/table.nowhere", laid_bobbin_table_nowhere)] }
def CoreNoneSaid : Prop := coreNoneRow.holds Tryz.pinned (OpenSpec.ofChange coreNoneSpec)

/-- ITS FALSE NEIGHBOUR: 'it returns false'. Refute it at one input. -/
def coreNoneWrong : ChangeSpec := { name := "coreNone", fn := fun _ => fun
  | [d1, d2, d3] => { results := [.lit (.bool false)], args := [d1, d2, d3] }
  | _ => none }
def CoreNoneWrongFalsely : Prop := coreNoneRow.holds Tryz.pinned (OpenSpec.ofChange coreNoneWrong)

/- THE SECOND FORM. 'bulk': how many values and letters a reading holds, each counted each time it is reached (what is shared counts as often as it is met; a slice's spare places count too). A statement '..UptoSaid' is the law's where the arguments, and the package variables that the reading takes, are together of bulk at most 1048576: NARROWER than '..Said'. Prove '..Said' where nothing that the law and all that it calls make is longer than what came in: it says more and counts as full. Else prove '..UptoSaid'. A law counts once. -/
mutual
def uptoBulk {H : Type} : DataW H → Nat
  | .lit (.string bytes) => bytes.length + 1
  | .lit _ => 1
  | .nil => 1
  | .ptr d => uptoBulk d + 1
  | .slice elems spare => uptoBulkAll elems + uptoBulkAll spare + 1
  | .agg parts => uptoBulkAll parts + 1
  | .iface _ d => uptoBulk d + 1
  | .map entries => uptoBulkEntries entries + 1
  | .held _ => 1
def uptoBulkAll {H : Type} : List (DataW H) → Nat
  | [] => 0
  | d :: r => uptoBulk d + uptoBulkAll r
def uptoBulkEntries {H : Type} : List (Lit × DataW H) → Nat
  | [] => 0
  | x :: r => uptoBulkEntry x + uptoBulkEntries r
def uptoBulkEntry {H : Type} : Lit × DataW H → Nat
  | (.string bytes, d) => bytes.length + uptoBulk d + 1
  | (_, d) => uptoBulk d + 1
 end
def uptoSmall : (H : Type) → List (DataW H) → Bool := fun _ ds => decide (uptoBulkAll ds ≤ 1048576)
def OpenSpec.upto (s : _root_.Go.ChangeSpec) : _root_.Go.OpenSpec := { _root_.Go.OpenSpec.ofChange s with cond := some uptoSmall }

/-- 'bobbinlaw19.CoreFrees', WHERE WHAT IT READS IS OF BULK AT MOST 1048576: true; the input reads as it did. -/
def coreFreesUptoRow : OpenClaim := { program := "ytllfbhmggfldoaagreatdoor", sum := "2761780de10ff458fa64c0e5d7c1cf4bece90c868635a56fe7c94f9702e8c684", func := "bobbin/bobbinlaw19.CoreFrees", spec := "coreFrees", inPlace := ["slices.overlaps[int]", "slices.overlaps[bobbin/api.Tx]", "slices.overlaps[[]byte]"], unfollowed := true, recurses := true, named := ["bobbin/table.nowhere"], apart := false, laid := [("bobbin/table.nowhere", laid_bobbin_table_nowhere)], narrowed := true }
def CoreFreesUptoSaid : Prop := coreFreesUptoRow.holds Tryz.pinned (OpenSpec.upto coreFreesSpec)

/-- 'bobbinlaw19.CoreKeeps', WHERE WHAT IT READS IS OF BULK AT MOST 1048576: true; the input reads as it did. -/
def coreKeepsUptoRow : OpenClaim := { program := "ytllfbhmggfldoaagreatdoor", sum := "2761780de10ff458fa64c0e5d7c1cf4bece90c868635a56fe7c94f9702e8c684", func := "bobbin/bobbinlaw19.CoreKeeps", spec := "coreKeeps", inPlace := ["slices.overlaps[int]", "slices.overlaps[bobbin/api.Tx]", "slices.overlaps[[]byte]"], unfollowed := true, recurses := true, named := ["bobbin/table.nowhere"], apart := false, laid := [("bobbin/table.nowhere", laid_bobbin_table_nowhere)], narrowed := true }
def CoreKeepsUptoSaid : Prop := coreKeepsUptoRow.holds Tryz.pinned (OpenSpec.upto coreKeepsSpec)

/-- 'bobbinlaw19.CoreMay', WHERE WHAT IT READS IS OF BULK AT MOST 1048576: true; the input reads as it did. -/
def coreMayUptoRow : OpenClaim := { program := "ytllfbhmggfldoaagreatdoor", sum := "2761780de10ff458fa64c0e5d7c1cf4bece90c868635a56fe7c94f9702e8c684", func := "bobbin/bobbinlaw19.CoreMay", spec := "coreMay", inPlace := ["slices.overlaps[int]", "slices.overlaps[bobbin/api.Tx]", "slices.overlaps[[]byte]"], unfollowed := true, recurses := true, named := ["bobbin/table.nowhere"], apart := false, laid := [("bobbin/table.nowhere", laid_bobbin_table_nowhere)], narrowed := true }
def CoreMayUptoSaid : Prop := coreMayUptoRow.holds Tryz.pinned (OpenSpec.upto coreMaySpec)

/-- 'bobbinlaw19.CoreUndoes', WHERE WHAT IT READS IS OF BULK AT MOST 1048576: true; the input reads as it did. -/
def coreUndoesUptoRow : OpenClaim := { program := "ytllfbhmggfldoaagreatdoor", sum := "2761780de10ff458fa64c0e5d7c1cf4bece90c868635a56fe7c94f9702e8c684", func := "bobbin/bobbinlaw19.CoreUndoes", spec := "coreUndoes", inPlace := ["slices.overlaps[int]", "slices.overlaps[bobbin/api.Tx]", "slices.overlaps[[]byte]"], unfollowed := true, recurses := true, named := ["bobbin/table.nowhere"], apart := false, laid := [("bobbin/table.nowhere", laid_bobbin_table_nowhere)], narrowed := true }
def CoreUndoesUptoSaid : Prop := coreUndoesUptoRow.holds Tryz.pinned (OpenSpec.upto coreUndoesSpec)

/-- 'bobbinlaw19.CoreTicks', WHERE WHAT IT READS IS OF BULK AT MOST 1048576: true; the input reads as it did. -/
def coreTicksUptoRow : OpenClaim := { program := "ytllfbhmggfldoaagreatdoor", sum := "2761780de10ff458fa64c0e5d7c1cf4bece90c868635a56fe7c94f9702e8c684", func := "bobbin/bobbinlaw19.CoreTicks", spec := "coreTicks", inPlace := ["slices.overlaps[int]", "slices.overlaps[bobbin/api.Tx]", "slices.overlaps[[]byte]"], unfollowed := true, recurses := true, named := ["bobbin/table.nowhere"], apart := false, laid := [("bobbin/table.nowhere", laid_bobbin_table_nowhere)], narrowed := true }
def CoreTicksUptoSaid : Prop := coreTicksUptoRow.holds Tryz.pinned (OpenSpec.upto coreTicksSpec)

/-- 'bobbinlaw19.CoreScans', WHERE WHAT IT READS IS OF BULK AT MOST 1048576: true; the input reads as it did. -/
def coreScansUptoRow : OpenClaim := { program := "ytllfbhmggfldoaagreatdoor", sum := "2761780de10ff458fa64c0e5d7c1cf4bece90c868635a56fe7c94f9702e8c684", func := "bobbin/bobbinlaw19.CoreScans", spec := "coreScans", inPlace := ["slices.overlaps[int]", "slices.overlaps[bobbin/api.Tx]", "slices.overlaps[[]byte]"], unfollowed := true, recurses := true, named := ["bobbin/table.nowhere"], apart := false, laid := [("bobbin/table.nowhere", laid_bobbin_table_nowhere)], narrowed := true }
def CoreScansUptoSaid : Prop := coreScansUptoRow.holds Tryz.pinned (OpenSpec.upto coreScansSpec)

/-- 'bobbinlaw19.CoreShrinks', WHERE WHAT IT READS IS OF BULK AT MOST 1048576: true; the input reads as it did. -/
def coreShrinksUptoRow : OpenClaim := { program := "ytllfbhmggfldoaagreatdoor", sum := "2761780de10ff458fa64c0e5d7c1cf4bece90c868635a56fe7c94f9702e8c684", func := "bobbin/bobbinlaw19.CoreShrinks", spec := "coreShrinks", inPlace := ["slices.overlaps[int]", "slices.overlaps[bobbin/api.Tx]", "slices.overlaps[[]byte]"], unfollowed := true, recurses := true, named := ["bobbin/table.nowhere"], apart := false, laid := [("bobbin/table.nowhere", laid_bobbin_table_nowhere)], narrowed := true }
def CoreShrinksUptoSaid : Prop := coreShrinksUptoRow.holds Tryz.pinned (OpenSpec.upto coreShrinksSpec)

/-- 'bobbinlaw19.CoreNone', WHERE WHAT IT READS IS OF BULK AT MOST 1048576: true; the input reads as it did. -/
def coreNoneUptoRow : OpenClaim := { program := "ytllfbhmggfldoaagreatdoor", sum := "2761780de10ff458fa64c0e5d7c1cf4bece90c868635a56fe7c94f9702e8c684", func := "bobbin/bobbinlaw19.CoreNone", spec := "coreNone", inPlace := ["slices.overlaps[int]", "slices.overlaps[bobbin/api.Tx]", "slices.overlaps[[]byte]"], unfollowed := true, recurses := true, named := ["bobbin/table.nowhere"], apart := false, laid := [("bobbin/table.nowhere", laid_bobbin_table_nowhere)], narrowed := true }
def CoreNoneUptoSaid : Prop := coreNoneUptoRow.holds Tryz.pinned (OpenSpec.upto coreNoneSpec)

end Rows
end Go.Proofs.YtllfbhmggfldoaaGreatDoor
