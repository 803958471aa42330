/- The statement LockClash: of whatever two whole numbers the law returns true. -/
import Derived.Test.YtoimfngeoiljeaaLp1
import Derived.Test.YtoimfngeoiljeaaLvX
import Derived.Test.YtoimfngeoiljeaaRows
namespace Go.Proofs.Ytoimfngeoiljeaa
open Go Go.Lv Go.ChangeShapes Go.WideShapes Go.ChangeAt Go.RowKit

theorem Try.own : ownKnob Try.prog.godebug = none := by kernel_rfl
theorem Try.laidOut : laidOutB Try.prog = true := by kernel_rfl

theorem inI_wf {n : Int} (h : (Lit.int .i64 n).wf = true) : inI n := by
  simp [Lit.wf, IntKind.min, IntKind.max, IntKind.signed, IntKind.bits] at h
  unfold inI; omega

set_option maxRecDepth 100000 in
theorem lockClash_lifted (os : Os) (started : os.Started) (H : Type) (enc : TypeId × Value → H) :
    ReturnsInHanded {} Try.checked os 3 .any (Rows.lockClashSpec.pre6 enc Try.prog Try.f3 Rows.lockClashRow.domain false) (Rows.lockClashSpec.post enc Try.prog Try.f3 false true false false) := by
  refine law_handed (C := Try.checked) (tb := 4) Try.own started (by kernel_rfl) Try.func3
    (ChangeSpec.witness6 (enc := enc) (C := Try.checked) false ⟨#[], #[.int .i64 0, .int .i64 0], []⟩ 8 (by kernel_rfl) (by kernel_rfl) (by kernel_rfl) (by kernel_rfl))
    Try.laidOut (by kernel_rfl) rfl (by kernel_rfl) (by kernel_rfl) (fun ds hd => ?_) ?_
  · match ds, hd with
    | [d1, d2], _ => rfl
  · intro W base args ds ps hval0 hA0
    have hval : ∀ (j : Nat) t v, Try.f3.params[j]? = some t → args[j]? = some v → Value.okWide Try.prog W .any base t v := hval0
    have hA : DataW.TrodAll enc Try.prog W 0 (fun _ => true) true Try.f3.params.toList args.toList ds ps := hA0
    rw [Try.params3] at hA hval
    obtain ⟨v0, v1, d0, d1, p0, p1, rfl, rfl, rfl, h0, h1⟩ := trodAll_two hA
    obtain ⟨a, rfl, rfl, rfl, wa⟩ := open_int Try.underlying3 (hval 0 3 v0 rfl rfl) h0
    obtain ⟨b, rfl, rfl, rfl, wb⟩ := open_int Try.underlying3 (hval 1 3 v1 rfl rfl) h1
    refine ⟨[i64 a, i64 b], Rs.cons (.int _ _) (Rs.cons (.int _ _) (Rs.nil _)), ?_⟩
    refine (lawClash_lv a b (inI_wf wa) (inI_wf wb) noH).mono fun x H' hx => ?_
    rw [hx.1, lawClash_true a b (inI_wf wa) (inI_wf wb)]

theorem lockClash_holds : Rows.LockClashSaid :=
  OpenClaim.holds_of_wide 3 Try.f3 rfl rfl rfl rfl rfl rfl rfl ⟨rfl, rfl, rfl, rfl, rfl⟩ rfl rfl rfl rfl rfl (by kernel_rfl) Try.func3 (by kernel_rfl)
    (of_decide_eq_true (by kernel_rfl)) (by unfold Func.isWrapper; first | (rw [if_pos (by decide +kernel)]; kernel_rfl) | (rw [if_neg (by decide +kernel)]; exact ⟨rfl, rfl⟩))
    (fun os started H enc _ => lockClash_lifted os started H enc)
end Go.Proofs.Ytoimfngeoiljeaa
#print axioms Go.Proofs.Ytoimfngeoiljeaa.lockClash_holds
