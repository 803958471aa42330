/- The statement LockSafe: whatever comes in the law returns true, and its arguments read as they did. No condition. -/
import Derived.Test.YtoimfngeoiljeaaLr0
import Derived.Test.YtoimfngeoiljeaaLe5
namespace Go.Proofs.Ytoimfngeoiljeaa
open Go Go.Lv Go.ChangeShapes Go.WideShapes Go.ChangeAt Go.RowKit
set_option linter.unusedVariables false

set_option maxRecDepth 100000 in
theorem lockSafe_lifted (os : Os) (started : os.Started) (H : Type) (enc : TypeId × Value → H) :
    ReturnsInHanded {} Try.checked os 7 .any (Rows.lockSafeSpec.pre6 enc Try.prog Try.f7 Rows.lockSafeRow.domain false) (Rows.lockSafeSpec.post enc Try.prog Try.f7 false true false false) := by
  refine law_handed (C := Try.checked) (tb := 4) Try.own started (by kernel_rfl) Try.func7
    (ChangeSpec.witness6 (enc := enc) (C := Try.checked) false ⟨#[], #[.slice none 0 0], []⟩ 8 (by kernel_rfl) (by kernel_rfl) (by kernel_rfl) (by kernel_rfl))
    Try.laidOut (by kernel_rfl) rfl (by kernel_rfl) (by kernel_rfl) (fun ds hd => ?_) ?_
  · match ds, hd with
    | [d0], _ => rfl
  · intro W base args ds ps hval0 hA0
    have hval : ∀ (j : Nat) t v, Try.f7.params[j]? = some t → args[j]? = some v → Value.okWide Try.prog W .any base t v := hval0
    have hA : DataW.TrodAll enc Try.prog W 0 (fun _ => true) true Try.f7.params.toList args.toList ds ps := hA0
    rw [Try.params7] at hA hval
    obtain ⟨v0, d0, rfl, rfl, h0⟩ := trodAll_one hA
    obtain ⟨f, l, hl, hok⟩ := open_helds (hval 0 24 v0 rfl rfl) h0
    refine ⟨[heldsL f l], (Rs.cons hl (Rs.nil _)), ?_⟩
    exact (lawSafe_lv f l noH).mono fun x H' hx => hx.1

theorem lockSafe_holds : Rows.LockSafeSaid :=
  OpenClaim.holds_of_wide 7 Try.f7 rfl rfl rfl rfl rfl rfl rfl ⟨rfl, rfl, rfl, rfl, rfl⟩ rfl rfl rfl rfl rfl (by kernel_rfl) Try.func7 (by kernel_rfl)
    (of_decide_eq_true (by kernel_rfl)) (by unfold Func.isWrapper; first | (rw [if_pos (by decide +kernel)]; kernel_rfl) | (rw [if_neg (by decide +kernel)]; exact ⟨rfl, rfl⟩))
    (fun os started H enc _ => lockSafe_lifted os started H enc)
end Go.Proofs.Ytoimfngeoiljeaa
#print axioms Go.Proofs.Ytoimfngeoiljeaa.lockSafe_holds
