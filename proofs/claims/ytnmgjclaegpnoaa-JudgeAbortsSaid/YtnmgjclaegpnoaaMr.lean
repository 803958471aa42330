/- The statement JudgeAborts: of whatever history the law returns true, and the history reads as it did. No condition. -/
import Derived.Test.YtnmgjclaegpnoaaM5
namespace Go.Proofs.Ytnmgjclaegpnoaa
open Go Go.Lv Go.ChangeShapes Go.WideShapes Go.ChangeAt Go.RowKit
set_option linter.unusedVariables false

set_option maxRecDepth 100000 in
theorem judgeAborts_lifted (os : Os) (started : os.Started) (H : Type) (enc : TypeId × Value → H) :
    ReturnsInHanded {} Try.checked os 3 .any (Rows.judgeAbortsSpec.pre6 enc Try.prog Try.f3 Rows.judgeAbortsRow.domain false) (Rows.judgeAbortsSpec.post enc Try.prog Try.f3 false true false false) := by
  refine law_handed (C := Try.checked) (tb := 4) Try.own started (by kernel_rfl) Try.func3
    (ChangeSpec.witness6 (enc := enc) (C := Try.checked) false ⟨#[], #[.slice none 0 0], []⟩ 8 (by kernel_rfl) (by kernel_rfl) (by kernel_rfl) (by kernel_rfl))
    ⟨_, Try.func3, by kernel_rfl, by kernel_rfl⟩ Try.laidOut (by kernel_rfl) rfl (by kernel_rfl) (by kernel_rfl) (fun ds hd => ?_) ?_
  · match ds, hd with
    | [d1], _ => rfl
  · intro W base args ds ps hval0 hA0
    have hval : ∀ (j : Nat) t v, Try.f3.params[j]? = some t → args[j]? = some v → Value.okWide Try.prog W .any base t v := hval0
    have hA : DataW.TrodAll enc Try.prog W 0 (fun _ => true) true Try.f3.params.toList args.toList ds ps := hA0
    rw [Try.params3] at hA hval
    obtain ⟨v0, d0, rfl, rfl, h0⟩ := trodAll_one hA
    obtain ⟨f, l, hl⟩ := open_evs (fun _ => rfl) (hval 0 22 v0 rfl rfl) h0
    refine ⟨[evsL f l], Rs.cons hl (Rs.nil _), ?_⟩
    exact (lawAborts_lv f l noH).mono fun x H' hx => hx.1

theorem judgeAborts_holds : Rows.JudgeAbortsSaid :=
  OpenClaim.holds_of_wide 3 Try.f3 rfl rfl rfl rfl rfl rfl rfl ⟨rfl, rfl, rfl, rfl, rfl⟩ rfl rfl rfl rfl rfl (by kernel_rfl) Try.func3 (by kernel_rfl)
    (of_decide_eq_true (by kernel_rfl)) (by unfold Func.isWrapper; first | (rw [if_pos (by decide +kernel)]; kernel_rfl) | (rw [if_neg (by decide +kernel)]; exact ⟨rfl, rfl⟩))
    (fun os started H enc _ => judgeAborts_lifted os started H enc)
end Go.Proofs.Ytnmgjclaegpnoaa
#print axioms Go.Proofs.Ytnmgjclaegpnoaa.judgeAborts_holds
