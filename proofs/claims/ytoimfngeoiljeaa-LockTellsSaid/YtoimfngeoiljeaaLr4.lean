/- The statement LockTells: whatever comes in the law returns true, and its arguments read as they did. No condition. -/
import Derived.Test.YtoimfngeoiljeaaLr0
import Derived.Test.YtoimfngeoiljeaaLe7
namespace Go.Proofs.Ytoimfngeoiljeaa
open Go Go.Lv Go.ChangeShapes Go.WideShapes Go.ChangeAt Go.RowKit
set_option linter.unusedVariables false

set_option maxRecDepth 100000 in
theorem lockTells_lifted (os : Os) (started : os.Started) (H : Type) (enc : TypeId × Value → H) :
    ReturnsInHanded {} Try.checked os 6 .any (Rows.lockTellsSpec.pre6 enc Try.prog Try.f6 Rows.lockTellsRow.domain false) (Rows.lockTellsSpec.post enc Try.prog Try.f6 false true false false) := by
  refine law_handed (C := Try.checked) (tb := 4) Try.own started (by kernel_rfl) Try.func6
    (ChangeSpec.witness6 (enc := enc) (C := Try.checked) false ⟨#[], #[.slice none 0 0, .int .i64 0, .int .i64 0, .int .i64 0], []⟩ 8 (by kernel_rfl) (by kernel_rfl) (by kernel_rfl) (by kernel_rfl))
    Try.laidOut (by kernel_rfl) rfl (by kernel_rfl) (by kernel_rfl) (fun ds hd => ?_) ?_
  · match ds, hd with
    | [d0, d1, d2, d3], _ => rfl
  · intro W base args ds ps hval0 hA0
    have hval : ∀ (j : Nat) t v, Try.f6.params[j]? = some t → args[j]? = some v → Value.okWide Try.prog W .any base t v := hval0
    have hA : DataW.TrodAll enc Try.prog W 0 (fun _ => true) true Try.f6.params.toList args.toList ds ps := hA0
    rw [Try.params6] at hA hval
    obtain ⟨v0, v1, v2, v3, d0, d1, d2, d3, p0, p1, p2, p3, rfl, rfl, rfl, h0, h1, h2, h3⟩ := trodAll_four hA
    obtain ⟨f, l, hl, hok⟩ := open_helds (hval 0 24 v0 rfl rfl) h0
    obtain ⟨n1, rfl, rfl, rfl, w1⟩ := open_int Try.underlying3 (hval 1 3 v1 rfl rfl) h1
    have i1 : inI n1 := inI_wf w1
    obtain ⟨n2, rfl, rfl, rfl, w2⟩ := open_int Try.underlying3 (hval 2 3 v2 rfl rfl) h2
    have i2 : inI n2 := inI_wf w2
    obtain ⟨n3, rfl, rfl, rfl, w3⟩ := open_int Try.underlying3 (hval 3 3 v3 rfl rfl) h3
    have i3 : inI n3 := inI_wf w3
    refine ⟨[heldsL f l, i64 n1, i64 n2, i64 n3], (Rs.cons hl (Rs.cons (.int _ _) (Rs.cons (.int _ _) (Rs.cons (.int _ _) (Rs.nil _))))), ?_⟩
    exact (lawTells_lv f l n1 n2 n3 hok i3 noH).mono fun x H' hx => hx.1

theorem lockTells_holds : Rows.LockTellsSaid :=
  OpenClaim.holds_of_wide 6 Try.f6 rfl rfl rfl rfl rfl rfl rfl ⟨rfl, rfl, rfl, rfl, rfl⟩ rfl rfl rfl rfl rfl (by kernel_rfl) Try.func6 (by kernel_rfl)
    (of_decide_eq_true (by kernel_rfl)) (by unfold Func.isWrapper; first | (rw [if_pos (by decide +kernel)]; kernel_rfl) | (rw [if_neg (by decide +kernel)]; exact ⟨rfl, rfl⟩))
    (fun os started H enc _ => lockTells_lifted os started H enc)
end Go.Proofs.Ytoimfngeoiljeaa
#print axioms Go.Proofs.Ytoimfngeoiljeaa.lockTells_holds
