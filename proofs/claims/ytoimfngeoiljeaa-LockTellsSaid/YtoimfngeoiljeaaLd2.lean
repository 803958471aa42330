/- Contracts of bobbinref12: Ints. -/
import Derived.Test.YtoimfngeoiljeaaLd1
namespace Go.Lv
open Go Go.Proofs
set_option maxRecDepth 10000
set_option linter.unusedSimpArgs false

theorem ints_lv (f g : Bool) (xs ys : List Int) (H : OHeap) (hx : xs.length < 2 ^ 40) (hy : ys.length < 2 ^ 40) : CallL Try.prog 13 [intsL f xs, intsL g ys] H fun x H' => x = .bool (decide (xs = ys)) ∧ H' = H := by
  refine CallL.of_vc (n := 2) tok Try.func13 (c := _) rfl (by kernel_rfl) rfl ?_
  simp -implicitDefEqProofs [intsL]
  refine ⟨fun hl => ?_, fun hl => ?_⟩
  · simp only [decide_eq_true_eq] at hl
    refine WP.loopG (σ := Nat) (fun k e B H' => H' = H ∧ k ≤ xs.length ∧ e 0 = intsL f xs ∧ e 1 = intsL g ys ∧ e 5 = i64 k ∧ xs.take k = ys.take k) (fun k => xs.length - k) 0 ?_ ?_
    · simp [intsL]
    · rintro k e B H' ⟨rfl, hk, h0, h1, h5, ht⟩
      refine vc_sound tok _ _ _ _ _ ?_
      rcases Nat.lt_or_ge k xs.length with hlt | hge
      · have hlt' : k < ys.length := by omega
        have hw : IntKind.i64.wrap ((k : Int) + 1) = ((k + 1 : Nat) : Int) := by rw [wrap64 (by omega) (by omega)]; omega
        simp -implicitDefEqProofs [h0, h1, h5, intsL, hlt]
        refine WP.draws tok mixed [(0, []), (1, []), (2, []), (3, []), (4, []), (5, []), (6, []), (7, []), (8, [])] [0, 0, 3, 7, 0, 0, 48, 112, 255] 511 [] (by kernel_rfl) ?_
        simp -implicitDefEqProofs [h0, h1, h5, intsL, hlt, hlt']
        refine ⟨fun he => ?_, fun he => ?_⟩
        · simp only [decide_eq_true_eq] at he
          refine Next.of (k + 1) (by omega) ?_
          have e1 : xs.take (k + 1) = ys.take (k + 1) := by rw [List.take_add_one, List.take_add_one, ht]; simp [hlt, hlt', he]
          simp [h0, h1, intsL, hw, e1]
          omega
        · simp only [decide_eq_false_iff_not] at he
          refine Ends.of ⟨?_, rfl⟩
          have : xs ≠ ys := fun h => by subst h; exact he rfl
          simp [this]
      · have hn : ¬ k < xs.length := by omega
        have e1 : xs = ys := by
          rw [List.take_of_length_le hge, List.take_of_length_le (by omega)] at ht; exact ht
        simp -implicitDefEqProofs [h0, h1, h5, intsL, hn]
        exact Ends.of ⟨by simp [e1], rfl⟩
  · simp only [decide_eq_false_iff_not] at hl
    refine Ends.of ⟨?_, rfl⟩
    have : xs ≠ ys := fun h => hl (by rw [h])
    simp [this]
end Go.Lv
