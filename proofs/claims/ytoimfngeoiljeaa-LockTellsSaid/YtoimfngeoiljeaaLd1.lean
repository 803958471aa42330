/- Contracts of bobbinref12. -/
import Derived.Test.YtoimfngeoiljeaaLc9
namespace Go.Lv
open Go Go.Proofs
set_option maxRecDepth 10000
set_option linter.unusedSimpArgs false

def inI (a : Int) : Prop := -9223372036854775808 ≤ a ∧ a ≤ 9223372036854775807
def rN (a : Int) : Int := if a < 0 then a + 9223372036854775808 else a
def rHas (a : Int) (J : Nat) : Bool := decide ((rN a / 2 ^ J) % 2 = 1)

theorem rhas_lv (a : Int) (J : Nat) (hJ : J ≤ 3) (ha : inI a) (H : OHeap) : CallL Try.prog 33 [i64 a, i64 (2 ^ J)] H fun x H' => x = .bool (rHas a J) ∧ H' = H := by
  obtain ⟨ha1, ha2⟩ := ha
  have hN : 0 ≤ rN a ∧ rN a ≤ 9223372036854775807 := by unfold rN; split <;> omega
  have hJ2 : (2 : Int) ^ J ≤ 8 := by
    have : J = 0 ∨ J = 1 ∨ J = 2 ∨ J = 3 := by omega
    rcases this with rfl | rfl | rfl | rfl <;> decide
  refine CallL.of_vc (n := 2) tok Try.func33 (c := _) rfl (by kernel_rfl) rfl ?_
  rcases (show a < 0 ∨ 0 ≤ a by omega) with h | h
  case' inl =>
    have e0 : IntKind.i64.wrap (a + 4611686018427387904) = a + 4611686018427387904 := wrap64 (by omega) (by omega)
    have e1 : IntKind.i64.wrap (a + 4611686018427387904 + 4611686018427387904) = rN a := by rw [wrap64 (by omega) (by omega)]; unfold rN; rw [if_pos h]; omega
    have e2 : ¬ rN a < 0 := by omega
    simp -implicitDefEqProofs [h, e0, e1, e2]
  case' inr =>
    have e1 : rN a = a := by unfold rN; rw [if_neg (by omega)]
    have e2 : ¬ a < 0 := by omega
    simp -implicitDefEqProofs [e2]
    rw [e1] at hN
  all_goals
    refine WP.loopG (σ := Int × Nat) (fun s e B H' => H' = H ∧ s.2 ≤ J ∧ 0 ≤ s.1 ∧ s.1 ≤ 9223372036854775807 ∧ s.1 / 2 ^ (J - s.2) = rN a / 2 ^ J ∧ e 1 = i64 (2 ^ J) ∧ e 5 = i64 s.1 ∧ e 6 = i64 (2 ^ s.2)) (fun s => J - s.2) (rN a, 0) ?_ ?_
    · simp [hN, e1]
    · rintro ⟨n, j⟩ e B H' ⟨rfl, hj, hn0, hn1, hq, h1, h5, h6⟩
      simp only [] at hj hn0 hn1 hq h5 h6
      refine vc_sound tok _ _ _ _ _ ?_
      rcases Nat.lt_or_ge j J with hlt | hge
      · have hp : (2 : Int) ^ j < 2 ^ J := Int.pow_lt_pow_of_lt (by decide) hlt
        have hp0 : (0 : Int) < 2 ^ j := Int.pow_pos (by decide)
        have e3 : IntKind.i64.wrap (n.tdiv 2) = n / 2 := by rw [Int.tdiv_eq_ediv_of_nonneg hn0, wrap64 (by omega) (by omega)]
        have e4 : IntKind.i64.wrap (2 ^ j * 2) = 2 ^ (j + 1) := by rw [Int.pow_succ, wrap64 (by omega) (by omega)]
        simp -implicitDefEqProofs [h1, h5, h6, hp]
        refine Next.of (n / 2, j + 1) (by simp only []; omega) ?_
        have e5 : n / 2 / 2 ^ (J - (j + 1)) = rN a / 2 ^ J := by
          rw [← hq, show J - j = (J - (j + 1)) + 1 by omega, Int.pow_succ, Int.mul_comm, Int.ediv_ediv_of_nonneg (by decide)]
        simp [h1, e3, e4, e5]
        omega
      · have hjJ : j = J := by omega
        subst hjJ
        simp at hq
        simp -implicitDefEqProofs [h1, h5, h6]
        refine Ends.of ⟨?_, rfl⟩
        unfold rHas
        rw [← hq, Int.tmod_eq_emod_of_nonneg hn0]

theorem rhas1 (a : Int) (ha : inI a) (H : OHeap) : CallL Try.prog 33 [i64 a, i64 1] H fun x H' => x = .bool (rHas a 0) ∧ H' = H := rhas_lv a 0 (by decide) ha H
theorem rhas2 (a : Int) (ha : inI a) (H : OHeap) : CallL Try.prog 33 [i64 a, i64 2] H fun x H' => x = .bool (rHas a 1) ∧ H' = H := rhas_lv a 1 (by decide) ha H
theorem rhas4 (a : Int) (ha : inI a) (H : OHeap) : CallL Try.prog 33 [i64 a, i64 4] H fun x H' => x = .bool (rHas a 2) ∧ H' = H := rhas_lv a 2 (by decide) ha H
theorem rhas8 (a : Int) (ha : inI a) (H : OHeap) : CallL Try.prog 33 [i64 a, i64 8] H fun x H' => x = .bool (rHas a 3) ∧ H' = H := rhas_lv a 3 (by decide) ha H

def rOne (a b : Int) : Bool := (rHas a 1 && (rHas b 0 || rHas b 1)) || (rHas a 2 && rHas b 3)
theorem rone_lv (a b : Int) (ha : inI a) (hb : inI b) (H : OHeap) : CallL Try.prog 26 [i64 a, i64 b] H fun x H' => x = .bool (rOne a b) ∧ H' = H := by
  refine CallL.of_vc (n := 2) tok Try.func26 (c := _) rfl (by kernel_rfl) rfl ?_
  simp -implicitDefEqProofs
  have last : ∀ (c : Bool), c = (rHas a 2 && rHas b 3) → True := fun _ _ => trivial
  refine CallL.ret (rhas2 a ha H) ?_
  cases h1 : rHas a 1
  · simp -implicitDefEqProofs
    refine CallL.ret (rhas4 a ha H) ?_
    cases h2 : rHas a 2
    · simp -implicitDefEqProofs
      exact Ends.of ⟨by simp [rOne, h1, h2], rfl⟩
    · simp -implicitDefEqProofs
      refine CallL.ret (rhas8 b hb H) ?_
      simp -implicitDefEqProofs
      exact Ends.of ⟨by simp [rOne, h1, h2], rfl⟩
  · simp -implicitDefEqProofs
    refine CallL.ret (rhas1 b hb H) ?_
    cases h3 : rHas b 0
    · simp -implicitDefEqProofs
      refine CallL.ret (rhas2 b hb H) ?_
      cases h4 : rHas b 1
      · simp -implicitDefEqProofs
        refine CallL.ret (rhas4 a ha H) ?_
        cases h2 : rHas a 2
        · simp -implicitDefEqProofs
          exact Ends.of ⟨by simp [rOne, h1, h2, h3, h4], rfl⟩
        · simp -implicitDefEqProofs
          refine CallL.ret (rhas8 b hb H) ?_
          simp -implicitDefEqProofs
          exact Ends.of ⟨by simp [rOne, h1, h2, h3, h4], rfl⟩
      · simp -implicitDefEqProofs
        exact Ends.of ⟨by simp [rOne, h1, h3, h4], rfl⟩
    · simp -implicitDefEqProofs
      exact Ends.of ⟨by simp [rOne, h1, h3], rfl⟩

def rClash (a b : Int) : Bool := rOne a b || rOne b a
theorem rclash_lv (a b : Int) (ha : inI a) (hb : inI b) (H : OHeap) : CallL Try.prog 12 [i64 a, i64 b] H fun x H' => x = .bool (rClash a b) ∧ H' = H := by
  refine CallL.of_vc (n := 2) tok Try.func12 (c := _) rfl (by kernel_rfl) rfl ?_
  simp -implicitDefEqProofs
  refine CallL.ret (rone_lv a b ha hb H) ?_
  simp -implicitDefEqProofs
  refine CallL.ret (rone_lv b a hb ha H) ?_
  simp -implicitDefEqProofs
  refine ⟨fun h => ?_, fun h => ?_⟩ <;> exact Ends.of ⟨by simp [rClash, h], rfl⟩
end Go.Lv
