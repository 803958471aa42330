/- The laws' walks: LockMore. -/
import Derived.Test.YtoimfngeoiljeaaLe5
namespace Go.Lv
open Go Go.Proofs
set_option maxRecDepth 10000
set_option linter.unusedSimpArgs false
set_option linter.unusedVariables false

theorem lawMore_lv (f : Bool) (l : List Held) (tx res mode more : Int) (H : OHeap) : CallL Try.prog 5 [heldsL f l, i64 tx, i64 res, i64 mode, i64 more] H fun x H' => x = .bool true ∧ H' = H := by
  refine CallL.of_vc (n := 5) tok Try.func5 (c := _) rfl (by kernel_rfl) rfl ?_
  simp -implicitDefEqProofs
  refine CallL.ret (awake_lv H) ?_
  simp -implicitDefEqProofs [heldsL]
  refine ⟨fun h => Ends.of ⟨rfl, rfl⟩, fun h => ⟨fun h' => Ends.of ⟨rfl, rfl⟩, fun h' => ⟨fun h'' => Ends.of ⟨rfl, rfl⟩, fun h'' => ?_⟩⟩⟩
  simp only [decide_eq_false_iff_not] at h
  have hl : l.length ≤ 100 := by omega
  refine (blockers_lv f l tx res mode H (by omega)).mono fun x H' hx => ?_
  obtain ⟨⟨f1, rfl⟩, rfl⟩ := hx
  simp -implicitDefEqProofs
  refine (blockers_lv f l tx res _ H' (by omega)).mono fun x H'' hx => ?_
  obtain ⟨⟨f2, rfl⟩, rfl⟩ := hx
  have hal := gBlockers_len l tx res mode
  have hbl := gBlockers_len l tx res (bits .or .i64 mode more)
  have hrise := gBlockers_rise l tx res mode
  have hin : ∀ y ∈ gBlockers l tx res mode, y ∈ gBlockers l tx res (bits .or .i64 mode more) ∧ ¬ y = tx ∧ ¬ gHolds l y res = 0 := fun y hy => by
    obtain ⟨h, h1, h2, h3, h4, rfl⟩ := mem_gBlockers.1 hy
    refine ⟨mem_gBlockers.2 ⟨h, h1, h2, h3, ?_, rfl⟩, h2, ?_⟩
    · have := gClash_bor h.mode mode more
      rw [h4, Bool.true_or] at this; exact this
    · have := clash_holds_ne h1 h4
      rw [h3] at this; exact this
  generalize gBlockers l tx res mode = a at hal hrise hin
  generalize gBlockers l tx res (bits .or .i64 mode more) = b at hbl hin
  simp -implicitDefEqProofs
  refine WP.loopG (σ := Nat) (fun k e B H' => H' = H'' ∧ k ≤ a.length ∧ e 0 = heldsL f l ∧ e 1 = i64 tx ∧ e 2 = i64 res ∧ e 12 = intsL f1 a ∧ e 13 = intsL f2 b ∧ e 14 = i64 k) (fun k => a.length - k) 0 ?_ ?_
  · simp [heldsL]
  · rintro k e B H' ⟨rfl, hk, h0, h1, h2, h12, h13, h14⟩
    refine vc_sound tok _ _ _ _ _ ?_
    rcases Nat.lt_or_ge k a.length with hlt | hge
    · have hw : IntKind.i64.wrap ((k : Int) + 1) = ((k + 1 : Nat) : Int) := by rw [wrap64 (by omega) (by omega)]; omega
      obtain ⟨hi1, hi2, hi3⟩ := hin a[k] (List.getElem_mem hlt)
      simp -implicitDefEqProofs [h0, h1, h2, h12, h13, h14, intsL, hlt]
      refine WP.loopG (σ := Nat) (fun j e B H'' => H'' = H' ∧ j ≤ b.length ∧ e 0 = heldsL f l ∧ e 1 = i64 tx ∧ e 2 = i64 res ∧ e 12 = intsL f1 a ∧ e 13 = intsL f2 b ∧ e 14 = i64 k ∧ e 15 = .bool (decide (a[k] ∈ b.take j)) ∧ e 16 = i64 j) (fun j => b.length - j) 0 ?_ ?_
      · simp [h0, h1, h2, h12, h13, h14, intsL]
      · clear h0 h1 h2 h12 h13 h14
        rintro j e B H'' ⟨rfl, hj, h0, h1, h2, h12, h13, h14, h15, h16⟩
        refine vc_sound tok _ _ _ _ _ ?_
        rcases Nat.lt_or_ge j b.length with hjt | hjge
        · have hwj : IntKind.i64.wrap ((j : Int) + 1) = ((j + 1 : Nat) : Int) := by rw [wrap64 (by omega) (by omega)]; omega
          have ht : decide (a[k] ∈ b.take (j + 1)) = (decide (a[k] ∈ b.take j) || decide (b[j] = a[k])) := by
            rw [List.take_add_one, List.getElem?_eq_getElem hjt, Bool.eq_iff_iff, Bool.or_eq_true, decide_eq_true_iff, decide_eq_true_iff, decide_eq_true_iff, List.mem_append]
            have : a[k] ∈ (some b[j]).toList ↔ b[j] = a[k] := by simp only [Option.toList_some, List.mem_singleton]; exact eq_comm
            rw [this]
          simp -implicitDefEqProofs [h0, h1, h2, h12, h13, h14, h15, h16, intsL, hjt]
          refine WP.draws tok mixed [(0, []), (1, []), (2, []), (3, []), (4, []), (5, []), (6, []), (7, []), (8, []), (9, []), (10, []), (11, []), (12, [])] [0, 1, 3, 3, 15, 31, 3, 3, 195, 451, 1023, 2047, 4095] 4095 [] (by kernel_rfl) ?_
          simp -implicitDefEqProofs [h0, h1, h2, h12, h13, h14, h15, h16, intsL, hjt, hlt]
          refine ⟨fun hi => ?_, fun hi => ?_⟩
          · refine Next.of (j + 1) (by omega) ?_
            rw [hi, Bool.true_or] at ht
            simp [h0, h1, h2, h12, h13, h14, intsL, hwj, ht]
            omega
          · refine Next.of (j + 1) (by omega) ?_
            rw [hi, Bool.false_or] at ht
            simp [h0, h1, h2, h12, h13, h14, intsL, hwj, ht]
            omega
        · have hn : ¬ j < b.length := by omega
          have hall : decide (a[k] ∈ b.take j) = true := by rw [List.take_of_length_le hjge]; simpa using hi1
          rw [hall] at h15
          simp -implicitDefEqProofs [h0, h1, h2, h12, h13, h14, h15, h16, intsL, hn]
          refine WP.draws tok mixed [(0, []), (1, []), (2, []), (3, []), (4, []), (5, []), (6, []), (7, []), (8, []), (9, []), (10, []), (11, []), (12, []), (13, []), (14, []), (15, []), (16, []), (17, []), (18, []), (19, []), (20, []), (21, []), (22, []), (23, []), (24, []), (25, []), (26, []), (27, []), (28, []), (29, []), (30, []), (31, []), (32, []), (33, []), (34, []), (35, [])] [0, 1, 3, 7, 7, 31, 63, 7, 255, 511, 1023, 2047, 2047, 2047, 14335, 30719, 2047, 131071, 262143, 524287, 1048575, 2097151, 4194303, 8388607, 16777215, 16777215, 67108863, 134217727, 16777215, 16777215, 553648127, 1895825407, 4043309055, 8589934591, 17179869183, 34359738367] 68719345663 [] (by kernel_rfl) ?_
          simp -implicitDefEqProofs [h0, h1, h2, h12, h13, h14, h15, h16, intsL, hlt, hi2]
          refine CallL.ret (holds_lv _ _ _ _ _ (by omega)) ?_
          by_cases hk0 : k = 0
          · subst hk0
            have hw1 : IntKind.i64.wrap 1 = 1 := wrap64 (by omega) (by omega)
            simp -implicitDefEqProofs [h0, h1, h2, h12, h13, h14, h15, h16, intsL, hlt, hi2, hi3]
            refine Next.of 1 (by omega) ?_
            simp [h0, h1, h2, h12, h13, hw1, intsL]
            omega
          · have hp : (0 : Int) < (k : Int) := by omega
            have hp' : 0 < k := by omega
            have hq : IntKind.i64.wrap ((k : Int) - 1) = ((k - 1 : Nat) : Int) := by rw [wrap64 (by omega) (by omega)]; omega
            have hk1 : k - 1 < a.length := by omega
            have hr : ¬ a[k] ≤ a[k - 1] := by have := List.pairwise_iff_getElem.1 hrise (k - 1) k hk1 hlt (by omega); omega
            simp -implicitDefEqProofs [h0, h1, h2, h12, h13, h14, h15, h16, intsL, hlt, hi2, hi3, hp, hp', hq, hk1, hr]
            refine Next.of (k + 1) (by omega) ?_
            simp [h0, h1, h2, h12, h13, hw, intsL]
            omega
    · have hn : ¬ k < a.length := by omega
      simp -implicitDefEqProofs [h0, h1, h2, h12, h13, h14, intsL, hn]
      exact Ends.of ⟨rfl, rfl⟩
end Go.Lv
