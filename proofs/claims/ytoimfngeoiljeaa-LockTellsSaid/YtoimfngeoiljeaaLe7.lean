/- The laws' walks: LockTells. -/
import Derived.Test.YtoimfngeoiljeaaLd7
import Derived.Test.YtoimfngeoiljeaaLe1
namespace Go.Lv
open Go Go.Proofs
set_option maxRecDepth 10000
set_option linter.unusedSimpArgs false
set_option linter.unusedVariables false

theorem lawTells_lv (f : Bool) (l : List Held) (tx res mode : Int) (hok : ∀ h ∈ l, Hok h) (hmo : inI mode) (H : OHeap) : CallL Try.prog 6 [heldsL f l, i64 tx, i64 res, i64 mode] H fun x H' => x = .bool true ∧ H' = H := by
  refine CallL.of_vc (n := 4) tok Try.func6 (c := _) rfl (by kernel_rfl) rfl ?_
  simp -implicitDefEqProofs
  refine CallL.ret (awake_lv H) ?_
  simp -implicitDefEqProofs [heldsL]
  refine ⟨fun h => Ends.of ⟨rfl, rfl⟩, fun h => ?_⟩
  simp only [decide_eq_false_iff_not] at h
  have hl : l.length ≤ 100 := by omega
  have hbl := gBlockers_len l tx res mode
  have hgl := grant_len l tx res mode
  have hdl := drop_len l tx
  refine (blockers_lv f l tx res mode H (by omega)).mono fun x H' hx => ?_
  obtain ⟨⟨f1, rfl⟩, rfl⟩ := hx
  simp -implicitDefEqProofs
  refine (rblockers_lv f l tx res mode H' (by omega) hok hmo).mono fun x H'' hx => ?_
  obtain ⟨⟨f2, rfl⟩, rfl⟩ := hx
  simp -implicitDefEqProofs
  refine CallL.ret (ints_lv _ _ _ _ _ (by omega) (by omega)) ?_
  simp -implicitDefEqProofs
  refine (grant_lv f l tx res mode H'' (by omega)).mono fun x H' hx => ?_
  obtain ⟨⟨f3, rfl⟩, rfl⟩ := hx
  simp -implicitDefEqProofs
  refine (rgrant_lv f l tx res mode H' (by omega) hok hmo).mono fun x H'' hx => ?_
  obtain ⟨⟨f4, rfl⟩, rfl⟩ := hx
  simp -implicitDefEqProofs
  refine CallL.ret (rsame_lv _ _ _ _ _ (by omega) (by omega)) ?_
  simp -implicitDefEqProofs
  refine (drop_lv f l tx H'' (by omega)).mono fun x H' hx => ?_
  obtain ⟨⟨f5, rfl⟩, rfl⟩ := hx
  simp -implicitDefEqProofs
  refine (rdrop_lv f l tx H' (by omega)).mono fun x H'' hx => ?_
  obtain ⟨⟨f6, rfl⟩, rfl⟩ := hx
  simp -implicitDefEqProofs
  refine CallL.ret (rsame_lv _ _ _ _ _ (by omega) (by omega)) ?_
  simp -implicitDefEqProofs
  refine CallL.ret (holds_lv _ _ _ _ _ (by omega)) ?_
  simp -implicitDefEqProofs
  refine CallL.ret (rholds_lv _ _ _ _ _ (by omega) hok) ?_
  simp -implicitDefEqProofs
  refine CallL.ret (safe_lv _ _ _ (by omega)) ?_
  simp -implicitDefEqProofs
  refine CallL.ret (rsafe_lv _ _ _ (by omega) hok) ?_
  simp -implicitDefEqProofs
  exact Ends.of ⟨rfl, rfl⟩
end Go.Lv
