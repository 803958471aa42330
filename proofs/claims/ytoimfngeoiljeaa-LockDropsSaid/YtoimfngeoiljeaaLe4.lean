/- The laws' walks: LockDrops, LockOnce, LockSafe. -/
import Derived.Test.YtoimfngeoiljeaaLp3
import Derived.Test.YtoimfngeoiljeaaLe3
namespace Go.Lv
open Go Go.Proofs
set_option maxRecDepth 10000
set_option linter.unusedSimpArgs false
set_option linter.unusedVariables false

theorem lawDrops_lv (f : Bool) (l : List Held) (tx res mode other : Int) (H : OHeap) : CallL Try.prog 9 [heldsL f l, i64 tx, i64 res, i64 mode, i64 other] H fun x H' => x = .bool true ∧ H' = H := by
  refine CallL.of_vc (n := 5) tok Try.func9 (c := _) rfl (by kernel_rfl) rfl ?_
  simp -implicitDefEqProofs
  refine CallL.ret (awake_lv H) ?_
  simp -implicitDefEqProofs [heldsL]
  refine ⟨fun h => Ends.of ⟨rfl, rfl⟩, fun h => ?_⟩
  simp only [decide_eq_false_iff_not] at h
  have hl : l.length ≤ 100 := by omega
  have hll := grant_len l tx res mode
  have hdl := drop_len l tx
  refine (grant_lv f l tx res mode H (by omega)).mono fun x H' hx => ?_
  obtain ⟨⟨f1, rfl⟩, rfl⟩ := hx
  have last : ∀ {b : Bool}, b = true → Ends (fun x H'' => x = LV.bool true ∧ H'' = H') (.bool b) H' := fun h => by subst h; exact Ends.of ⟨rfl, rfl⟩
  have hd : tx = other ∨ gHolds (gDrop l tx) other res = gHolds l other res := by
    by_cases h : tx = other
    · exact .inl h
    · exact .inr (holds_drop_other l res h)
  rcases grant_cases l tx res mode with ⟨g1, g2⟩ | ⟨g1, g2, _⟩ | ⟨g1, g⟩
  case' inr.inr =>
    rw [g1]
    generalize (gGrant l tx res mode).1 = a at g hll
  case' inr.inl => rw [g1, g2]
  case' inl => rw [g1, g2]
  all_goals
    simp -implicitDefEqProofs
    refine (drop_lv f l tx H' (by omega)).mono fun x H'' hx => ?_
    obtain ⟨⟨f2, rfl⟩, rfl⟩ := hx
    simp -implicitDefEqProofs
  case' inr.inr =>
    refine (drop_lv f1 a tx H'' (by omega)).mono fun x H' hx => ?_
    obtain ⟨⟨f3, rfl⟩, rfl⟩ := hx
    rw [g.drop]
    simp -implicitDefEqProofs
    refine CallL.ret (rsame_lv _ _ _ _ _ (by omega) (by omega)) ?_
    simp -implicitDefEqProofs
  all_goals
    by_cases ho : tx = other
    · simp -implicitDefEqProofs [ho]
      exact Ends.of ⟨rfl, rfl⟩
    · simp -implicitDefEqProofs [ho]
      refine CallL.ret (holds_lv _ _ _ _ _ (by omega)) ?_
      simp -implicitDefEqProofs
      refine CallL.ret (holds_lv _ _ _ _ _ (by omega)) ?_
      simp -implicitDefEqProofs
      refine last ?_
      have : gHolds (gDrop l tx) other res = gHolds l other res := by rcases hd with h | h; exact absurd h ho; exact h
      simp [this]

theorem lawOnce_lv (f : Bool) (l : List Held) (tx res mode other : Int) (H : OHeap) : CallL Try.prog 8 [heldsL f l, i64 tx, i64 res, i64 mode, i64 other] H fun x H' => x = .bool true ∧ H' = H := by
  refine CallL.of_vc (n := 5) tok Try.func8 (c := _) rfl (by kernel_rfl) rfl ?_
  simp -implicitDefEqProofs
  refine CallL.ret (awake_lv H) ?_
  simp -implicitDefEqProofs [heldsL]
  refine ⟨fun h => Ends.of ⟨rfl, rfl⟩, fun h => ?_⟩
  simp only [decide_eq_false_iff_not] at h
  have hl : l.length ≤ 100 := by omega
  have hll := grant_len l tx res mode
  refine (grant_lv f l tx res mode H (by omega)).mono fun x H' hx => ?_
  obtain ⟨⟨f1, rfl⟩, rfl⟩ := hx
  rcases grant_cases l tx res mode with ⟨g1, g2⟩ | ⟨g1, g2, _⟩ | ⟨g1, g⟩
  · rw [g1, g2]
    simp -implicitDefEqProofs [heldsL]
    exact Ends.of ⟨rfl, rfl⟩
  · rw [g1, g2]
    simp -implicitDefEqProofs [heldsL]
    exact Ends.of ⟨rfl, rfl⟩
  · rw [g1]
    generalize (gGrant l tx res mode).1 = a at g hll
    simp -implicitDefEqProofs
    refine (grant_lv f1 a tx res mode H' (by omega)).mono fun x H'' hx => ?_
    obtain ⟨⟨f2, rfl⟩, rfl⟩ := hx
    rw [g.again]
    simp -implicitDefEqProofs
    refine CallL.ret (rsame_lv _ _ _ _ _ (by omega) (by omega)) ?_
    simp -implicitDefEqProofs
    refine (drop_lv f1 a tx H'' (by omega)).mono fun x H' hx => ?_
    obtain ⟨⟨f3, rfl⟩, rfl⟩ := hx
    have hdl := drop_len a tx
    simp -implicitDefEqProofs
    refine (blockers_lv f3 (gDrop a tx) other res mode H' (by omega)).mono fun x H'' hx => ?_
    obtain ⟨⟨f4, rfl⟩, rfl⟩ := hx
    have hb := blockers_drop a tx other res mode
    have hbl := gBlockers_len (gDrop a tx) other res mode
    generalize gBlockers (gDrop a tx) other res mode = bl at hb hbl
    simp -implicitDefEqProofs
    refine WP.loopG (σ := Nat) (fun k e B H' => H' = H'' ∧ k ≤ bl.length ∧ e 1 = i64 tx ∧ e 2 = i64 res ∧ e 3 = i64 mode ∧ e 12 = heldsL f1 a ∧ e 15 = i64 0 ∧ e 16 = .bool true ∧ e 17 = intsL f4 bl ∧ e 18 = i64 k) (fun k => bl.length - k) 0 ?_ ?_
    · simp
    · rintro k e B H' ⟨rfl, hk, h1, h2, h3, h12, h15, h16, h17, h18⟩
      refine vc_sound tok _ _ _ _ _ ?_
      rcases Nat.lt_or_ge k bl.length with hlt | hge
      · have hw : IntKind.i64.wrap ((k : Int) + 1) = ((k + 1 : Nat) : Int) := by rw [wrap64 (by omega) (by omega)]; omega
        have hne : ¬ bl[k] = tx := fun e => hb (e ▸ List.getElem_mem hlt)
        simp -implicitDefEqProofs [h1, h2, h3, h12, h15, h16, h17, h18, intsL, hlt, hne]
        refine Next.of (k + 1) (by omega) ?_
        simp [h1, h2, h3, h12, h15, h16, h17, hw, intsL]
        omega
      · have hn : ¬ k < bl.length := by omega
        simp -implicitDefEqProofs [h1, h2, h3, h12, h15, h16, h17, h18, intsL, hn]
        refine CallL.ret (holds_lv _ _ _ _ _ (by omega)) ?_
        have gb : bits .and .i64 (gHolds a tx res) mode = mode := g.bits
        simp -implicitDefEqProofs [h1, h2, h3, h12, h15, h16, h17, h18, gb]
        refine (drop_lv f1 a tx H' (by omega)).mono fun x H'' hx => ?_
        obtain ⟨⟨f5, rfl⟩, rfl⟩ := hx
        simp -implicitDefEqProofs [h1, h2, h3, h12, h15, h16, h17, h18, gb]
        refine CallL.ret (holds_lv _ _ _ _ _ (by omega)) ?_
        rw [holds_drop]
        simp -implicitDefEqProofs [h1, h2, h3, h12, h15, h16, h17, h18, gb]
        exact Ends.of ⟨rfl, rfl⟩
end Go.Lv
