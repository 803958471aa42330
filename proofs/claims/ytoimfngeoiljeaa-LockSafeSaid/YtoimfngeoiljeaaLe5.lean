/- The laws' walks: LockSafe. -/
import Derived.Test.YtoimfngeoiljeaaLe4
namespace Go.Lv
open Go Go.Proofs
set_option maxRecDepth 10000
set_option linter.unusedSimpArgs false
set_option linter.unusedVariables false

theorem lawSafe_lv (f : Bool) (l : List Held) (H : OHeap) : CallL Try.prog 7 [heldsL f l] H fun x H' => x = .bool true ∧ H' = H := by
  refine CallL.of_vc (n := 1) tok Try.func7 (c := _) rfl (by kernel_rfl) rfl ?_
  simp -implicitDefEqProofs
  refine CallL.ret (awake_lv H) ?_
  simp -implicitDefEqProofs [heldsL]
  refine ⟨fun h => Ends.of ⟨rfl, rfl⟩, fun h => ?_⟩
  simp only [decide_eq_false_iff_not] at h
  have hl : l.length ≤ 100 := by omega
  refine WP.below (Below.slot (i := 4) (y := heldsL true []) (by simp) (fun K v hv => by simp at hv; exact R.nil_isl true 3 hv)) ?_
  refine WP.loopG (σ := Nat × Bool × List Held) (fun s e B H' => H' = H ∧ s.1 ≤ l.length ∧ e 0 = heldsL f l ∧ e 4 = heldsL s.2.1 s.2.2 ∧ e 5 = i64 s.1 ∧ gSafe s.2.2 = true ∧ s.2.2.length ≤ s.1) (fun s => l.length - s.1) (0, true, []) ?_ ?_
  · simp [heldsL, gSafe]
  · rintro ⟨k, fm, m⟩ e B H' ⟨rfl, hk, h0, h4, h5, hs, hm⟩
    simp only [] at hk h4 h5 hs hm
    refine vc_sound tok _ _ _ _ _ ?_
    rcases Nat.lt_or_ge k l.length with hlt | hge
    · have hw : IntKind.i64.wrap ((k : Int) + 1) = ((k + 1 : Nat) : Int) := by rw [wrap64 (by omega) (by omega)]; omega
      simp -implicitDefEqProofs [h0, h4, h5, heldsL, hlt, Held.lv, seg]
      refine ⟨fun hz => ?_, fun hz => ?_⟩
      · refine (drop_lv fm m l[k].tx H' (by omega)).mono fun x H'' hx => ?_
        obtain ⟨⟨f1, rfl⟩, rfl⟩ := hx
        have hdl := drop_len m l[k].tx
        simp -implicitDefEqProofs [h0, h4, h5]
        refine CallL.ret (safe_lv _ _ _ (by omega)) ?_
        rw [safe_drop hs]
        simp -implicitDefEqProofs [h0, h4, h5]
        refine Next.of (k + 1, f1, gDrop m l[k].tx) (by simp only []; omega) ?_
        simp [h0, heldsL, hw, safe_drop hs]
        omega
      · refine (grant_lv fm m l[k].tx l[k].res l[k].mode H' (by omega)).mono fun x H'' hx => ?_
        obtain ⟨⟨f1, rfl⟩, rfl⟩ := hx
        have hgl := grant_len m l[k].tx l[k].res l[k].mode
        have hgc := grant_cases m l[k].tx l[k].res l[k].mode
        have hbl := gBlockers_len m l[k].tx l[k].res l[k].mode
        rcases hgc with ⟨g1, g2⟩ | ⟨g1, g2, g3⟩ | ⟨g1, g⟩
        · rw [g1, g2]
          simp -implicitDefEqProofs [h0, h4, h5]
          refine (blockers_lv fm m l[k].tx l[k].res l[k].mode H'' (by omega)).mono fun x H' hx => ?_
          obtain ⟨⟨f2, rfl⟩, rfl⟩ := hx
          simp -implicitDefEqProofs [h0, h4, h5, intsL]
          refine CallL.ret (safe_lv _ _ _ (by omega)) ?_
          rw [hs]
          simp -implicitDefEqProofs [h0, h4, h5]
          refine Next.of (k + 1, fm, m) (by simp only []; omega) ?_
          simp [h0, h4, heldsL, hw, hs]
          omega
        · rw [g1, g2]
          simp -implicitDefEqProofs [h0, h4, h5]
          refine (blockers_lv fm m l[k].tx l[k].res l[k].mode H'' (by omega)).mono fun x H' hx => ?_
          obtain ⟨⟨f2, rfl⟩, rfl⟩ := hx
          cases hb : gBlockers m l[k].tx l[k].res l[k].mode with
          | nil => exact absurd hb g3
          | cons y bl =>
            have hb0 : ¬ ((bl.length : Int) + 1 = 0) := by omega
            simp -implicitDefEqProofs [h0, h4, h5, intsL, hb0]
            refine CallL.ret (safe_lv _ _ _ (by omega)) ?_
            rw [hs]
            simp -implicitDefEqProofs [h0, h4, h5]
            refine Next.of (k + 1, fm, m) (by simp only []; omega) ?_
            simp [h0, h4, heldsL, hw, hs]
            omega
        · rw [g1]
          generalize (gGrant m l[k].tx l[k].res l[k].mode).1 = a at g hgl
          simp -implicitDefEqProofs [h0, h4, h5]
          refine (blockers_lv fm m l[k].tx l[k].res l[k].mode H'' (by omega)).mono fun x H' hx => ?_
          obtain ⟨⟨f2, rfl⟩, rfl⟩ := hx
          rw [g.free]
          simp -implicitDefEqProofs [h0, h4, h5, intsL]
          refine CallL.ret (safe_lv _ _ _ (by omega)) ?_
          rw [g.safe hs]
          simp -implicitDefEqProofs [h0, h4, h5]
          refine Next.of (k + 1, f1, a) (by simp only []; omega) ?_
          simp [h0, heldsL, hw, g.safe hs]
          omega
    · have hn : ¬ k < l.length := by omega
      simp -implicitDefEqProofs [h0, h4, h5, heldsL, hn]
      exact Ends.of ⟨rfl, rfl⟩
end Go.Lv
