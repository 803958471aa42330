/- Contracts of bobbinref12: Drop. -/
import Derived.Test.YtoimfngeoiljeaaLd2
namespace Go.Lv
open Go Go.Proofs
set_option maxRecDepth 10000
set_option linter.unusedSimpArgs false

/-- A slice of records that the call builds by append, from nil on. -/
def OutN (out : List Held) (H : OHeap) (x : LV) (H' : OHeap) : Prop :=
  (out = [] ∧ x = .nilsl ∧ H' = H) ∨ (out ≠ [] ∧ ∃ b c rest, H b = none ∧ out.length ≤ c ∧ x = .sl b 0 out.length c ∧ H' = setH H b (rowO out rest c))
theorem OutN.glob {out : List Held} {H H' : OHeap} {x : LV} (h : OutN out H x H') : x.glob = true := by
  rcases h with ⟨_, rfl, _⟩ | ⟨_, b, c, rest, _, _, rfl, _⟩ <;> rfl

theorem OutN.append {out : List Held} {H H' : OHeap} {x : LV} (h : OutN out H x H') (hd : Held) (f : Bool) (hl : out.length < 2 ^ 39) {Q : LV → OHeap → Prop}
    (hq : ∀ z H'', OutN (out ++ [hd]) H z H'' → Q z H'') : appL H' 3 24 x (.isl f 3 [hd.lv]) Q := by
  rcases h with ⟨rfl, rfl, rfl⟩ | ⟨hne', b, c, rest, hb, hc, rfl, rfl⟩
  · simp [appL, srcL, Held.lv]
    refine ⟨by unfold room; omega, fun b c hb hc => ?_⟩
    exact hq _ _ (.inr ⟨by simp, b, c, [], hb, by simpa using hc, by simp, by simp [rowO, Held.lv]⟩)
  · refine append_rows (hs := [hd]) (rest := rest) (by simp) hc (by simp [srcL]) (by simp; omega) (fun rest' hr => ?_) (fun b' c' hb' hc' => ?_)
    · exact hq _ _ (.inr ⟨by simp, b, c, rest', hb, by simpa using hr, rfl, by rw [setH_setH]⟩)
    · have hbb : b' ≠ b := fun h => by subst h; simp at hb'
      exact hq _ _ (.inr ⟨by simp, b', c', [], by simpa [hbb] using hb', hc', rfl, by rw [delH_setH hb]⟩)

theorem OutN.ends {out : List Held} {H H2 : OHeap} {z : LV} (h : OutN out H z H2) : Ends (SealOf out H) z H2 := by
  rcases h with ⟨rfl, rfl, rfl⟩ | ⟨hne, b, c, rest, hb, hc, rfl, rfl⟩
  · exact Ends.wk (Wk.nilsl true 3) (Ends.of ⟨⟨true, rfl⟩, rfl⟩)
  · exact Ends.seal_row hb hc

theorem rdrop_lv (f : Bool) (l : List Held) (tx : Int) (H : OHeap) (hl : l.length < 2 ^ 38) : CallL Try.prog 22 [heldsL f l, i64 tx] H (SealOf (gDrop l tx) H) := by
  refine CallL.of_vc (n := 2) tok Try.func22 (c := _) rfl (by kernel_rfl) rfl ?_
  simp -implicitDefEqProofs [heldsL]
  refine WP.loopG (σ := Nat × List Held) (fun s e B H' => OutN s.2 H (e 5) H' ∧ s.1 ≤ l.length ∧ e 0 = heldsL f l ∧ e 1 = i64 tx ∧ e 6 = i64 s.1 ∧ s.2 = gDrop (l.take s.1) tx) (fun s => l.length - s.1) (0, []) ?_ ?_
  · simp [heldsL, gDrop, OutN]
  · rintro ⟨k, out⟩ e B H' ⟨ho, hk, h0, h1, h6, hs⟩
    simp only [] at ho hk h6 hs
    refine vc_sound tok _ _ _ _ _ ?_
    have holen : out.length ≤ l.length := by
      rw [hs]; unfold gDrop
      refine Nat.le_trans (List.length_filter_le _ _) (by simp; omega)
    rcases Nat.lt_or_ge k l.length with hlt | hge
    · have hw : IntKind.i64.wrap ((k : Int) + 1) = ((k + 1 : Nat) : Int) := by rw [wrap64 (by omega) (by omega)]; omega
      have htk : gDrop (l.take (k + 1)) tx = gDrop (l.take k) tx ++ (if l[k].tx = tx then [] else [l[k]]) := by
        rw [List.take_add_one]; unfold gDrop; rw [List.filter_append]; simp [hlt, List.filter_cons]
      simp -implicitDefEqProofs [h0, h1, h6, heldsL, hlt, Held.lv]
      refine ⟨fun ht => ?_, fun ht => ?_⟩
      · simp only [decide_eq_true_eq] at ht
        refine Next.of (k + 1, out) (by simp only []; omega) ?_
        simp [h0, h1, heldsL, hw, ho, htk, ht, hs]
        refine ⟨?_, by omega⟩
        rw [← hs]; exact ho
      · simp only [decide_eq_false_iff_not] at ht
        refine ho.append l[k] true (by omega) fun z H'' hz => ?_
        simp -implicitDefEqProofs [h6]
        refine Next.of (k + 1, out ++ [l[k]]) (by simp only []; omega) ?_
        have e1 : out ++ [l[k]] = gDrop (l.take (k + 1)) tx := by rw [htk, if_neg ht, hs]
        simp [h0, h1, heldsL, hw, hz, ← e1]
        omega
    · have hn : ¬ k < l.length := by omega
      have hs' : out = gDrop l tx := by rw [hs, List.take_of_length_le hge]
      have hg := ho.glob
      simp -implicitDefEqProofs [h0, h1, h6, heldsL, hn, hg]
      rw [← hs']
      exact ho.ends
end Go.Lv
