/- lock.Blockers. -/
import Derived.Test.YtoimfngeoiljeaaLc6
namespace Go.Lv
open Go Go.Proofs
set_option maxRecDepth 10000
set_option linter.unusedSimpArgs false

/-- A slice of whole numbers that the call builds by append. -/
def OutI (out : List Int) (H : OHeap) (x : LV) (H' : OHeap) : Prop :=
  (out = [] ∧ x = .nilsl ∧ H' = H) ∨ (out ≠ [] ∧ ∃ b c rest, H b = none ∧ out.length ≤ c ∧ x = .sl b 0 out.length c ∧ H' = setH H b (.cells (out.map i64 ++ rest) c))

theorem OutI.glob {out : List Int} {H H' : OHeap} {x : LV} (h : OutI out H x H') : x.glob = true := by
  rcases h with ⟨_, rfl, _⟩ | ⟨_, b, c, rest, _, _, rfl, _⟩ <;> rfl

theorem OutI.append {out : List Int} {H H' : OHeap} {x : LV} (h : OutI out H x H') (n : Int) (hl : out.length < 2 ^ 40) {Q : LV → OHeap → Prop} (hq : ∀ y H'', OutI (out ++ [n]) H y H'' → Q y H'') : appL H' 1 8 x (.isl true 1 [[i64 n]]) Q := by
  rcases h with ⟨rfl, rfl, rfl⟩ | ⟨hne, b, c, rest, hb, hc, rfl, rfl⟩
  · simp [appL, srcL]
    refine ⟨by unfold room; omega, fun b c hb hc => hq _ _ (.inr ⟨by simp, b, c, [], hb, by simpa using hc, by simp, by simp⟩)⟩
  · have hlen : 0 < out.length := List.length_pos_iff.2 hne
    simp only [appL, srcL, if_true, List.flatten_cons, List.flatten_nil, List.append_nil, List.all_cons, one_int, List.all_nil, Bool.and_true, true_and, setH_apply, List.length_cons, List.length_nil, Nat.zero_add, Nat.mul_one, List.drop_zero]
    have e1 : (out.map i64 ++ rest).take out.length = out.map i64 := by rw [List.take_left' (by simp)]
    refine ⟨⟨by simp, by omega, ?_⟩, fun hroom => ?_, fun hgrow => ⟨by unfold room; omega, fun b' c' hb' hc' => ?_⟩⟩
    · rw [e1, List.all_eq_true]; intro y hy; obtain ⟨z, _, rfl⟩ := List.mem_map.1 hy; rfl
    · refine hq _ _ (.inr ⟨by simp, b, c, rest.drop 1, hb, by simpa using hroom, by simp, ?_⟩)
      rw [setH_setH]
      congr 2
      unfold seg
      rw [e1]
      simp [List.drop_append]
    · have hne' : b' ≠ b := fun h => by subst h; simp at hb'
      refine hq _ _ (.inr ⟨by simp, b', c', [], by simpa [hne'] using hb', by simpa using hc', by simp, ?_⟩)
      rw [delH_setH hb, e1]
      simp

def gBlk (l : List Held) (tx res mode : Int) : List Int := (l.filter fun h => !decide (h.tx = tx) && (decide (h.res = res) && gClash h.mode mode)).map (·.tx)
def gBlockers (l : List Held) (tx res mode : Int) : List Int := gCompact ((gBlk l tx res mode).mergeSort fun x y => decide (x ≤ y))
def intsL (f : Bool) (l : List Int) : LV := .isl f 1 (l.map fun n => [i64 n])
/-- Some slice of whole numbers that holds this, sealed. -/
def SealI (l : List Int) (H : OHeap) (x : LV) (H' : OHeap) : Prop := (∃ f, x = intsL f l) ∧ H' = H

theorem ints_flat (l : List Int) : (l.map fun n => [i64 n]).flatten = l.map i64 := by
  induction l with
  | nil => rfl
  | cons x l ih => simp only [List.map_cons, List.flatten_cons, ih]; rfl

theorem Ends.seal_ints {l : List Int} {rest : List LV} {b c : Nat} {H : OHeap} (hb : H b = none) (hc : l.length ≤ c) : Ends (SealI l H) (.sl b 0 l.length c) (setH H b (.cells (l.map i64 ++ rest) c)) := by
  refine Ends.wk (Wk.sealB 1 (b := b) (n := c) (cs := l.map i64 ++ rest) (by simp) _) ?_
  rw [delH_setH hb]
  have := sealV_whole (b := b) (c := c) (rest := rest) (es := 1) (xs := l.map fun n => [i64 n]) (fun x hx => by obtain ⟨n, _, rfl⟩ := List.mem_map.1 hx; rfl) (by simpa using hc)
  rw [List.length_map, ints_flat] at this
  simp only [sealT]
  rw [this]
  exact Ends.of ⟨⟨_, rfl⟩, rfl⟩

theorem blockers_lv (f : Bool) (l : List Held) (tx res mode : Int) (H : OHeap) (hl : l.length < 2 ^ 40) : CallL Try.prog 14 [heldsL f l, i64 tx, i64 res, i64 mode] H (SealI (gBlockers l tx res mode) H) := by
  refine CallL.of_vc (n := 4) tok Try.func14 (c := _) rfl (by kernel_rfl) rfl ?_
  simp -implicitDefEqProofs [heldsL]
  refine WP.loopG (σ := Nat × List Int) (fun s e B H' => OutI s.2 H (e 9) H' ∧ s.1 ≤ l.length ∧ e 0 = heldsL f l ∧ e 1 = i64 tx ∧ e 2 = i64 res ∧ e 3 = i64 mode ∧ e 12 = heldsL f l ∧ e 13 = i64 l.length ∧ e 14 = i64 s.1 ∧ s.2 = gBlk (l.take s.1) tx res mode) (fun s => l.length - s.1) (0, []) ?_ ?_
  · simp [heldsL, gBlk, OutI]
  · rintro ⟨k, out⟩ e B H' ⟨ho, hk, h0, h1, h2, h3, h12, h13, h14, hs⟩
    simp only [] at ho hk h14 hs
    refine vc_sound tok _ _ _ _ _ ?_
    have holen : out.length ≤ l.length := by
      rw [hs]; unfold gBlk; rw [List.length_map]
      refine Nat.le_trans (List.length_filter_le _ _) (by simp; omega)
    rcases Nat.lt_or_ge k l.length with hlt | hge
    · have hw : IntKind.i64.wrap ((k : Int) + 1) = ((k + 1 : Nat) : Int) := by rw [wrap64 (by omega) (by omega)]; omega
      have htk : l.take (k + 1) = l.take k ++ [l[k]] := by rw [List.take_add_one]; simp [hlt]
      have hskip : (!decide (l[k].tx = tx) && (decide (l[k].res = res) && gClash l[k].mode mode)) = false → out = gBlk (l.take (k + 1)) tx res mode := fun h => by
        rw [hs, htk]; unfold gBlk; rw [List.filter_append]; simp [h]
      have hadd : (!decide (l[k].tx = tx) && (decide (l[k].res = res) && gClash l[k].mode mode)) = true → out ++ [l[k].tx] = gBlk (l.take (k + 1)) tx res mode := fun h => by
        rw [hs, htk]; unfold gBlk; rw [List.filter_append]; simp only [List.filter_cons, h]; simp
      simp -implicitDefEqProofs [h0, h1, h2, h3, h12, h13, h14, heldsL, hlt, Held.lv, seg]
      refine ⟨fun ht => ?_, fun ht => ⟨fun hr => ?_, fun hr => ?_⟩⟩
      · refine Next.of (k + 1, out) (by simp only []; omega) ?_
        simp [h0, h1, h2, h3, h12, h13, heldsL, hw, ho]
        exact ⟨by omega, hskip (by simp [ht])⟩
      · refine CallL.ret (clash_lv l[k].mode mode H') ?_
        cases hcl : gClash l[k].mode mode with
        | false =>
          simp -implicitDefEqProofs [h14]
          refine Next.of (k + 1, out) (by simp only []; omega) ?_
          simp [h0, h1, h2, h3, h12, h13, heldsL, hw, ho]
          exact ⟨by omega, hskip (by simp [hcl])⟩
        | true =>
          simp -implicitDefEqProofs [h14]
          refine ho.append _ (by omega) fun y H'' hy => ?_
          simp -implicitDefEqProofs [h14]
          refine Next.of (k + 1, out ++ [l[k].tx]) (by simp only []; omega) ?_
          simp [h0, h1, h2, h3, h12, h13, heldsL, hw, hy]
          exact ⟨by omega, hadd (by rw [ht, hr, hcl]; rfl)⟩
      · refine Next.of (k + 1, out) (by simp only []; omega) ?_
        simp [h0, h1, h2, h3, h12, h13, heldsL, hw, ho]
        exact ⟨by omega, hskip (by simp [hr])⟩
    · have hn : ¬ k < l.length := by omega
      have hs' : out = gBlk l tx res mode := by rw [hs, List.take_of_length_le hge]
      simp -implicitDefEqProofs [h0, h1, h2, h3, h12, h13, h14, heldsL, hn]
      rcases ho with ⟨rfl, h9, rfl⟩ | ⟨hne, b, c, rest, hb, hc, h9, rfl⟩
      · simp -implicitDefEqProofs [h9]
        refine CallL.ret (sortNil_lv H') ?_
        simp -implicitDefEqProofs [h9]
        refine CallL.ret (compactNil_lv H') ?_
        simp -implicitDefEqProofs
        refine Ends.wk (Wk.nilsl true 1) (Ends.of ⟨⟨true, ?_⟩, rfl⟩)
        unfold gBlockers; rw [← hs', List.mergeSort_nil]; rfl
      · simp -implicitDefEqProofs [h9]
        refine (sort_lv out rest b c c _ (by simp) (by omega)).mono fun x H' hx => ?_
        obtain ⟨rfl, rfl⟩ := hx
        rw [setH_setH]
        have hml : (out.mergeSort fun x y => decide (x ≤ y)).length = out.length := List.length_mergeSort _
        have hgb : gCompact (out.mergeSort fun x y => decide (x ≤ y)) = gBlockers l tx res mode := by unfold gBlockers; rw [hs']
        generalize (out.mergeSort fun x y => decide (x ≤ y)) = ys at hml hgb
        rw [← hml] at h9
        simp -implicitDefEqProofs [h9]
        refine (compact_lv ys rest b c c _ (by simp) (by omega) (by omega)).mono fun x H' hx => ?_
        obtain ⟨rfl, rfl⟩ := hx
        rw [setH_setH]
        have hle := gCompact_len ys
        rw [hgb] at hle ⊢
        simp -implicitDefEqProofs
        have := Ends.seal_ints (l := gBlockers l tx res mode) (rest := (List.replicate (ys.length - (gBlockers l tx res mode).length) 0).map i64 ++ rest) (c := c) hb (by omega)
        simpa using this
end Go.Lv
