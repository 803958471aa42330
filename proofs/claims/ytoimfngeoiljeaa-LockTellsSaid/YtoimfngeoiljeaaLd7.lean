/- Contracts of bobbinref12: Grant. -/
import Derived.Test.YtoimfngeoiljeaaLd6
namespace Go.Lv
open Go Go.Proofs
set_option maxRecDepth 10000
set_option linter.unusedSimpArgs false
set_option linter.unusedVariables false

def gst (tx res : Int) (S : Held) (s : List Held × Bool) (h : Held) : List Held × Bool :=
  if gOwn tx res h = true then (if s.2 = true then s else (s.1 ++ [S], true)) else (s.1 ++ [h], s.2)
theorem gst_true (tx res : Int) (S : Held) : ∀ (l : List Held) (out : List Held), l.foldl (gst tx res S) (out, true) = (out ++ l.filter (fun h => !gOwn tx res h), true)
  | [], out => by simp
  | h :: l, out => by
    rw [List.foldl_cons, gst]
    cases ho : gOwn tx res h with
    | true => simp only [if_true]; rw [gst_true tx res S l]; simp [ho]
    | false => simp only [Bool.false_eq_true, if_false]; rw [gst_true tx res S l]; simp [ho]
theorem gst_false (tx res : Int) (S : Held) : ∀ (l : List Held) (out : List Held), l.foldl (gst tx res S) (out, false) =
    if l.all (fun h => !gOwn tx res h) = true then (out ++ l, false) else (out ++ l.takeWhile (fun h => !gOwn tx res h) ++ [S] ++ (l.dropWhile (fun h => !gOwn tx res h)).filter (fun h => !gOwn tx res h), true)
  | [], out => by simp
  | h :: l, out => by
    rw [List.foldl_cons, gst]
    cases ho : gOwn tx res h with
    | true => simp only [if_true, Bool.false_eq_true, if_false]; rw [gst_true tx res S l]; simp [ho]
    | false =>
      simp only [Bool.false_eq_true, if_false]
      rw [gst_false tx res S l]
      by_cases ha : l.all (fun h => !gOwn tx res h) = true
      · rw [if_pos ha, if_pos (by simp [ho]; simpa using ha)]; simp
      · rw [if_neg ha, if_neg (by simp [ho]; simpa using ha)]; simp [ho]
theorem gst_len (tx res : Int) (S : Held) : ∀ (l : List Held) (s : List Held × Bool), (l.foldl (gst tx res S) s).1.length ≤ s.1.length + l.length
  | [], s => by simp
  | h :: l, s => by
    rw [List.foldl_cons]
    have h1 := gst_len tx res S l (gst tx res S s h)
    have h2 : (gst tx res S s h).1.length ≤ s.1.length + 1 := by
      unfold gst
      split
      · split
        · omega
        · simp
      · simp
    simp only [List.length_cons]
    omega

theorem OutN.tup {out : List Held} {H H2 : OHeap} {z : LV} (h : OutN out H z H2) (n : Int) : Ends (GrantOf (out, n) H) (.tup [z, i64 n]) H2 := by
  rcases h with ⟨rfl, rfl, rfl⟩ | ⟨hne, b, c, rest, hb, hc, rfl, rfl⟩
  · exact Ends.wk (Wk.tupNil n _) (Ends.of ⟨⟨true, rfl⟩, rfl⟩)
  · exact OutH.tup (.inr ⟨hne, b, c, rest, hb, hc, rfl, rfl⟩) n

theorem rgrant_lv (f : Bool) (l : List Held) (tx res mode : Int) (H : OHeap) (hl : l.length < 2 ^ 37) (hok : ∀ h ∈ l, Hok h) (hmo : inI mode) : CallL Try.prog 19 [heldsL f l, i64 tx, i64 res, i64 mode] H (GrantOf (gGrant l tx res mode) H) := by
  refine CallL.of_vc (n := 4) tok Try.func19 (c := _) rfl (by kernel_rfl) rfl ?_
  simp -implicitDefEqProofs
  have bad : ∀ {H}, (tx < 1 ∨ 255 < tx ∨ res < -1 ∨ 65535 < res ∨ mode < 1 ∨ 15 < mode) → Ends (GrantOf (gGrant l tx res mode) H) (.tup [.nilsl, .int .i64 1]) H := fun h => by
    exact Ends.wk (Wk.tupNil 1 _) (Ends.of ⟨⟨true, by simp [gGrant, h]⟩, rfl⟩)
  refine ⟨fun h1 => ?_, fun h1 => ⟨fun h2 => ?_, fun h2 => ⟨fun h3 => ?_, fun h3 => ⟨fun h4 => ?_, fun h4 => ⟨fun h5 => ?_, fun h5 => ⟨fun h6 => ?_, fun h6 => ?_⟩⟩⟩⟩⟩⟩
  all_goals simp only [decide_eq_true_eq, decide_eq_false_iff_not] at *
  · exact bad (.inl h1)
  · exact bad (.inr (.inl h2))
  · exact bad (.inr (.inr (.inl h3)))
  · exact bad (.inr (.inr (.inr (.inl h4))))
  · exact bad (.inr (.inr (.inr (.inr (.inl h5)))))
  · exact bad (.inr (.inr (.inr (.inr (.inr h6)))))
  have hbd : ¬ (tx < 1 ∨ 255 < tx ∨ res < -1 ∨ 65535 < res ∨ mode < 1 ∨ 15 < mode) := by omega
  refine (rblockers_lv f l tx res mode H (by omega) hok hmo).mono fun x H'' hx => ?_
  obtain ⟨⟨f', rfl⟩, rfl⟩ := hx
  cases hbl : gBlockers l tx res mode with
  | cons y bl =>
    have h0 : (0 : Int) < (bl.length : Int) + 1 := by omega
    simp -implicitDefEqProofs [intsL, h0]
    refine Ends.wk (Wk.tupNil 5 _) (Ends.of ⟨⟨true, ?_⟩, rfl⟩)
    unfold gGrant
    rw [if_neg hbd, if_pos (by rw [hbl]; simp)]
  | nil =>
    simp -implicitDefEqProofs [intsL]
    refine CallL.ret (rholds_lv f l tx res H'' (by omega) hok) ?_
    have hs := holds_small l tx res
    have hSs := bor_small hs.1 hs.2 (show 0 ≤ mode by omega) (show mode ≤ 15 by omega)
    have hsI := inI_gHolds l tx res
    have hgrant : gGrant l tx res mode = (if (l.foldl (gst tx res ⟨tx, res, bor (gHolds l tx res) mode⟩) ([], false)).2 = true then (l.foldl (gst tx res ⟨tx, res, bor (gHolds l tx res) mode⟩) ([], false)).1 else (l.foldl (gst tx res ⟨tx, res, bor (gHolds l tx res) mode⟩) ([], false)).1 ++ [⟨tx, res, bor (gHolds l tx res) mode⟩], 0) := by
      unfold gGrant
      rw [if_neg hbd, if_neg (by rw [hbl]; simp)]
      simp only []
      rw [gst_false]
      by_cases ha : l.all (fun h => !gOwn tx res h) = true
      · rw [if_pos ha, if_pos ha]; simp
      · rw [if_neg ha, if_neg ha]; simp
    have hbit : ∀ J, J < 4 → tb (bor (gHolds l tx res) mode) J = (rHas (gHolds l tx res) J || rHas mode J) := fun J hJ => by
      rw [tb_bor, rHas_tb _ hsI J (by omega), rHas_tb _ hmo J (by omega)]
    generalize gHolds l tx res = own at hs hSs hsI hgrant hbit
    generalize hS : bor own mode = S at hSs hgrant hbit
    rw [hgrant]
    clear hgrant bad
    simp -implicitDefEqProofs
    refine WP.loopG (σ := Nat) (fun J e B H' => H' = H'' ∧ J ≤ 4 ∧ e 0 = heldsL f l ∧ e 1 = i64 tx ∧ e 2 = i64 res ∧ e 3 = i64 mode ∧ e 10 = i64 own ∧ e 11 = i64 (psum (tb S) J) ∧ e 12 = i64 (2 ^ J)) (fun J => 4 - J) 0 ?_ ?_
    · simp [psum]
    · rintro J e B H' ⟨rfl, hJ, h0, h1, h2, h3, h10, h11, h12⟩
      refine vc_sound tok _ _ _ _ _ ?_
      have hb := pow_bound hJ
      have hp := psum_le (tb S) J
      rcases Nat.lt_or_ge J 4 with hlt | hge
      · have hc : (2 : Int) ^ J ≤ 8 := by have := pow_le8 hJ; simpa [hlt] using this
        have hw : IntKind.i64.wrap ((2 : Int) ^ J * 2) = 2 ^ (J + 1) := by rw [Int.pow_succ, wrap64 (by omega) (by omega)]
        have hbJ := hbit J hlt
        have yes : tb S J = true → IntKind.i64.wrap (psum (tb S) J + 2 ^ J) = psum (tb S) (J + 1) := fun ht => by
          rw [wrap64 (by omega) (by omega), psum, if_pos ht]
        have no : tb S J = false → psum (tb S) J = psum (tb S) (J + 1) := fun ht => by
          rw [psum, if_neg (by simp [ht])]; omega
        simp -implicitDefEqProofs [h0, h1, h2, h3, h10, h11, h12, hc]
        refine CallL.ret (rhas_lv own J (by omega) hsI H') ?_
        cases b1 : rHas own J with
        | true =>
          have y := yes (by rw [hbJ, b1]; rfl)
          simp -implicitDefEqProofs [h0, h1, h2, h3, h10, h11, h12]
          refine Next.of (J + 1) (by omega) ?_
          simp [h0, h1, h2, h3, h10, hw, y]
          omega
        | false =>
          simp -implicitDefEqProofs [h0, h1, h2, h3, h10, h11, h12]
          refine CallL.ret (rhas_lv mode J (by omega) hmo H') ?_
          cases b2 : rHas mode J with
          | true =>
            have y := yes (by rw [hbJ, b1, b2]; rfl)
            simp -implicitDefEqProofs [h0, h1, h2, h3, h10, h11, h12]
            refine Next.of (J + 1) (by omega) ?_
            simp [h0, h1, h2, h3, h10, hw, y]
            omega
          | false =>
            have y := no (by rw [hbJ, b1, b2]; rfl)
            simp -implicitDefEqProofs [h0, h1, h2, h3, h10, h11, h12]
            refine Next.of (J + 1) (by omega) ?_
            simp [h0, h1, h2, h3, h10, h11, hw, ← y]
            omega
      · have hJ4 : J = 4 := by omega
        subst hJ4
        rw [← small_sum hSs.1 hSs.2] at h11
        simp -implicitDefEqProofs [h0, h1, h2, h3, h10, h11, h12]
        refine WP.loopG (σ := Nat × List Held × Bool) (fun s e B H2 => OutN s.2.1 H' (e 13) H2 ∧ s.1 ≤ l.length ∧ e 0 = heldsL f l ∧ e 1 = i64 tx ∧ e 2 = i64 res ∧ e 11 = i64 S ∧ e 14 = .bool s.2.2 ∧ e 15 = i64 s.1 ∧ (l.take s.1).foldl (gst tx res ⟨tx, res, S⟩) ([], false) = s.2) (fun s => l.length - s.1) (0, [], false) ?_ ?_
        · simp [OutN, h0, h1, h2, h11]
        · clear h0 h1 h2 h3 h10 h11 h12
          rintro ⟨k, out, done⟩ e B H2 ⟨ho, hk, h0, h1, h2, h11, h14, h15, hf⟩
          simp only [] at ho hk h14 h15 hf
          have hol : out.length ≤ k := by
            have := gst_len tx res ⟨tx, res, S⟩ (l.take k) ([], false)
            rw [hf] at this
            simp at this
            omega
          refine vc_sound tok _ _ _ _ _ ?_
          rcases Nat.lt_or_ge k l.length with hlt | hge
          · have hw : IntKind.i64.wrap ((k : Int) + 1) = ((k + 1 : Nat) : Int) := by rw [wrap64 (by omega) (by omega)]; omega
            have hf' : (l.take (k + 1)).foldl (gst tx res ⟨tx, res, S⟩) ([], false) = gst tx res ⟨tx, res, S⟩ (out, done) l[k] := by
              rw [List.take_add_one, List.getElem?_eq_getElem hlt, Option.toList_some, List.foldl_append, hf]; rfl
            have other : gOwn tx res l[k] = false → (l.take (k + 1)).foldl (gst tx res ⟨tx, res, S⟩) ([], false) = (out ++ [l[k]], done) := fun h => by rw [hf', gst, if_neg (by simp [h])]
            by_cases c1 : l[k].tx = tx
            · by_cases c2 : l[k].res = res
              · have ho1 : gOwn tx res l[k] = true := gOwn_iff.2 ⟨c1, c2⟩
                cases done with
                | true =>
                  have hh : (l.take (k + 1)).foldl (gst tx res ⟨tx, res, S⟩) ([], false) = (out, true) := by rw [hf', gst, if_pos ho1]; simp
                  simp -implicitDefEqProofs [h0, h1, h2, h11, h14, h15, heldsL, hlt, Held.lv, seg, c1, c2]
                  refine Next.of (k + 1, out, true) (by simp only []; omega) ?_
                  simp [h0, h1, h2, h11, h14, heldsL, hw, ho, hh]
                  omega
                | false =>
                  have hh : (l.take (k + 1)).foldl (gst tx res ⟨tx, res, S⟩) ([], false) = (out ++ [⟨tx, res, S⟩], true) := by rw [hf', gst, if_pos ho1]; simp
                  simp -implicitDefEqProofs [h0, h1, h2, h11, h14, h15, heldsL, hlt, Held.lv, seg, c1, c2]
                  refine ho.append ⟨tx, res, S⟩ true (by omega) fun z H3 hz => ?_
                  simp -implicitDefEqProofs [h0, h1, h2, h11, h14, h15]
                  refine Next.of (k + 1, out ++ [⟨tx, res, S⟩], true) (by simp only []; omega) ?_
                  simp [h0, h1, h2, h11, heldsL, hw, hz, hh]
                  omega
              · have hh := other (gOwn_not.2 fun h => c2 h.2)
                have d1 : decide (l[k].tx = tx) = true := decide_eq_true c1
                simp -implicitDefEqProofs [h0, h1, h2, h11, h14, h15, heldsL, hlt, Held.lv, seg, d1, c2]
                refine ho.append l[k] true (by omega) fun z H3 hz => ?_
                simp -implicitDefEqProofs [h0, h1, h2, h11, h14, h15]
                refine Next.of (k + 1, out ++ [l[k]], done) (by simp only []; omega) ?_
                simp [h0, h1, h2, h11, h14, heldsL, hw, hz, hh]
                omega
            · have hh := other (gOwn_not.2 fun h => c1 h.1)
              simp -implicitDefEqProofs [h0, h1, h2, h11, h14, h15, heldsL, hlt, Held.lv, seg, c1]
              refine ho.append l[k] true (by omega) fun z H3 hz => ?_
              simp -implicitDefEqProofs [h0, h1, h2, h11, h14, h15]
              refine Next.of (k + 1, out ++ [l[k]], done) (by simp only []; omega) ?_
              simp [h0, h1, h2, h11, h14, heldsL, hw, hz, hh]
              omega
          · have hn : ¬ k < l.length := by omega
            rw [List.take_of_length_le hge] at hf
            rw [hf]
            have hg := ho.glob
            cases done with
            | true =>
              simp -implicitDefEqProofs [h0, h1, h2, h11, h14, h15, heldsL, hn, hg]
              exact ho.tup 0
            | false =>
              simp -implicitDefEqProofs [h0, h1, h2, h11, h14, h15, heldsL, hn]
              refine ho.append ⟨tx, res, S⟩ true (by omega) fun z H3 hz => ?_
              have hg := hz.glob
              simp -implicitDefEqProofs [h0, h1, h2, h11, h14, h15, hg]
              exact hz.tup 0
end Go.Lv
