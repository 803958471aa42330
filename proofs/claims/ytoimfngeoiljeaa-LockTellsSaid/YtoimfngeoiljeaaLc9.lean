/- lock.Grant. -/
import Derived.Test.YtoimfngeoiljeaaLc8
namespace Go.Lv
open Go Go.Proofs
set_option maxRecDepth 10000
set_option linter.unusedSimpArgs false

/-- lock.Grant's answer. -/
def gOwn (tx res : Int) (h : Held) : Bool := decide (h.tx = tx) && decide (h.res = res)
def gGrant (l : List Held) (tx res mode : Int) : List Held × Int :=
  if tx < 1 ∨ 255 < tx ∨ res < -1 ∨ 65535 < res ∨ mode < 1 ∨ 15 < mode then ([], 1)
  else if gBlockers l tx res mode ≠ [] then ([], 5)
  else
    let h : Held := ⟨tx, res, bor (gHolds l tx res) mode⟩
    if l.all (fun h => !gOwn tx res h) = true then (l ++ [h], 0)
    else (l.takeWhile (fun h => !gOwn tx res h) ++ [h] ++ (l.dropWhile (fun h => !gOwn tx res h)).filter (fun h => !gOwn tx res h), 0)

/-- A slice and a code. -/
def GrantOf (r : List Held × Int) (H : OHeap) (x : LV) (H' : OHeap) : Prop := (∃ f, x = .tup [heldsL f r.1, i64 r.2]) ∧ H' = H

theorem gIndex_split (p : Held → Bool) : ∀ (l : List Held) (k i : Nat), gIndex p k l = ((k + i : Nat) : Int) → l.takeWhile (fun h => !p h) = l.take i ∧ l.dropWhile (fun h => !p h) = l.drop i ∧ l.all (fun h => !p h) = false
  | [], k, i, h => by simp [gIndex] at h; omega
  | h :: l, k, i, hg => by
    cases hp : p h with
    | true =>
      have : i = 0 := by simp [gIndex, hp] at hg; omega
      subst this
      simp [hp]
    | false =>
      have e1 : gIndex p k (h :: l) = gIndex p ((k + 1 : Nat) : Int) l := by rw [gIndex, if_neg (by simp [hp])]; simp
      rw [e1] at hg
      rcases gIndex_spec p l (k + 1) with ⟨h1, _⟩ | ⟨i', h1, h2, _⟩
      · rw [h1] at hg; omega
      · have hi : i = i' + 1 := by rw [h2] at hg; omega
        subst hi
        obtain ⟨a1, a2, a3⟩ := gIndex_split p l (k + 1) i' h2
        simp [hp, a1, a2, a3]

theorem Wk.tupNil (n : Int) (H : OHeap) : Wk (.tup [.nilsl, i64 n]) H (.tup [heldsL true [], i64 n]) H := Wk.of fun K v h => by
  cases h with
  | tup _ vs hl hh =>
    refine .tup _ vs (by simpa using hl) fun i x v hx hv => ?_
    match i with
    | 0 =>
      simp at hx; subst hx
      have := hh 0 .nilsl v rfl hv
      cases this; exact .isln _ _
    | 1 => simp at hx; subst hx; exact hh 1 _ v rfl hv
    | i + 2 => simp at hx

theorem OutH.tup {out : List Held} {H H2 : OHeap} {z : LV} (h : OutH out H z H2) (n : Int) : Ends (GrantOf (out, n) H) (.tup [z, i64 n]) H2 := by
  rcases h with ⟨rfl, rfl, rfl⟩ | ⟨hne, b, c, rest, hb, hc, rfl, rfl⟩
  · exact Ends.of ⟨⟨true, rfl⟩, rfl⟩
  · refine Ends.wk (Wk.sealB 3 (b := b) (n := c * 3) (cs := (out.map Held.lv).flatten ++ rest) (by simp [rowO]) _) ?_
    rw [delH_setH hb]
    have := sealV_whole (b := b) (c := c) (rest := rest) (held_len out) (by simpa using hc)
    rw [List.length_map] at this
    simp only [sealT, List.map_cons, List.map_nil]
    rw [this]
    exact Ends.of ⟨⟨_, rfl⟩, rfl⟩

theorem ends_row2 {Hf H : OHeap} {b b2 c : Nat} {out : List Held} {rest : List LV} (n : Int) (hb : H b = none) (hb2 : H b2 = none) (hne : b2 ≠ b) (h1 : Hf b = some (rowO out rest c)) (h2 : ∀ i, i ≠ b → i ≠ b2 → Hf i = H i) (hc : out.length ≤ c) (ho : out ≠ []) :
    Ends (GrantOf (out, n) H) (.tup [.sl b 0 out.length c, i64 n]) Hf := by
  have e : delH Hf b2 = setH H b (rowO out rest c) := by
    funext i
    simp only [delH_apply, setH_apply]
    by_cases h3 : i = b2
    · subst h3; simp [hne, hb2]
    · rw [if_neg h3]
      by_cases h4 : i = b
      · subst h4; simp [h1]
      · rw [if_neg h4, h2 i h4 h3]
  refine Ends.wk (Wk.del b2 _) ?_
  rw [e]
  exact OutH.tup (.inr ⟨ho, b, c, rest, hb, hc, rfl, rfl⟩) n

theorem grant_lv (f : Bool) (l : List Held) (tx res mode : Int) (H : OHeap) (hl : l.length < 2 ^ 38) : CallL Try.prog 18 [heldsL f l, i64 tx, i64 res, i64 mode] H (GrantOf (gGrant l tx res mode) H) := by
  refine CallL.of_wp (n := 4) tok Try.func18 (c := _) rfl (by kernel_rfl) rfl ?_
  refine WP.cut tok ?_
  simp -implicitDefEqProofs
  refine WP.cut tok ?_
  simp -implicitDefEqProofs [nobox, heldsL]
  have bad : ∀ {H}, (tx < 1 ∨ 255 < tx ∨ res < -1 ∨ 65535 < res ∨ mode < 1 ∨ 15 < mode) → Ends (GrantOf (gGrant l tx res mode) H) (.tup [.nilsl, .int .i64 1]) H := fun h => by
    exact Ends.wk (Wk.tupNil 1 _) (Ends.of ⟨⟨true, by simp [gGrant, h]⟩, rfl⟩)
  refine ⟨fun h1 => ?_, fun h1 => ⟨fun h2 => ?_, fun h2 => ⟨fun h3 => ?_, fun h3 => ⟨fun h4 => ?_, fun h4 => ⟨fun h5 => ?_, fun h5 => ⟨fun h6 => ?_, fun h6 => ?_⟩⟩⟩⟩⟩⟩
  all_goals simp only [decide_eq_true_eq, decide_eq_false_iff_not] at *
  · exact bad (.inl h1)
  · exact bad (.inr (.inl h2))
  · exact bad (.inr (.inr (.inl h3)))
  · exact bad (.inr (.inr (.inr (.inl h4))))
  · exact bad (.inr (.inr (.inr (.inr (.inl h5)))))
  · exact bad (.inr (.inr (.inr (.inr (.inr h6)))))
  have hok : ¬ (tx < 1 ∨ 255 < tx ∨ res < -1 ∨ 65535 < res ∨ mode < 1 ∨ 15 < mode) := by omega
  refine (blockers_lv f l tx res mode H (by omega)).mono fun x H'' hx => ?_
  obtain ⟨⟨f', rfl⟩, rfl⟩ := hx
  cases hbl : gBlockers l tx res mode with
  | cons y bl =>
    have h0 : (0 : Int) < (bl.length : Int) + 1 := by omega
    simp -implicitDefEqProofs [intsL, h0]
    refine Ends.wk (Wk.tupNil 5 _) (Ends.of ⟨⟨true, ?_⟩, rfl⟩)
    unfold gGrant
    rw [if_neg hok, if_pos (by rw [hbl]; simp)]
  | nil =>
    simp -implicitDefEqProofs [intsL]
    refine Then.below (Below.ibox (d := 5) (ver := 1) (cs := [i64 tx]) (by simp [nobox])) ?_
    refine Then.below (Below.ibox (d := 6) (ver := 1) (cs := [i64 res]) (by simp [nobox])) ?_
    refine Then.go tok ?_
    simp -implicitDefEqProofs [iboxV]
    refine WP.draws tok mixed [(0, []), (1, []), (2, []), (3, []), (4, []), (6, []), (5, [0, 1]), (7, []), (8, []), (9, []), (10, [])] [0, 0, 0, 0, 0, 28, 0, 124, 255, 0, 1023] 479 [11] (by kernel_rfl) ?_
    simp -implicitDefEqProofs [iboxV]
    refine CallL.ret (holds_lv f l tx res H'' (by omega)) ?_
    simp -implicitDefEqProofs [iboxV, nobox, seg]
    refine CallL.ret (index_lv _ _ (own1_lv tx res) f l H'' (by omega)) ?_
    rcases gIndex_spec (fun h => decide (h.tx = tx) && decide (h.res = res)) l 0 with ⟨hi, hfil⟩ | ⟨i, hi, hgi, htake⟩
    · have hi' : gIndex (fun h => decide (h.tx = tx) && decide (h.res = res)) 0 l = -1 := hi
      simp -implicitDefEqProofs [hi']
      refine WP.draws tok mixed [(0, []), (2, []), (3, []), (1, [2]), (4, []), (5, []), (6, [])] [0, 1, 0, 4, 15, 31, 63] 109 [] (by kernel_rfl) ?_
      simp -implicitDefEqProofs [nobox, iboxV]
      refine (clone_lv f l H'' (by omega)).mono fun x H1 hx => ?_
      have hx1 := hx.out
      simp -implicitDefEqProofs [nobox, iboxV]
      refine hx1.append (hs := [⟨tx, res, bor (gHolds l tx res) mode⟩]) (by simp [srcL, Held.lv]) (by simp) (by simp; omega) fun z H2 hz => ?_
      simp -implicitDefEqProofs [nobox, iboxV, hz.glob]
      have hg : gGrant l tx res mode = (l ++ [⟨tx, res, bor (gHolds l tx res) mode⟩], 0) := by
        unfold gGrant
        rw [if_neg hok, if_neg (by rw [hbl]; simp)]
        simp only []
        rw [if_pos]
        rw [List.all_eq_true]
        rw [List.filter_eq_self] at hfil
        exact hfil
      rw [hg]
      exact hz.tup 0
    · have hgi' : gIndex (fun h => decide (h.tx = tx) && decide (h.res = res)) 0 l = (i : Int) := by simpa using hgi
      have hi0 : ¬ (i : Int) < 0 := by omega
      simp -implicitDefEqProofs [hgi', hi0]
      refine WP.draws tok mixed [(0, []), (1, []), (2, []), (4, []), (5, []), (3, [4]), (6, []), (7, [])] [0, 0, 3, 7, 0, 16, 63, 127] 183 [] (by kernel_rfl) ?_
      simp -implicitDefEqProofs [nobox, iboxV]
      refine ⟨by omega, ?_⟩
      rw [← List.map_take]
      refine (clone_lv _ (l.take i) H'' (by rw [List.length_take]; omega)).mono fun x H1 hx => ?_
      have hx1 := hx.out
      simp -implicitDefEqProofs [nobox, iboxV]
      refine hx1.append (hs := [⟨tx, res, bor (gHolds l tx res) mode⟩]) (by simp [srcL, Held.lv]) (by simp) (by simp; omega) fun z H2 hz => ?_
      simp -implicitDefEqProofs [nobox, iboxV, hz.glob]
      have hd : List.drop i (List.take l.length (List.map Held.lv l)) = (l.drop i).map Held.lv := by rw [List.take_of_length_le (by simp), List.map_drop]
      have hg : gGrant l tx res mode = (l.take i ++ [⟨tx, res, bor (gHolds l tx res) mode⟩] ++ (l.drop i).filter (fun h => !(decide (h.tx = tx) && decide (h.res = res))), 0) := by
        obtain ⟨a1, a2, a3⟩ := gIndex_split _ l 0 i hgi
        unfold gGrant gOwn
        rw [if_neg hok, if_neg (by rw [hbl]; simp)]
        simp only []
        rw [if_neg (by rw [a3]; simp), a1, a2]
      have hone : l.take i ++ [(⟨tx, res, bor (gHolds l tx res) mode⟩ : Held)] ≠ [] := by simp
      have hol : (l.take i ++ [(⟨tx, res, bor (gHolds l tx res) mode⟩ : Held)]).length ≤ l.length + 1 := by simp; omega
      have hfl : ((l.drop i).filter (fun h => !(decide (h.tx = tx) && decide (h.res = res)))).length ≤ l.length := Nat.le_trans (List.length_filter_le _ _) (by simp)
      rw [hg]
      generalize hflE : (l.drop i).filter (fun h => !(decide (h.tx = tx) && decide (h.res = res))) = fl at hfl ⊢
      generalize l.take i ++ [(⟨tx, res, bor (gHolds l tx res) mode⟩ : Held)] = out at hz hol hone
      refine ⟨by omega, ?_⟩
      rw [hd]
      refine (clone_lv f (l.drop i) H2 (by rw [List.length_drop]; omega)).mono fun x3 H3 hx3 => ?_
      have hx3g : x3.glob = true := hx3.out.glob
      simp -implicitDefEqProofs [nobox, iboxV, hx3g]
      refine (cloneDelete_lv (own1_lv tx res) (l.drop i) H2 (by rw [List.length_drop]; omega) hx3).mono fun y H4 hy => ?_
      rcases hy with ⟨hnil, _, _⟩ | ⟨b2, c2, rest2, hb2, hc2, rfl, rfl⟩
      · simp at hnil; omega
      rcases hz with ⟨hzn, rfl, rfl⟩ | ⟨hzne, b, c, rest, hb, hc, rfl, rfl⟩
      · exact absurd hzn hone
      have hbb : b2 ≠ b := fun h => by subst h; simp at hb2
      have hb2' : H'' b2 = none := by simpa [hbb] using hb2
      simp only [hflE]
      simp -implicitDefEqProofs [nobox, iboxV]
      refine append_rows (b := b) (c := c) (out := out) (hs := fl) (rest := rest) (by simp [hbb.symm]) hc (src_row (rest := rest2) (by simp)) (by omega) (fun rest' hr => ?_) (fun b' c' hb' hc' => ?_)
      · simp -implicitDefEqProofs [nobox, iboxV]
        have := ends_row2 (Hf := setH (setH (setH H'' b (rowO out rest c)) b2 (rowO fl rest2 c2)) b (rowO (out ++ fl) rest' c)) (out := out ++ fl) (c := c) (rest := rest') 0 hb hb2' hbb (by simp) (fun i h3 h4 => by simp [h3, h4]) (by simpa using hr) (by simp [hzne])
        simpa using this
      · have hb3 : b' ≠ b2 := fun h => by subst h; simp at hb'
        have hb4 : b' ≠ b := fun h => by subst h; simp [hbb.symm] at hb'
        have hb5 : H'' b' = none := by simpa [hb3, hb4] using hb'
        simp -implicitDefEqProofs [nobox, iboxV]
        have := ends_row2 (Hf := setH (delH (setH (setH H'' b (rowO out rest c)) b2 (rowO fl rest2 c2)) b) b' (rowO (out ++ fl) [] c')) (out := out ++ fl) (c := c') (rest := []) 0 hb5 hb2' (fun h => hb3 h.symm) (by simp) (fun i h3 h4 => by
          by_cases h5 : i = b
          · subst h5; simp [h3, hb]
          · simp [h3, h4, h5]) (by simpa using hc') (by simp [hzne])
        simpa using this
end Go.Lv
