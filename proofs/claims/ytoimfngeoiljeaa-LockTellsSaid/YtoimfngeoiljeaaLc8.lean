/- lock.Safe, lock.Grant. -/
import Derived.Test.YtoimfngeoiljeaaLc7
namespace Go.Lv
open Go Go.Proofs
set_option maxRecDepth 10000
set_option linter.unusedSimpArgs false

def gSafe (l : List Held) : Bool := l.all fun h => (gBlockers l h.tx h.res h.mode).isEmpty

theorem SealI.glob {l : List Int} {H H' : OHeap} {x : LV} (h : SealI l H x H') : x.glob = true := by obtain ⟨⟨f, rfl⟩, _⟩ := h; rfl

theorem safe_lv (f : Bool) (l : List Held) (H : OHeap) (hl : l.length < 2 ^ 40) : CallL Try.prog 16 [heldsL f l] H fun x H' => x = .bool (gSafe l) ∧ H' = H := by
  refine CallL.of_vc (n := 1) tok Try.func16 (c := _) rfl (by kernel_rfl) rfl ?_
  simp -implicitDefEqProofs [heldsL]
  refine WP.loopG (σ := Nat) (fun k e B H' => H' = H ∧ k ≤ l.length ∧ e 0 = heldsL f l ∧ e 5 = heldsL f l ∧ e 6 = i64 l.length ∧ e 7 = i64 k ∧ gSafe l = (l.drop k).all fun h => (gBlockers l h.tx h.res h.mode).isEmpty) (fun k => l.length - k) 0 ?_ ?_
  · simp [heldsL, gSafe]
  · rintro k e B H' ⟨rfl, hk, h0, h5, h6, h7, hs⟩
    refine vc_sound tok _ _ _ _ _ ?_
    rcases Nat.lt_or_ge k l.length with hlt | hge
    · have hw : IntKind.i64.wrap ((k : Int) + 1) = ((k + 1 : Nat) : Int) := by rw [wrap64 (by omega) (by omega)]; omega
      rw [gl_of hlt, List.all_cons] at hs
      simp -implicitDefEqProofs [h0, h5, h6, h7, heldsL, hlt, Held.lv, seg]
      refine (blockers_lv f l _ _ _ H' hl).mono fun x H'' hx => ?_
      obtain ⟨⟨f', rfl⟩, rfl⟩ := hx
      generalize gBlockers l l[k].tx l[k].res l[k].mode = bl at hs
      cases bl with
      | nil =>
        simp -implicitDefEqProofs [intsL, h7]
        refine Next.of (k + 1) (by omega) ?_
        simp [h0, h5, h6, heldsL, hw]
        exact ⟨by omega, by simpa using hs⟩
      | cons y bl =>
        have : (0 : Int) < (bl.length : Int) + 1 := by omega
        simp -implicitDefEqProofs [intsL, h7, this]
        exact Ends.of ⟨by rw [hs]; simp, rfl⟩
    · have hn : ¬ k < l.length := by omega
      have hd : l.drop k = [] := by simp; omega
      rw [hd] at hs
      simp -implicitDefEqProofs [h0, h5, h6, h7, heldsL, hn]
      exact Ends.of ⟨by rw [hs]; rfl, rfl⟩

/-- A slice of records that the call builds by append. -/
def OutH (out : List Held) (H : OHeap) (x : LV) (H' : OHeap) : Prop :=
  (out = [] ∧ x = .isl true 3 [] ∧ H' = H) ∨ (out ≠ [] ∧ ∃ b c rest, H b = none ∧ out.length ≤ c ∧ x = .sl b 0 out.length c ∧ H' = setH H b (rowO out rest c))

theorem OwnOf.out {l : List Held} {H H' : OHeap} {x : LV} (h : OwnOf l H x H') : OutH l H x H' := by
  rcases h with h | ⟨hne, b, c, hb, hc, rfl, rfl⟩
  · exact .inl h
  · exact .inr ⟨hne, b, c, [], hb, hc, rfl, by simp [rowO]⟩
theorem OutH.glob {out : List Held} {H H' : OHeap} {x : LV} (h : OutH out H x H') : x.glob = true := by
  rcases h with ⟨_, rfl, _⟩ | ⟨_, b, c, rest, _, _, rfl, _⟩ <;> rfl

/-- append of records to a row in any memory. -/
theorem append_rows {b c : Nat} {out hs : List Held} {rest : List LV} {H : OHeap} {y : LV} (hH : H b = some (rowO out rest c)) (hc : out.length ≤ c) (hy : srcL H 3 y = some (hs.length, (hs.map Held.lv).flatten)) (hl : out.length + hs.length < 2 ^ 40) {Q : LV → OHeap → Prop}
    (hroom : ∀ rest', out.length + hs.length ≤ c → Q (.sl b 0 (out ++ hs).length c) (setH H b (rowO (out ++ hs) rest' c)))
    (hgrow : ∀ b' c', H b' = none → (out ++ hs).length ≤ c' → Q (.sl b' 0 (out ++ hs).length c') (setH (delH H b) b' (rowO (out ++ hs) [] c'))) : appL H 3 24 (.sl b 0 out.length c) y Q := by
  unfold appL
  rw [hy]
  simp only []
  rw [hH]
  unfold rowO
  simp only [Nat.zero_add, List.drop_zero]
  have e1 : ((out.map Held.lv).flatten ++ rest).take (out.length * 3) = (out.map Held.lv).flatten := by rw [List.take_left' (held_flen out)]
  have hmul : out.length * 3 ≤ c * 3 := Nat.mul_le_mul_right _ hc
  refine ⟨held_one hs, ⟨by rw [List.length_append, held_flen]; omega, Nat.le_refl _, by rw [e1]; exact held_one out⟩, fun h => ?_, fun h => ⟨by unfold room; omega, fun b' c' hb' hc' => ?_⟩⟩
  · have := hroom (rest.drop ((hs.map Held.lv).flatten.length)) h
    rw [List.length_append] at this
    have e2 : seg ((out.map Held.lv).flatten ++ rest) (out.length * 3) (hs.map Held.lv).flatten = ((out ++ hs).map Held.lv).flatten ++ rest.drop ((hs.map Held.lv).flatten.length) := by
      unfold seg
      rw [e1, List.map_append, List.flatten_append, ← held_flen out, List.drop_append]
      simp
    rw [e2]
    exact this
  · have := hgrow b' c' hb' (by rw [List.length_append]; exact hc')
    rw [List.length_append] at this
    rw [e1]
    have e3 : (out.map Held.lv).flatten ++ (hs.map Held.lv).flatten = ((out ++ hs).map Held.lv).flatten := by rw [List.map_append, List.flatten_append]
    rw [e3]
    simpa [rowO] using this

theorem src_isl (H : OHeap) (f : Bool) (hs : List Held) : srcL H 3 (.isl f 3 (hs.map Held.lv)) = some (hs.length, (hs.map Held.lv).flatten) := by simp [srcL]
theorem src_row {H : OHeap} {b c : Nat} {hs : List Held} {rest : List LV} (hH : H b = some (rowO hs rest c)) : srcL H 3 (.sl b 0 hs.length c) = some (hs.length, (hs.map Held.lv).flatten) := by
  unfold srcL
  by_cases h0 : hs.length = 0
  · have : hs = [] := List.eq_nil_of_length_eq_zero h0
    subst this; simp
  · simp only [if_neg h0, hH]
    unfold rowO
    simp only [Nat.zero_add, List.drop_zero]
    rw [if_pos (by rw [List.length_append, held_flen]; omega), List.take_left' (held_flen hs)]

theorem OutH.append {out hs : List Held} {H H' : OHeap} {x y : LV} (h : OutH out H x H') (hy : srcL H' 3 y = some (hs.length, (hs.map Held.lv).flatten)) (hne : hs ≠ []) (hl : out.length + hs.length < 2 ^ 40) {Q : LV → OHeap → Prop}
    (hq : ∀ z H'', OutH (out ++ hs) H z H'' → Q z H'') : appL H' 3 24 x y Q := by
  have hlen : 0 < hs.length := List.length_pos_iff.2 hne
  rcases h with ⟨rfl, rfl, rfl⟩ | ⟨hne', b, c, rest, hb, hc, rfl, rfl⟩
  · unfold appL
    rw [hy]
    simp only [List.flatten_nil, List.all_nil, List.length_nil, Nat.zero_add, List.nil_append, true_and]
    refine ⟨held_one hs, fun h => by omega, fun _ => ⟨by simp at hl; unfold room; omega, fun b c hb hc => ?_⟩⟩
    exact hq _ _ (.inr ⟨by simpa using hne, b, c, [], hb, by simpa using hc, by simp, by simp [rowO]⟩)
  · refine append_rows (rest := rest) (by simp) hc hy hl (fun rest' hr => ?_) (fun b' c' hb' hc' => ?_)
    · exact hq _ _ (.inr ⟨by simp [hne'], b, c, rest', hb, by simpa using hr, rfl, by rw [setH_setH]⟩)
    · have hbb : b' ≠ b := fun h => by subst h; simp at hb'
      exact hq _ _ (.inr ⟨by simp [hne'], b', c', [], by simpa [hbb] using hb', hc', rfl, by rw [delH_setH hb]⟩)
end Go.Lv
