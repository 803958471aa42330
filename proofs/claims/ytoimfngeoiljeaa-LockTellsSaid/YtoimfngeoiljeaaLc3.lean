/- Contracts of the generic slices functions at rows of the call's own. -/
import Derived.Test.YtoimfngeoiljeaaLc2
namespace Go.Lv
open Go Go.Proofs
set_option maxRecDepth 10000
set_option linter.unusedSimpArgs false

theorem flat_at {es : Nat} : ∀ (xs : List (List LV)) (rest : List LV), (∀ x ∈ xs, x.length = es) → ∀ (k : Nat) (hk : k < xs.length), ((xs.flatten ++ rest).drop (k * es)).take es = xs[k]
  | x :: xs, rest, h, 0, hk => by
    have hx : x.length = es := h x (List.mem_cons_self ..)
    simp only [Nat.zero_mul, List.drop_zero, List.flatten_cons, List.append_assoc, List.getElem_cons_zero]
    rw [List.take_left' hx]
  | x :: xs, rest, h, k + 1, hk => by
    have hx : x.length = es := h x (List.mem_cons_self ..)
    simp only [List.flatten_cons, List.append_assoc, List.getElem_cons_succ]
    rw [show (k + 1) * es = x.length + k * es by rw [hx, Nat.succ_mul]; omega, List.drop_append, ]
    simp only [Nat.add_sub_cancel_left, List.drop_of_length_le (show x.length ≤ x.length + k * es by omega), List.nil_append]
    exact flat_at xs rest (fun y hy => h y (List.mem_cons_of_mem _ hy)) k (by simpa using hk)

/-- A row of records that is owned: these first, then whatever. -/
def rowO (l : List Held) (rest : List LV) (c : Nat) : LO := .cells ((l.map Held.lv).flatten ++ rest) (c * 3)

theorem row_at (l : List Held) (rest : List LV) {k : Nat} (hk : k < l.length) : (((l.map Held.lv).flatten ++ rest).drop (k * 3)).take 3 = l[k].lv := by
  have := flat_at (l.map Held.lv) rest (held_len l) k (by simpa using hk)
  rw [this]; simp
theorem row_len (l : List Held) (rest : List LV) {k : Nat} (hk : k < l.length) : 3 ≤ (((l.map Held.lv).flatten ++ rest).drop (k * 3)).length := by
  rw [List.length_drop, List.length_append, held_flen]; omega

theorem indexOwn_lv (v : LV) (p : Held → Bool) (hp : PredOf v p) (l : List Held) (rest : List LV) (b c : Nat) (H : OHeap) (hH : H b = some (rowO l rest c)) (hl : l.length < 2 ^ 40) :
    CallL Try.prog 30 [.sl b 0 l.length c, v] H fun x H' => x = i64 (gIndex p 0 l) ∧ H' = H := by
  obtain ⟨g, fst, caps, rfl, hgl, hp⟩ := hp
  refine CallL.of_vc (n := 2) tok Try.func30 (c := _) rfl (by kernel_rfl) rfl ?_
  simp -implicitDefEqProofs
  refine WP.loopG (σ := Nat) (fun k e B H' => H' = H ∧ k ≤ l.length ∧ e 0 = .sl b 0 l.length c ∧ e 1 = .fn g fst caps ∧ e 6 = .sl b 0 l.length c ∧ e 7 = i64 l.length ∧ e 8 = i64 k ∧ gIndex p k (l.drop k) = gIndex p 0 l) (fun k => l.length - k) 0 ?_ ?_
  · simp
  · rintro k e B H' ⟨rfl, hk, h0, h1, h6, h7, h8, hs⟩
    refine vc_sound tok _ _ _ _ _ ?_
    rcases Nat.lt_or_ge k l.length with hlt | hge
    · rw [gl_of hlt, gIndex] at hs
      have e1 := row_at l rest hlt
      have e2 := row_len l rest hlt
      unfold rowO at hH
      generalize (l.map Held.lv).flatten ++ rest = fl at hH e1 e2
      rw [List.length_drop] at e2
      simp -implicitDefEqProofs [h0, h1, h6, h7, h8, hlt, hH, e1, e2]
      refine ⟨by simpa using hgl, CallL.ret (hp l[k] H') ?_⟩
      have hw : IntKind.i64.wrap ((k : Int) + 1) = ((k + 1 : Nat) : Int) := by rw [wrap64 (by omega) (by omega)]; omega
      cases hpk : p l[k] with
      | true =>
        rw [if_pos hpk] at hs
        simp -implicitDefEqProofs
        exact Ends.of ⟨by rw [hs], rfl⟩
      | false =>
        rw [if_neg (by simp [hpk])] at hs
        simp -implicitDefEqProofs [h8]
        refine Next.of (k + 1) (by omega) ?_
        simp [h0, h1, h6, h7, hw, hs]
        omega
    · have : ¬ k < l.length := by omega
      have hd : l.drop k = [] := by simp; omega
      rw [hd, gIndex] at hs
      simp -implicitDefEqProofs [h0, h1, h6, h7, h8, this]
      exact Ends.of ⟨by rw [← hs], rfl⟩

theorem setH_self {H : OHeap} {b : Nat} {o : LO} (h : H b = some o) : setH H b o = H := by
  funext i; simp only [setH_apply]; split
  · rename_i hi; rw [hi, h]
  · rfl

theorem seg_row (L : List Held) (h : Held) (rest : List LV) {k : Nat} (hk : k < L.length) : seg ((L.map Held.lv).flatten ++ rest) (k * 3) h.lv = ((L.set k h).map Held.lv).flatten ++ rest := by
  induction L generalizing k with
  | nil => simp at hk
  | cons x L ih =>
    cases k with
    | zero => simp [seg, Held.lv]
    | succ k =>
      have := ih (k := k) (by simpa using hk)
      simp only [List.map_cons, List.flatten_cons, List.set_cons_succ, List.append_assoc]
      rw [← this]
      have hx : x.lv.length = 3 := rfl
      unfold seg
      rw [show (k + 1) * 3 = x.lv.length + k * 3 by rw [hx]; omega, List.take_append, List.drop_append]
      simp only [Nat.add_sub_cancel_left, List.take_of_length_le (show x.lv.length ≤ x.lv.length + k * 3 by omega), Nat.add_assoc, List.drop_of_length_le (show x.lv.length ≤ x.lv.length + (k * 3 + h.lv.length) by omega), List.nil_append, List.append_assoc]

theorem take_row (L : List Held) (rest : List LV) {i : Nat} (hi : i ≤ L.length) : ((L.map Held.lv).flatten ++ rest).take (i * 3) = ((L.take i).map Held.lv).flatten := by
  have h1 : (L.map Held.lv).flatten = ((L.take i).map Held.lv).flatten ++ ((L.drop i).map Held.lv).flatten := by
    rw [← List.flatten_append, ← List.map_append, List.take_append_drop]
  rw [h1, List.append_assoc, List.take_left']
  rw [held_flen, List.length_take]; congr 1; omega

theorem gIndex_spec (p : Held → Bool) : ∀ (l : List Held) (k : Nat), (gIndex p k l = -1 ∧ l.filter (fun h => !p h) = l) ∨ ∃ i, i < l.length ∧ gIndex p k l = ((k + i : Nat) : Int) ∧ (l.take (i + 1)).filter (fun h => !p h) = l.take i
  | [], k => .inl ⟨rfl, rfl⟩
  | h :: l, k => by
    cases hp : p h with
    | true => exact .inr ⟨0, by simp, by simp [gIndex, hp], by simp [hp]⟩
    | false =>
      have e1 : gIndex p k (h :: l) = gIndex p ((k + 1 : Nat) : Int) l := by rw [gIndex, if_neg (by simp [hp])]; simp
      rcases gIndex_spec p l (k + 1) with ⟨h1, h2⟩ | ⟨i, h1, h2, h3⟩
      · exact .inl ⟨by rw [e1, h1], by simp [hp, h2]⟩
      · exact .inr ⟨i + 1, by simpa using h1, by rw [e1, h2]; simp; omega, by simp [hp, h3]⟩

theorem seg3 (x y z a b c : LV) : seg [x, y, z] 0 [a, b, c] = [a, b, c] := rfl

/-- What slices.DeleteFunc hands back: the same row, shorter. -/
def DelOf (l : List Held) (b c : Nat) (H : OHeap) (x : LV) (H' : OHeap) : Prop := ∃ rest', x = .sl b 0 l.length c ∧ H' = setH H b (rowO l rest' c)

theorem deleteOwn_lv (v : LV) (p : Held → Bool) (hp : PredOf v p) (l : List Held) (rest : List LV) (b c : Nat) (H : OHeap) (hH : H b = some (rowO l rest c)) (hl : l.length < 2 ^ 40) (hc : l.length ≤ c) :
    CallL Try.prog 32 [.sl b 0 l.length c, v] H (DelOf (l.filter fun h => !p h) b c H) := by
  have hp' := hp
  obtain ⟨g, fst, caps, rfl, hgl, hp⟩ := hp
  refine CallL.of_vc (n := 2) tok Try.func32 (c := _) rfl (by kernel_rfl) rfl ?_
  simp -implicitDefEqProofs
  refine CallL.ret (indexOwn_lv _ p hp' l rest b c H hH hl) ?_
  rcases gIndex_spec p l 0 with ⟨h1, h2⟩ | ⟨i0, hi0, h1, h2⟩
  · simp -implicitDefEqProofs [show gIndex p 0 l = -1 from h1]
    exact Ends.of ⟨rest, by rw [h2], by rw [h2, setH_self hH]⟩
  · have h1' : gIndex p 0 l = (i0 : Int) := by simpa using h1
    have e1 : ¬ ((i0 : Int) = -1) := by omega
    have e2 : IntKind.i64.wrap ((i0 : Int) + 1) = ((i0 + 1 : Nat) : Int) := by rw [wrap64 (by omega) (by omega)]; omega
    simp -implicitDefEqProofs [h1', e1, e2]
    have hcs : c * 3 = (l.length * 3 + (c * 3 - l.length * 3)) := by omega
    refine WP.loopG (σ := Nat × Nat × List Held) (fun s e B H' => H' = setH H b (rowO s.2.2 rest c) ∧ s.2.2.length = l.length ∧ s.1 < s.2.1 ∧ s.2.1 ≤ l.length ∧ s.2.2.drop s.2.1 = l.drop s.2.1 ∧ s.2.2.take s.1 = (l.take s.2.1).filter (fun h => !p h) ∧
        e 0 = .sl b 0 l.length c ∧ e 1 = .fn g fst caps ∧ e 5 = i64 s.1 ∧ e 6 = i64 s.2.1) (fun s => l.length - s.2.1) (i0, i0 + 1, l) ?_ ?_
    · simp [setH_self hH, h2]
      omega
    · rintro ⟨i, j, L⟩ e B H' ⟨rfl, hL, hij, hj, hdr, htk, h0, h1, h5, h6⟩
      simp only [] at hL hij hj hdr htk h5 h6
      refine vc_sound tok _ _ _ _ _ ?_
      rcases Nat.lt_or_ge j l.length with hlt | hge
      · have hjL : j < L.length := by omega
        have e3 := row_at L rest hjL
        have e4 := row_len L rest hjL
        have e5 : L[j] = l[j] := by
          have h1 := List.drop_eq_getElem_cons hjL
          rw [hdr, gl_of hlt] at h1
          exact (List.cons.inj h1).1.symm
        have e6 := seg_row L L[j] rest (k := i) (by omega)
        have e7 : IntKind.i64.wrap ((j : Int) + 1) = ((j + 1 : Nat) : Int) := by rw [wrap64 (by omega) (by omega)]; omega
        have e8 : IntKind.i64.wrap ((i : Int) + 1) = ((i + 1 : Nat) : Int) := by rw [wrap64 (by omega) (by omega)]; omega
        have e9 : ((L.map Held.lv).flatten ++ rest).length = l.length * 3 + rest.length := by rw [List.length_append, held_flen, hL]
        rw [List.length_drop] at e4
        generalize hfl : (L.map Held.lv).flatten ++ rest = fl at e3 e4 e6 e9
        have e10 : l.drop (j + 1) = L.drop (j + 1) := by
          have h1 := List.drop_eq_getElem_cons hjL
          rw [hdr, gl_of hlt] at h1
          exact (List.cons.inj h1).2
        have e11 : l.take (j + 1) = l.take j ++ [L[j]] := by rw [e5, List.take_add_one]; simp [hlt]
        generalize L[j] = h at e3 e6 e5 e11
        have e3' : List.take 3 (List.drop (j * 3) fl) = [i64 h.tx, i64 h.res, i64 h.mode] := e3
        have e6' : seg fl (i * 3) [i64 h.tx, i64 h.res, i64 h.mode] = (List.map Held.lv (L.set i h)).flatten ++ rest := e6
        simp -implicitDefEqProofs [h0, h1, h5, h6, hlt, rowO, hfl, e3', e4, e9]
        simp -implicitDefEqProofs only [seg3]
        refine ⟨by omega, by simp, by simpa using hgl, ?_⟩
        refine CallL.ret (hp h _) ?_
        cases hph : p h with
        | true =>
          simp -implicitDefEqProofs [h6]
          refine Next.of (i, j + 1, L) (by simp only []; omega) ?_
          simp [h0, h1, h5, e7, rowO, hfl, hL, e10, e11, hph, htk]
          omega
        | false =>
          have e12 : i < l.length := by omega
          simp -implicitDefEqProofs [h0, h1, h5, h6, e12, seg3, e9]
          refine ⟨by omega, ?_⟩
          refine Next.of (i + 1, j + 1, L.set i h) (by simp only []; omega) ?_
          have e13 : List.take (i + 1) (L.set i h) = L.take i ++ [h] := by
            rw [List.take_add_one, List.take_set_of_le (Nat.le_refl _)]
            simp [show i < L.length by omega]
          have e14 : List.drop (j + 1) (L.set i h) = l.drop (j + 1) := by rw [List.drop_set_of_lt (by omega), e10]
          simp [h0, h1, e7, e8, e6', setH_setH, hL, e13, e14, e11, hph, htk]
          omega
      · have e3 : ¬ j < l.length := by omega
        have hjl : j = l.length := by omega
        rw [hjl, List.take_length] at htk
        have hik : i = (l.filter fun h => !p h).length := by
          have := congrArg List.length htk
          rw [List.length_take, hL] at this; omega
        simp -implicitDefEqProofs [h0, h1, h5, h6, e3, rowO, hc]
        have hlen : (List.map (List.length ∘ Held.lv) L).sum = l.length * 3 := by
          have := held_flen L
          rw [hL] at this
          simpa using this
        have htr := take_row L rest (i := i) (by omega)
        rw [htk] at htr
        refine ⟨by omega, ⟨by rw [hlen]; split <;> omega, by split <;> omega⟩, by omega, ?_⟩
        rw [setH_setH]
        by_cases hci : c = i
        · have h0 : l.length - i = 0 := by omega
          have hL2 : (l.filter fun h => !p h) = L := by rw [← htk, List.take_of_length_le (by omega)]
          rw [if_pos hci, h0, zerosL_zero]
          refine Ends.of ⟨rest, by rw [hik], ?_⟩
          rw [hL2]
          simp [rowO, seg]
        · rw [if_neg hci]
          generalize (L.map Held.lv).flatten ++ rest = fl at htr
          generalize zerosL [LV.int IntKind.i64 0, LV.int IntKind.i64 0, LV.int IntKind.i64 0] (l.length - i) = zs
          refine Ends.of ⟨zs ++ fl.drop (i * 3 + zs.length), by rw [hik], ?_⟩
          unfold rowO seg
          rw [htr, List.append_assoc]
end Go.Lv
