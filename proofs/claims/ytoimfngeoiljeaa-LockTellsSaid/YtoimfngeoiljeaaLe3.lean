/- A row that the body has built is read as sealed from here on; LockOrder's walk. -/
import Derived.Test.YtoimfngeoiljeaaLp2
namespace Go.Lv
open Go Go.Proofs
set_option maxRecDepth 10000
set_option linter.unusedSimpArgs false
set_option linter.unusedVariables false

section
variable {P : Program} {ρ : Option Nat} {N : Nat} {e : Env} {B : Box} {H : OHeap}
/-- Sealing leaves it as it is. -/
def LV.stb : LV → Bool
  | .sl .. | .ptr .. | .tup _ | .agg _ => false
  | _ => true
theorem sealT_stb {b es : Nat} {cs : List LV} {x : LV} (h : x.stb = true) : sealT b es cs x = x := by
  cases x <;> first | rfl | simp [LV.stb] at h
theorem Below.slot {i : Nat} {y : LV} (hy : ∀ d ver off, e i ≠ .bp d ver off) (h : ∀ K v, R K (e i) v → R K y v) : Below (N := N) e (upd e i y) B B H H := fun K jj w tmps g t => by
  refine ⟨K, jj, g, ⟨t.size, fun j => ?_⟩, Fr.refl _ _ _⟩
  have := t.get j
  simp only [upd_apply]
  split
  · rename_i hj; subst hj
    exact (h _ _ (this.r hy)).re
  · exact this
theorem sealV_rows {b c : Nat} {out : List Held} {rest : List LV} (hc : out.length ≤ c) : sealT b 3 ((out.map Held.lv).flatten ++ rest) (.sl b 0 out.length c) = heldsL (decide (c = out.length)) out := by
  have := sealV_whole (b := b) (c := c) (rest := rest) (held_len out) (by simpa using hc)
  rw [List.length_map] at this
  exact this
theorem WP.sealRow {c : Code} {Q : Post} {H' : OHeap} {i : Nat} {out : List Held} (h : OutN out H (e i) H') (k : ∀ f e', e' i = heldsL f out → (∀ j, (e j).stb = true → j ≠ i → e' j = e j) → WP P ρ N c Q e' B H) : WP P ρ N c Q e B H' := by
  rcases h with ⟨rfl, hz, rfl⟩ | ⟨hne, b, cp, rest, hb, hc, hz, rfl⟩
  · refine WP.below (Below.slot (i := i) (y := .isl true 3 []) (by rw [hz]; simp) (fun K v hv => by rw [hz] at hv; cases hv; exact .isln _ _)) ?_
    exact k true _ (by simp [heldsL]) (fun j _ hj => by simp [hj])
  · refine WP.below (Below.sealB 3 (b := b) (n := cp * 3) (cs := (out.map Held.lv).flatten ++ rest) (by simp [rowO])) ?_
    rw [delH_setH hb]
    refine k (decide (cp = out.length)) _ ?_ (fun j hj _ => by simp [sealT_stb hj])
    rw [sealE_apply, hz]
    exact sealV_rows hc
end

theorem gBlockers_len (l : List Held) (tx res mode : Int) : (gBlockers l tx res mode).length ≤ l.length := by
  unfold gBlockers
  refine Nat.le_trans (gCompact_len _) ?_
  rw [List.length_mergeSort]
  unfold gBlk
  rw [List.length_map]
  exact List.length_filter_le _ _

theorem lawOrder_lv (f : Bool) (l : List Held) (tx res mode : Int) (H : OHeap) : CallL Try.prog 4 [heldsL f l, i64 tx, i64 res, i64 mode] H fun x H' => x = .bool true ∧ H' = H := by
  refine CallL.of_vc (n := 4) tok Try.func4 (c := _) rfl (by kernel_rfl) rfl ?_
  simp -implicitDefEqProofs
  refine CallL.ret (awake_lv H) ?_
  simp -implicitDefEqProofs [heldsL]
  refine ⟨fun h => ?_, fun h => ?_⟩
  · exact Ends.of ⟨rfl, rfl⟩
  · simp only [decide_eq_false_iff_not] at h
    have hl : l.length ≤ 100 := by omega
    refine WP.loopG (σ := Nat) (fun k e B H' => OutN (l.drop k).reverse H (e 10) H' ∧ k ≤ l.length ∧ e 0 = heldsL f l ∧ e 1 = i64 tx ∧ e 2 = i64 res ∧ e 3 = i64 mode ∧ e 11 = i64 ((k : Int) - 1)) (fun k => k) l.length ?_ ?_
    · simp [heldsL, OutN]
      rw [wrap64 (by omega) (by omega)]
    · rintro k e B H' ⟨ho, hk, h0, h1, h2, h3, h11⟩
      cases k with
      | succ k =>
        have hlt : k < l.length := by omega
        have h11' : e 11 = i64 (k : Int) := by rw [h11]; congr 1; omega
        have hw : IntKind.i64.wrap ((k : Int) - 1) = (k : Int) - 1 := wrap64 (by omega) (by omega)
        have hd : (l.drop k).reverse = (l.drop (k + 1)).reverse ++ [l[k]] := by rw [List.drop_eq_getElem_cons hlt, List.reverse_cons]
        refine vc_sound tok _ _ _ _ _ ?_
        simp -implicitDefEqProofs [h0, h1, h2, h3, h11', heldsL, Held.lv, hlt]
        refine ho.append l[k] true (by simp; omega) fun z H'' hz => ?_
        simp -implicitDefEqProofs [h11']
        refine Next.of k (by omega) ?_
        simp [h0, h1, h2, h3, heldsL, hw, hd, hz]
        omega
      | zero =>
        refine WP.sealRow ho fun f' e' h10 hst => ?_
        have e0 : e' 0 = heldsL f l := by rw [hst 0 (by rw [h0]; rfl) (by decide), h0]
        have e1 : e' 1 = i64 tx := by rw [hst 1 (by rw [h1]; rfl) (by decide), h1]
        have e2 : e' 2 = i64 res := by rw [hst 2 (by rw [h2]; rfl) (by decide), h2]
        have e3 : e' 3 = i64 mode := by rw [hst 3 (by rw [h3]; rfl) (by decide), h3]
        have e11 : e' 11 = i64 (-1) := by rw [hst 11 (by rw [h11]; rfl) (by decide), h11]; rfl
        refine vc_sound tok _ _ _ _ _ ?_
        simp -implicitDefEqProofs [e0, e1, e2, e3, h10, e11]
        have hrev : ∀ x, x ∈ l ↔ x ∈ l.reverse := fun x => by simp
        rw [List.drop_zero] at h10
        refine (blockers_lv f l tx res mode H (by omega)).mono fun x H1 hx => ?_
        obtain ⟨⟨f1, rfl⟩, rfl⟩ := hx
        simp -implicitDefEqProofs [e0, e1, e2, e3, h10, e11]
        refine (blockers_lv f' l.reverse tx res mode H1 (by simp; omega)).mono fun x H2 hx => ?_
        obtain ⟨⟨f2, rfl⟩, rfl⟩ := hx
        rw [← gBlockers_perm hrev]
        have hbl : (gBlockers l tx res mode).length < 2 ^ 40 := by
          have := gBlockers_len l tx res mode
          omega
        simp -implicitDefEqProofs [e0, e1, e2, e3, h10, e11]
        refine CallL.ret (ints_lv _ _ _ _ _ hbl hbl) ?_
        simp -implicitDefEqProofs [e0, e1, e2, e3, h10, e11]
        refine CallL.ret (holds_lv _ _ _ _ _ (by omega)) ?_
        simp -implicitDefEqProofs [e0, e1, e2, e3, h10, e11]
        refine CallL.ret (holds_lv _ _ _ _ _ (by simp; omega)) ?_
        rw [← gHolds_perm hrev]
        simp -implicitDefEqProofs [e0, e1, e2, e3, h10, e11]
        refine CallL.ret (safe_lv _ _ _ (by omega)) ?_
        simp -implicitDefEqProofs [e0, e1, e2, e3, h10, e11]
        refine CallL.ret (safe_lv _ _ _ (by simp; omega)) ?_
        rw [← gSafe_perm hrev]
        simp -implicitDefEqProofs [e0, e1, e2, e3, h10, e11]
        exact Ends.of ⟨rfl, rfl⟩
end Go.Lv
