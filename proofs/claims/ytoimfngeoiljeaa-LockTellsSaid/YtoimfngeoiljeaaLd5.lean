/- Contracts of bobbinref12: Holds, Safe. -/
import Derived.Test.YtoimfngeoiljeaaLp3
namespace Go.Lv
open Go Go.Proofs
set_option maxRecDepth 10000
set_option linter.unusedSimpArgs false
set_option linter.unusedVariables false

/-- All its numbers have 64 bits. -/
def Hok (h : Held) : Prop := inI h.tx ∧ inI h.res ∧ inI h.mode

/-! ### Small numbers, bit by bit -/
def psum (f : Nat → Bool) : Nat → Int
  | 0 => 0
  | J + 1 => psum f J + (if f J = true then 2 ^ J else 0)
theorem psum_le (f : Nat → Bool) : ∀ J, 0 ≤ psum f J ∧ psum f J < 2 ^ J
  | 0 => by simp [psum]
  | J + 1 => by
    have := psum_le f J
    have h2 : (2 : Int) ^ (J + 1) = 2 ^ J * 2 := Int.pow_succ 2 J
    unfold psum
    split <;> omega
theorem psum_congr {f g : Nat → Bool} : ∀ {J : Nat}, (∀ j, j < J → f j = g j) → psum f J = psum g J
  | 0, _ => rfl
  | J + 1, h => by unfold psum; rw [psum_congr fun j hj => h j (by omega), h J (by omega)]
theorem inI_small {n : Int} (h0 : 0 ≤ n) (h1 : n ≤ 15) : inI n := by unfold inI; omega
theorem small_sum {n : Int} (h0 : 0 ≤ n) (h1 : n ≤ 15) : n = psum (tb n) 4 := by
  have hi := inI_small h0 h1
  simp only [psum]
  rw [← rHas_tb n hi 0 (by decide), ← rHas_tb n hi 1 (by decide), ← rHas_tb n hi 2 (by decide), ← rHas_tb n hi 3 (by decide)]
  have hr : rN n = n := by unfold rN; rw [if_neg (by omega)]
  unfold rHas
  rw [hr]
  simp only [decide_eq_true_eq, Int.reducePow]
  split <;> split <;> split <;> split <;> omega
theorem small_of_tb {n : Int} (hi : inI n) (h : ∀ j, j < 64 → tb n j = true → j < 4) : 0 ≤ n ∧ n ≤ 15 := by
  have hn : (BitVec.ofInt 64 n).toNat < 2 ^ 4 := by
    refine Nat.lt_pow_two_of_testBit _ fun j hj => ?_
    by_cases h64 : j < 64
    · rw [Bool.eq_false_iff]
      intro ht
      have := h j h64 ht
      omega
    · exact tb_ge n j (by omega)
  rw [BitVec.toNat_ofInt] at hn
  unfold inI at hi
  omega
theorem holds_small (l : List Held) (tx res : Int) : 0 ≤ gHolds l tx res ∧ gHolds l tx res ≤ 15 :=
  small_of_tb (inI_gHolds _ _ _) fun _ hj h => tb_holds_small hj h
theorem bor_small {a b : Int} (ha : 0 ≤ a) (ha' : a ≤ 15) (hb : 0 ≤ b) (hb' : b ≤ 15) : 0 ≤ bor a b ∧ bor a b ≤ 15 :=
  small_of_tb (inI_bor _ _) fun j _ h => by
    rw [tb_bor, Bool.or_eq_true] at h
    rcases h with h | h
    · exact tb_small ha ha' j h
    · exact tb_small hb hb' j h

theorem pow_le8 {J : Nat} (h : J ≤ 4) : (decide ((2 : Int) ^ J ≤ 8)) = decide (J < 4) := by
  have : J = 0 ∨ J = 1 ∨ J = 2 ∨ J = 3 ∨ J = 4 := by omega
  rcases this with rfl | rfl | rfl | rfl | rfl <;> rfl
theorem pow_bound {J : Nat} (h : J ≤ 4) : (1 : Int) ≤ 2 ^ J ∧ (2 : Int) ^ J ≤ 16 := by
  have : J = 0 ∨ J = 1 ∨ J = 2 ∨ J = 3 ∨ J = 4 := by omega
  rcases this with rfl | rfl | rfl | rfl | rfl <;> decide

theorem rholds_lv (f : Bool) (l : List Held) (tx res : Int) (H : OHeap) (hl : l.length < 2 ^ 40) (hok : ∀ h ∈ l, Hok h) : CallL Try.prog 23 [heldsL f l, i64 tx, i64 res] H fun x H' => x = i64 (gHolds l tx res) ∧ H' = H := by
  refine CallL.of_vc (n := 3) tok Try.func23 (c := _) rfl (by kernel_rfl) rfl ?_
  simp -implicitDefEqProofs
  refine WP.loopG (σ := Nat) (fun J e B H' => H' = H ∧ J ≤ 4 ∧ e 0 = heldsL f l ∧ e 1 = i64 tx ∧ e 2 = i64 res ∧ e 7 = i64 (psum (tb (gHolds l tx res)) J) ∧ e 8 = i64 (2 ^ J)) (fun J => 4 - J) 0 ?_ ?_
  · simp [psum]
  · rintro J e B H' ⟨rfl, hJ, h0, h1, h2, h7, h8⟩
    refine vc_sound tok _ _ _ _ _ ?_
    have hb := pow_bound hJ
    have hp := psum_le (tb (gHolds l tx res)) J
    rcases Nat.lt_or_ge J 4 with hlt | hge
    · have hc : (2 : Int) ^ J ≤ 8 := by have := pow_le8 hJ; simpa [hlt] using this
      have hw : IntKind.i64.wrap ((2 : Int) ^ J * 2) = 2 ^ (J + 1) := by rw [Int.pow_succ, wrap64 (by omega) (by omega)]
      simp -implicitDefEqProofs [h0, h1, h2, h7, h8, hc]
      refine WP.loopG (σ := Nat) (fun k e B H'' => H'' = H' ∧ k ≤ l.length ∧ e 0 = heldsL f l ∧ e 1 = i64 tx ∧ e 2 = i64 res ∧ e 7 = i64 (psum (tb (gHolds l tx res)) J) ∧ e 8 = i64 (2 ^ J) ∧ e 9 = .bool ((l.take k).any (own tx res J)) ∧ e 10 = i64 k) (fun k => l.length - k) 0 ?_ ?_
      · simp [h0, h1, h2, h7, h8]
      · clear h0 h1 h2 h7 h8
        rintro k e B H'' ⟨rfl, hk, h0, h1, h2, h7, h8, h9, h10⟩
        refine vc_sound tok _ _ _ _ _ ?_
        rcases Nat.lt_or_ge k l.length with hkl | hkg
        · have hwk : IntKind.i64.wrap ((k : Int) + 1) = ((k + 1 : Nat) : Int) := by rw [wrap64 (by omega) (by omega)]; omega
          have hm := hok l[k] (List.getElem_mem hkl)
          have ht : (l.take (k + 1)).any (own tx res J) = ((l.take k).any (own tx res J) || (decide (l[k].tx = tx) && (decide (l[k].res = res) && rHas l[k].mode J))) := by
            rw [List.take_add_one, List.getElem?_eq_getElem hkl, List.any_append, rHas_tb _ hm.2.2 J (by omega)]
            simp [own, hlt, Bool.and_assoc]
          simp -implicitDefEqProofs [h0, h1, h2, h7, h8, h9, h10, heldsL, hkl, Held.lv]
          refine CallL.ret (rhas_lv l[k].mode J (by omega) hm.2.2 H'') ?_
          cases h9v : (l.take k).any (own tx res J) with
          | true =>
            rw [h9v] at h9
            simp -implicitDefEqProofs [h0, h1, h2, h7, h8, h9, h10, heldsL, hkl, Held.lv]
            refine Next.of (k + 1) (by omega) ?_
            simp [h0, h1, h2, h7, h8, heldsL, hwk, ht, h9v]
            omega
          | false =>
            rw [h9v] at h9
            by_cases e1 : l[k].tx = tx
            · by_cases e2 : l[k].res = res
              · simp -implicitDefEqProofs [h0, h1, h2, h7, h8, h9, h10, heldsL, hkl, Held.lv, e1, e2]
                refine Next.of (k + 1) (by omega) ?_
                simp [h0, h1, h2, h7, h8, heldsL, hwk, ht, h9v, e1, e2]
                omega
              · simp -implicitDefEqProofs [h0, h1, h2, h7, h8, h9, h10, heldsL, hkl, Held.lv, e1, e2]
                refine Next.of (k + 1) (by omega) ?_
                simp [h0, h1, h2, h7, h8, heldsL, hwk, ht, h9v, e1, e2]
                omega
            · simp -implicitDefEqProofs [h0, h1, h2, h7, h8, h9, h10, heldsL, hkl, Held.lv, e1]
              refine Next.of (k + 1) (by omega) ?_
              simp [h0, h1, h2, h7, h8, heldsL, hwk, ht, h9v, e1]
              omega
        · have hn : ¬ k < l.length := by omega
          have hall : (l.take k).any (own tx res J) = tb (gHolds l tx res) J := by rw [List.take_of_length_le hkg, tb_gHolds _ _ _ _ (by omega)]
          rw [hall] at h9
          cases htb : tb (gHolds l tx res) J with
          | true =>
            rw [htb] at h9
            have hs : IntKind.i64.wrap (psum (tb (gHolds l tx res)) J + 2 ^ J) = psum (tb (gHolds l tx res)) (J + 1) := by
              rw [wrap64 (by omega) (by omega), psum, if_pos htb]
            simp -implicitDefEqProofs [h0, h1, h2, h7, h8, h9, h10, heldsL, hn]
            refine Next.of (J + 1) (by omega) ?_
            simp [h0, h1, h2, heldsL, hw, hs]
            omega
          | false =>
            rw [htb] at h9
            have hs : psum (tb (gHolds l tx res)) (J + 1) = psum (tb (gHolds l tx res)) J := by
              rw [psum, if_neg (by simp [htb])]; omega
            simp -implicitDefEqProofs [h0, h1, h2, h7, h8, h9, h10, heldsL, hn]
            refine Next.of (J + 1) (by omega) ?_
            simp [h0, h1, h2, h7, heldsL, hw, hs]
            omega
    · have hJ4 : J = 4 := by omega
      subst hJ4
      have hs := holds_small l tx res
      rw [← small_sum hs.1 hs.2] at h7
      simp -implicitDefEqProofs [h0, h1, h2, h7, h8]
      exact Ends.of ⟨rfl, rfl⟩

/-! ### Safe -/
theorem safe_pairs (l : List Held) : gSafe l = true ↔ ∀ i (hi : i < l.length), ∀ k (hk : k < i), ¬ (l[i].tx ≠ l[k].tx ∧ l[i].res = l[k].res ∧ gClash l[i].mode l[k].mode = true) := by
  rw [gSafe_iff]
  constructor
  · rintro h i hi k hk ⟨h1, h2, h3⟩
    rw [h l[k] (List.getElem_mem (by omega)) l[i] (List.getElem_mem hi) h1 h2] at h3
    cases h3
  · intro h a ha b hb h1 h2
    obtain ⟨i, hi, rfl⟩ := List.mem_iff_getElem.1 ha
    obtain ⟨k, hk, rfl⟩ := List.mem_iff_getElem.1 hb
    rw [Bool.eq_false_iff]
    intro hc
    rcases Nat.lt_trichotomy i k with hik | hik | hik
    · exact h k hk i hik ⟨h1, h2, hc⟩
    · subst hik; exact h1 rfl
    · rw [clash_comm] at hc; exact h i hi k hik ⟨fun e => h1 e.symm, h2.symm, hc⟩

theorem rsafe_lv (f : Bool) (l : List Held) (H : OHeap) (hl : l.length < 2 ^ 40) (hok : ∀ h ∈ l, Hok h) : CallL Try.prog 24 [heldsL f l] H fun x H' => x = .bool (gSafe l) ∧ H' = H := by
  refine CallL.of_vc (n := 1) tok Try.func24 (c := _) rfl (by kernel_rfl) rfl ?_
  simp -implicitDefEqProofs
  refine WP.loopG (σ := Nat) (fun i e B H' => H' = H ∧ i ≤ l.length ∧ e 0 = heldsL f l ∧ e 3 = i64 i ∧ ∀ i' (hi : i' < l.length), i' < i → ∀ k (hk : k < i'), ¬ (l[i'].tx ≠ l[k].tx ∧ l[i'].res = l[k].res ∧ gClash l[i'].mode l[k].mode = true)) (fun i => l.length - i) 0 ?_ ?_
  · simp
  · rintro i e B H' ⟨rfl, hi, h0, h3, hs⟩
    refine vc_sound tok _ _ _ _ _ ?_
    rcases Nat.lt_or_ge i l.length with hlt | hge
    · have hw : IntKind.i64.wrap ((i : Int) + 1) = ((i + 1 : Nat) : Int) := by rw [wrap64 (by omega) (by omega)]; omega
      simp -implicitDefEqProofs [h0, h3, heldsL, hlt]
      refine WP.loopG (σ := Nat) (fun k e B H'' => H'' = H' ∧ k ≤ i ∧ e 0 = heldsL f l ∧ e 3 = i64 i ∧ e 4 = i64 k ∧ ∀ k' (hk : k' < i), k' < k → ¬ (l[i].tx ≠ l[k'].tx ∧ l[i].res = l[k'].res ∧ gClash l[i].mode l[k'].mode = true)) (fun k => i - k) 0 ?_ ?_
      · simp [h0, h3]
      · clear h0 h3
        rintro k e B H'' ⟨rfl, hk, h0, h3, h4, hp⟩
        refine vc_sound tok _ _ _ _ _ ?_
        rcases Nat.lt_or_ge k i with hki | hkg
        · have hwk : IntKind.i64.wrap ((k : Int) + 1) = ((k + 1 : Nat) : Int) := by rw [wrap64 (by omega) (by omega)]; omega
          have hkl : k < l.length := by omega
          have m1 := hok l[i] (List.getElem_mem hlt)
          have m2 := hok l[k] (List.getElem_mem hkl)
          have next : ¬ (l[i].tx ≠ l[k].tx ∧ l[i].res = l[k].res ∧ gClash l[i].mode l[k].mode = true) → ∀ k' (hk : k' < i), k' < k + 1 → ¬ (l[i].tx ≠ l[k'].tx ∧ l[i].res = l[k'].res ∧ gClash l[i].mode l[k'].mode = true) := fun h k' hk' hk'' => by
            by_cases e : k' = k
            · subst e; exact h
            · exact hp k' hk' (by omega)
          simp -implicitDefEqProofs [h0, h3, h4, heldsL, hki]
          refine WP.draws tok mixed [(0, []), (1, []), (2, []), (3, []), (4, []), (5, []), (6, []), (7, []), (8, []), (9, []), (10, []), (11, [])] [0, 0, 3, 7, 15, 0, 0, 96, 224, 480, 1023, 2047] 3071 [] (by kernel_rfl) ?_
          simp -implicitDefEqProofs [h0, h3, h4, heldsL, hki, hkl, hlt, Held.lv, seg]
          refine CallL.ret (rclash_lv l[i].mode l[k].mode m1.2.2 m2.2.2 H'') ?_
          rw [← clash_eq _ _ m1.2.2 m2.2.2]
          simp -implicitDefEqProofs [h0, h3, h4, heldsL, hki, hkl, hlt, Held.lv, seg]
          refine WP.draws tok mixed [(0, []), (1, []), (2, []), (3, []), (4, []), (5, []), (6, []), (7, []), (8, []), (9, []), (10, []), (11, []), (12, []), (13, []), (14, []), (15, []), (16, []), (17, []), (18, []), (19, []), (20, []), (21, []), (22, []), (23, []), (24, []), (25, []), (26, [])] [0, 0, 3, 7, 15, 0, 0, 96, 224, 480, 1023, 2047, 4095, 4095, 16383, 32767, 65535, 4095, 4095, 397311, 921599, 1970175, 4194303, 8388607, 16777215, 33554431, 67108863] 134217727 [] (by kernel_rfl) ?_
          by_cases e1 : l[i].tx = l[k].tx
          · simp -implicitDefEqProofs [h0, h3, h4, heldsL, hki, hkl, hlt, Held.lv, seg, e1]
            refine Next.of (k + 1) (by omega) ?_
            simp [h0, h3, heldsL, hwk]
            exact ⟨by omega, by simpa [e1] using next (fun h => h.1 e1)⟩
          · by_cases e2 : l[i].res = l[k].res
            · cases e3 : gClash l[i].mode l[k].mode with
              | true =>
                simp -implicitDefEqProofs [h0, h3, h4, heldsL, hki, hkl, hlt, Held.lv, seg, e1, e2]
                refine Ends.of ⟨?_, rfl⟩
                have : gSafe l = false := by
                  rw [Bool.eq_false_iff]
                  intro h
                  exact (safe_pairs l).1 h i hlt k hki ⟨e1, e2, e3⟩
                rw [this]
              | false =>
                simp -implicitDefEqProofs [h0, h3, h4, heldsL, hki, hkl, hlt, Held.lv, seg, e1, e2]
                refine Next.of (k + 1) (by omega) ?_
                simp [h0, h3, heldsL, hwk]
                exact ⟨by omega, by simpa [e2] using next (fun h => by rw [e3] at h; exact absurd h.2.2 (by simp))⟩
            · simp -implicitDefEqProofs [h0, h3, h4, heldsL, hki, hkl, hlt, Held.lv, seg, e1, e2]
              refine Next.of (k + 1) (by omega) ?_
              simp [h0, h3, heldsL, hwk]
              exact ⟨by omega, by simpa using next (fun h => e2 h.2.1)⟩
        · have hn : ¬ k < i := by omega
          have hkk : k = i := by omega
          subst hkk
          simp -implicitDefEqProofs [h0, h3, h4, heldsL, hn]
          refine Next.of (k + 1) (by omega) ?_
          simp [h0, heldsL, hw]
          refine ⟨by omega, fun i' hi' hi'' k' hk' => ?_⟩
          by_cases e : i' = k
          · subst e; simpa using hp k' hk' hk'
          · simpa using hs i' hi' (by omega) k' hk'
    · have hn : ¬ i < l.length := by omega
      simp -implicitDefEqProofs [h0, h3, heldsL, hn]
      refine Ends.of ⟨?_, rfl⟩
      rw [(safe_pairs l).2 fun i' hi' k hk => hs i' hi' (by omega) k hk]
end Go.Lv
