/- Plain laws of locks: who blocks, what one holds, what is safe. -/
import Derived.Test.YtoimfngeoiljeaaLp1
import Derived.Test.YtoimfngeoiljeaaLd4
namespace Go.Lv
open Go Go.Proofs
set_option maxRecDepth 10000
set_option linter.unusedSimpArgs false

/-! ### Lists without doubles, rising -/
theorem rising_ext {a b : List Int} (ha : a.Pairwise (· < ·)) (hb : b.Pairwise (· < ·)) (h : ∀ x, x ∈ a ↔ x ∈ b) : a = b := by
  have na : a.Nodup := ha.imp fun h => by omega
  have nb : b.Nodup := hb.imp fun h => by omega
  exact List.Perm.eq_of_pairwise (le := (· < ·)) (fun x y _ _ h1 h2 => by omega) ha hb ((List.perm_ext_iff_of_nodup na nb).2 h)

theorem compact_facts (d : Array Int) (n : Nat) (hd : ∀ i j, i ≤ j → j < n → d[i]! ≤ d[j]!) : ∀ m, m ≤ n →
    (∀ x, x ∈ Lib.compactUpTo d m ↔ ∃ j, j < m ∧ d[j]! = x) ∧ (Lib.compactUpTo d m).Pairwise (· < ·)
  | 0, _ => by simp [Lib.compactUpTo]
  | m + 1, hm => by
    obtain ⟨h1, h2⟩ := compact_facts d n hd m (by omega)
    rw [Lib.compactUpTo_succ]
    by_cases hk : Lib.keeps d m = true
    · rw [if_pos hk]
      refine ⟨fun x => ?_, ?_⟩
      · rw [List.mem_append, h1]
        constructor
        · rintro (⟨j, hj, rfl⟩ | hx)
          · exact ⟨j, by omega, rfl⟩
          · simp at hx; exact ⟨m, by omega, hx.symm⟩
        · rintro ⟨j, hj, rfl⟩
          by_cases e : j = m
          · subst e; exact .inr (by simp)
          · exact .inl ⟨j, by omega, rfl⟩
      · rw [List.pairwise_append]
        refine ⟨h2, by simp, fun x hx y hy => ?_⟩
        simp at hy; subst hy
        obtain ⟨j, hj, rfl⟩ := (h1 x).1 hx
        have a1 := hd j (m - 1) (by omega) (by omega)
        have a2 := hd (m - 1) m (by omega) (by omega)
        have a3 : d[m]! ≠ d[m - 1]! := by
          simp [Lib.keeps] at hk
          rcases hk with hk | hk
          · omega
          · exact fun h => hk h
        omega
    · rw [if_neg hk, List.append_nil]
      refine ⟨fun x => ?_, h2⟩
      rw [h1]
      have a3 : m ≠ 0 ∧ d[m]! = d[m - 1]! := by
        simp [Lib.keeps] at hk
        exact ⟨by omega, hk.2⟩
      constructor
      · rintro ⟨j, hj, rfl⟩; exact ⟨j, by omega, rfl⟩
      · rintro ⟨j, hj, rfl⟩
        by_cases e : j = m
        · subst e; exact ⟨j - 1, by omega, a3.2.symm⟩
        · exact ⟨j, by omega, rfl⟩

theorem gCompact_facts (zs : List Int) (h : zs.Pairwise (· ≤ ·)) : (∀ x, x ∈ gCompact zs ↔ x ∈ zs) ∧ (gCompact zs).Pairwise (· < ·) := by
  have hd : ∀ i j, i ≤ j → j < zs.length → (zs.toArray)[i]! ≤ (zs.toArray)[j]! := fun i j hij hj => by
    by_cases e : i = j
    · subst e; omega
    · have := List.pairwise_iff_getElem.1 h i j (by omega) hj (by omega)
      simpa [show i < zs.length by omega, hj] using this
  obtain ⟨h1, h2⟩ := compact_facts zs.toArray zs.length hd zs.length (Nat.le_refl _)
  refine ⟨fun x => ?_, h2⟩
  unfold gCompact Lib.compact
  rw [h1, List.mem_iff_getElem]
  constructor
  · rintro ⟨j, hj, rfl⟩; exact ⟨j, hj, by simp [hj]⟩
  · rintro ⟨j, hj, rfl⟩; exact ⟨j, hj, by simp [hj]⟩

/-! ### Who blocks -/
theorem mem_gBlk {l : List Held} {tx res mode y : Int} : y ∈ gBlk l tx res mode ↔ ∃ h ∈ l, h.tx ≠ tx ∧ h.res = res ∧ gClash h.mode mode = true ∧ h.tx = y := by
  unfold gBlk
  simp only [List.mem_map, List.mem_filter, Bool.and_eq_true, Bool.not_eq_true', decide_eq_true_eq, decide_eq_false_iff_not]
  constructor
  · rintro ⟨h, ⟨h1, h2, h3, h4⟩, h5⟩; exact ⟨h, h1, h2, h3, h4, h5⟩
  · rintro ⟨h, h1, h2, h3, h4, h5⟩; exact ⟨h, ⟨h1, h2, h3, h4⟩, h5⟩

theorem gBlockers_facts (l : List Held) (tx res mode : Int) : (∀ y, y ∈ gBlockers l tx res mode ↔ ∃ h ∈ l, h.tx ≠ tx ∧ h.res = res ∧ gClash h.mode mode = true ∧ h.tx = y) ∧ (gBlockers l tx res mode).Pairwise (· < ·) := by
  have hs : ((gBlk l tx res mode).mergeSort fun x y => decide (x ≤ y)).Pairwise (· ≤ ·) := by
    have := List.pairwise_mergeSort (le := fun (x y : Int) => decide (x ≤ y)) (by intro a b c; simp; omega) (by intro a b; simp; omega) (gBlk l tx res mode)
    simpa using this
  obtain ⟨h1, h2⟩ := gCompact_facts _ hs
  refine ⟨fun y => ?_, h2⟩
  unfold gBlockers
  rw [h1, (List.mergeSort_perm _ _).mem_iff, mem_gBlk]
theorem mem_gBlockers {l : List Held} {tx res mode y : Int} : y ∈ gBlockers l tx res mode ↔ ∃ h ∈ l, h.tx ≠ tx ∧ h.res = res ∧ gClash h.mode mode = true ∧ h.tx = y := (gBlockers_facts l tx res mode).1 y
theorem gBlockers_rise (l : List Held) (tx res mode : Int) : (gBlockers l tx res mode).Pairwise (· < ·) := (gBlockers_facts l tx res mode).2
theorem gBlockers_none {l : List Held} {tx res mode : Int} : gBlockers l tx res mode = [] ↔ ∀ h ∈ l, h.tx ≠ tx → h.res = res → gClash h.mode mode = false := by
  rw [List.eq_nil_iff_forall_not_mem]
  constructor
  · intro h k hk h1 h2
    rw [Bool.eq_false_iff]
    intro h3
    exact h k.tx (mem_gBlockers.2 ⟨k, hk, h1, h2, h3, rfl⟩)
  · intro h y hy
    obtain ⟨k, hk, h1, h2, h3, _⟩ := mem_gBlockers.1 hy
    rw [h k hk h1 h2] at h3; cases h3
theorem gBlockers_perm {l m : List Held} (h : ∀ x, x ∈ l ↔ x ∈ m) (tx res mode : Int) : gBlockers l tx res mode = gBlockers m tx res mode :=
  rising_ext (gBlockers_rise _ _ _ _) (gBlockers_rise _ _ _ _) fun y => by rw [mem_gBlockers, mem_gBlockers]; simp only [h]

/-! ### What one holds -/
def own (tx res : Int) (j : Nat) (h : Held) : Bool := decide (h.tx = tx) && decide (h.res = res) && tb h.mode j && decide (j < 4)
theorem tb_gHolds1 (tx res : Int) (j : Nat) (hj : j < 64) : ∀ (l : List Held) (m : Int), tb (gHolds1 tx res m l) j = (tb m j || l.any (own tx res j))
  | [], m => by simp [gHolds1]
  | h :: l, m => by
    rw [gHolds1, tb_gHolds1 tx res j hj l]
    rw [List.any_cons]
    by_cases hc : h.tx = tx ∧ h.res = res
    · rw [if_pos hc, tb_bor, tb_band, tbc15 j hj]
      have : own tx res j h = (tb h.mode j && decide (j < 4)) := by simp [own, hc.1, hc.2]
      rw [this, Bool.or_assoc]
    · rw [if_neg hc]
      have : own tx res j h = false := by
        unfold own
        by_cases e1 : h.tx = tx
        · have e2 : ¬ h.res = res := fun e2 => hc ⟨e1, e2⟩
          simp [e2]
        · simp [e1]
      rw [this, Bool.false_or]
theorem tb_zero (j : Nat) : tb 0 j = false := by simp [tb]
theorem tb_gHolds (l : List Held) (tx res : Int) (j : Nat) (hj : j < 64) : tb (gHolds l tx res) j = l.any (own tx res j) := by
  unfold gHolds; rw [tb_gHolds1 tx res j hj, tb_zero, Bool.false_or]
theorem inI_gHolds1 (tx res : Int) : ∀ (l : List Held) (m : Int), inI m → inI (gHolds1 tx res m l)
  | [], m, h => h
  | h :: l, m, hm => by
    rw [gHolds1]
    refine inI_gHolds1 tx res l _ ?_
    split
    · exact inI_bor _ _
    · exact hm
theorem inI_zero : inI 0 := by unfold inI; omega
theorem inI_gHolds (l : List Held) (tx res : Int) : inI (gHolds l tx res) := inI_gHolds1 tx res l 0 inI_zero
theorem gHolds_perm {l m : List Held} (h : ∀ x, x ∈ l ↔ x ∈ m) (tx res : Int) : gHolds l tx res = gHolds m tx res :=
  tb_ext (inI_gHolds _ _ _) (inI_gHolds _ _ _) fun j hj => by
    rw [tb_gHolds _ _ _ _ hj, tb_gHolds _ _ _ _ hj, Bool.eq_iff_iff, List.any_eq_true, List.any_eq_true]
    simp only [h]
theorem gHolds_zero {l : List Held} {tx res : Int} (h : ∀ x ∈ l, x.tx = tx → x.res = res → False) : gHolds l tx res = 0 :=
  tb_ext (inI_gHolds _ _ _) inI_zero fun j hj => by
    rw [tb_gHolds _ _ _ _ hj, tb_zero, List.any_eq_false]
    intro x hx
    unfold own
    by_cases e1 : x.tx = tx
    · by_cases e2 : x.res = res
      · exact (h x hx e1 e2).elim
      · simp [e2]
    · simp [e1]

/-! ### What is safe -/
theorem gSafe_iff (l : List Held) : gSafe l = true ↔ ∀ h ∈ l, ∀ k ∈ l, k.tx ≠ h.tx → k.res = h.res → gClash k.mode h.mode = false := by
  unfold gSafe
  rw [List.all_eq_true]
  constructor
  · intro h a ha
    have := h a ha
    rw [List.isEmpty_iff, gBlockers_none] at this
    exact this
  · intro h a ha
    rw [List.isEmpty_iff, gBlockers_none]
    exact h a ha
theorem gSafe_perm {l m : List Held} (h : ∀ x, x ∈ l ↔ x ∈ m) : gSafe l = gSafe m := by
  rw [Bool.eq_iff_iff, gSafe_iff, gSafe_iff]
  simp only [h]

/-! ### Clashes by bits -/
theorem gClash_tb (a b : Int) : gClash a b = (((tb a 1 && (tb b 0 || tb b 1)) || (tb a 2 && tb b 3)) || ((tb b 1 && (tb a 0 || tb a 1)) || (tb b 2 && tb a 3))) := by
  unfold gClash; rw [gOne_tb, gOne_tb]
theorem gClash_bor (a b c : Int) : gClash a (bor b c) = (gClash a b || gClash a c) := by
  simp only [gClash_tb, tb_bor]
  cases tb a 0 <;> cases tb a 1 <;> cases tb a 2 <;> cases tb a 3 <;> cases tb b 0 <;> cases tb b 1 <;> cases tb b 2 <;> cases tb b 3 <;> simp
end Go.Lv
