/- Plain laws of locks: what is granted, what is dropped. -/
import Derived.Test.YtoimfngeoiljeaaLp2
namespace Go.Lv
open Go Go.Proofs
set_option maxRecDepth 10000
set_option linter.unusedSimpArgs false

theorem gOwn_iff {tx res : Int} {h : Held} : gOwn tx res h = true ↔ h.tx = tx ∧ h.res = res := by simp [gOwn]
theorem gOwn_not {tx res : Int} {h : Held} : gOwn tx res h = false ↔ ¬ (h.tx = tx ∧ h.res = res) := by rw [← gOwn_iff]; simp

/-- What a grant hands back. -/
structure Granted (l : List Held) (tx res mode : Int) (x : List Held) : Prop where
  lo : 1 ≤ mode
  hi : mode ≤ 15
  okTx : ¬ (tx < 1 ∨ 255 < tx ∨ res < -1 ∨ 65535 < res ∨ mode < 1 ∨ 15 < mode)
  free : gBlockers l tx res mode = []
  parts : ∃ a b, x = a ++ ⟨tx, res, bor (gHolds l tx res) mode⟩ :: b ∧ (∀ k ∈ a, gOwn tx res k = false) ∧ (∀ k ∈ b, gOwn tx res k = false) ∧ a ++ b = l.filter fun h => !gOwn tx res h

theorem grant_cases (l : List Held) (tx res mode : Int) :
    ((gGrant l tx res mode).2 = 1 ∧ (gGrant l tx res mode).1 = [] ) ∨ ((gGrant l tx res mode).2 = 5 ∧ (gGrant l tx res mode).1 = [] ∧ gBlockers l tx res mode ≠ []) ∨ ((gGrant l tx res mode).2 = 0 ∧ Granted l tx res mode (gGrant l tx res mode).1) := by
  unfold gGrant
  by_cases h1 : tx < 1 ∨ 255 < tx ∨ res < -1 ∨ 65535 < res ∨ mode < 1 ∨ 15 < mode
  · rw [if_pos h1]; exact .inl ⟨rfl, rfl⟩
  · rw [if_neg h1]
    by_cases h2 : gBlockers l tx res mode ≠ []
    · rw [if_pos h2]; exact .inr (.inl ⟨rfl, rfl, h2⟩)
    · rw [if_neg h2]
      have h2' : gBlockers l tx res mode = [] := by simpa using h2
      refine .inr (.inr ?_)
      simp only []
      by_cases h3 : l.all (fun h => !gOwn tx res h) = true
      · rw [if_pos h3]
        refine ⟨rfl, by omega, by omega, h1, h2', l, [], by simp, ?_, by simp, ?_⟩
        · intro k hk; simpa using List.all_eq_true.1 h3 k hk
        · rw [List.append_nil, List.filter_eq_self.2 (List.all_eq_true.1 h3)]
      · rw [if_neg h3]
        refine ⟨rfl, by omega, by omega, h1, h2', l.takeWhile (fun h => !gOwn tx res h), (l.dropWhile (fun h => !gOwn tx res h)).filter (fun h => !gOwn tx res h), by simp, ?_, ?_, ?_⟩
        · intro k hk
          have := List.all_takeWhile (p := fun h => !gOwn tx res h) (l := l)
          simpa using List.all_eq_true.1 this k hk
        · intro k hk
          have := (List.mem_filter.1 hk).2
          simpa using this
        · conv => rhs; rw [← List.takeWhile_append_dropWhile (p := fun h => !gOwn tx res h) (l := l)]
          rw [List.filter_append]
          congr 1
          exact (List.filter_eq_self.2 (List.all_eq_true.1 List.all_takeWhile)).symm

variable {l x : List Held} {tx res mode : Int}
theorem Granted.mem (g : Granted l tx res mode x) (k : Held) : k ∈ x ↔ (k ∈ l ∧ gOwn tx res k = false) ∨ k = ⟨tx, res, bor (gHolds l tx res) mode⟩ := by
  obtain ⟨a, b, rfl, _, _, h⟩ := g.parts
  have : k ∈ a ++ b ↔ k ∈ l ∧ gOwn tx res k = false := by rw [h, List.mem_filter]; simp
  rw [← this]
  simp only [List.mem_append, List.mem_cons]
  constructor
  · rintro (h | h | h)
    · exact .inl (.inl h)
    · exact .inr h
    · exact .inl (.inr h)
  · rintro ((h | h) | h)
    · exact .inl h
    · exact .inr (.inr h)
    · exact .inr (.inl h)

theorem Granted.drop (g : Granted l tx res mode x) : gDrop x tx = gDrop l tx := by
  obtain ⟨a, b, rfl, _, _, h⟩ := g.parts
  unfold gDrop
  have e : (a ++ b).filter (fun h => !decide (h.tx = tx)) = l.filter (fun h => !decide (h.tx = tx)) := by
    rw [h, List.filter_filter]
    apply List.filter_congr
    intro k _
    by_cases e : k.tx = tx <;> simp [gOwn, e]
  rw [← e, List.filter_append, List.filter_append, List.filter_cons]
  simp

theorem tb_small {m : Int} (h0 : 0 ≤ m) (h1 : m ≤ 15) (j : Nat) (h : tb m j = true) : j < 4 := by
  apply Decidable.byContradiction
  intro hj
  obtain ⟨n, rfl⟩ := Int.eq_ofNat_of_zero_le h0
  unfold tb at h
  rw [BitVec.ofInt_natCast, BitVec.getLsbD, BitVec.toNat_ofNat, Nat.mod_eq_of_lt (by omega), Nat.testBit_lt_two_pow] at h
  · cases h
  · refine Nat.lt_of_lt_of_le (show n < 2 ^ 4 by omega) (Nat.pow_le_pow_right (by decide) (by omega))

theorem tb_holds_small {j : Nat} (hj : j < 64) (h : tb (gHolds l tx res) j = true) : j < 4 := by
  rw [tb_gHolds _ _ _ _ hj, List.any_eq_true] at h
  obtain ⟨k, _, hk⟩ := h
  simp [own] at hk
  exact hk.2

theorem Granted.holds (g : Granted l tx res mode x) : gHolds x tx res = bor (gHolds l tx res) mode := by
  refine tb_ext (inI_gHolds _ _ _) (inI_bor _ _) fun j hj => ?_
  rw [tb_gHolds _ _ _ _ hj, Bool.eq_iff_iff, List.any_eq_true]
  constructor
  · rintro ⟨k, hk, ho⟩
    rcases (g.mem k).1 hk with ⟨_, h2⟩ | rfl
    · simp [own] at ho
      exact absurd ho.1.1 (gOwn_not.1 h2)
    · simp [own] at ho
      exact ho.1
  · intro h
    refine ⟨_, (g.mem _).2 (.inr rfl), ?_⟩
    have : j < 4 := by
      rw [tb_bor, Bool.or_eq_true] at h
      rcases h with h | h
      · exact tb_holds_small hj h
      · exact tb_small (by have := g.lo; omega) g.hi j h
    simp [own, h, this]

theorem Granted.free' (g : Granted l tx res mode x) : gBlockers x tx res mode = [] := by
  rw [gBlockers_none]
  intro k hk h1 h2
  rcases (g.mem k).1 hk with ⟨h3, _⟩ | rfl
  · exact gBlockers_none.1 g.free k h3 h1 h2
  · exact absurd rfl h1

theorem takeWhile_mid {p : Held → Bool} : ∀ {a b : List Held} {h : Held}, (∀ k ∈ a, p k = true) → p h = false → (a ++ h :: b).takeWhile p = a ∧ (a ++ h :: b).dropWhile p = h :: b
  | [], b, h, _, hh => by simp [hh]
  | k :: a, b, h, ha, hh => by
    have := takeWhile_mid (a := a) (b := b) (fun k hk => ha k (by simp [hk])) hh
    simp [ha k (by simp), this]

theorem Granted.again (g : Granted l tx res mode x) : gGrant x tx res mode = (x, 0) := by
  have hh : bor (gHolds x tx res) mode = bor (gHolds l tx res) mode := by
    rw [g.holds]
    exact tb_ext (inI_bor _ _) (inI_bor _ _) fun j hj => by rw [tb_bor, tb_bor]; cases tb (gHolds l tx res) j <;> cases tb mode j <;> rfl
  unfold gGrant
  rw [if_neg g.okTx, if_neg (by rw [g.free']; simp)]
  simp only []
  rw [hh]
  obtain ⟨a, b, rfl, h1, h2, h3⟩ := g.parts
  have ho : gOwn tx res ⟨tx, res, bor (gHolds l tx res) mode⟩ = true := by simp [gOwn]
  rw [if_neg (by simp [ho])]
  obtain ⟨e1, e2⟩ := takeWhile_mid (p := fun h => !gOwn tx res h) (a := a) (b := b) (h := ⟨tx, res, bor (gHolds l tx res) mode⟩) (fun k hk => by simp [h1 k hk]) (by simp [ho])
  rw [e1, e2, List.filter_cons]
  have e3 : b.filter (fun h => !gOwn tx res h) = b := List.filter_eq_self.2 fun k hk => by simp [h2 k hk]
  simp [ho, e3]

theorem Granted.bits (g : Granted l tx res mode x) : band (gHolds x tx res) mode = mode := by
  rw [g.holds]
  refine tb_ext (inI_band _ _) (by have := g.lo; have := g.hi; unfold inI; omega) fun j hj => ?_
  rw [tb_band, tb_bor]
  cases tb (gHolds l tx res) j <;> cases tb mode j <;> rfl

theorem holds_drop (l : List Held) (tx res : Int) : gHolds (gDrop l tx) tx res = 0 := gHolds_zero fun k hk h1 _ => by
  simp [gDrop] at hk; exact hk.2 h1
theorem holds_drop_other (l : List Held) {tx other : Int} (res : Int) (h : tx ≠ other) : gHolds (gDrop l tx) other res = gHolds l other res :=
  tb_ext (inI_gHolds _ _ _) (inI_gHolds _ _ _) fun j hj => by
    rw [tb_gHolds _ _ _ _ hj, tb_gHolds _ _ _ _ hj, Bool.eq_iff_iff, List.any_eq_true, List.any_eq_true]
    constructor
    · rintro ⟨k, hk, ho⟩; exact ⟨k, (List.mem_filter.1 hk).1, ho⟩
    · rintro ⟨k, hk, ho⟩
      refine ⟨k, List.mem_filter.2 ⟨hk, ?_⟩, ho⟩
      simp [own] at ho
      have := ho.1.1.1
      simp; omega
theorem blockers_drop (l : List Held) (tx other res mode : Int) : tx ∉ gBlockers (gDrop l tx) other res mode := by
  rw [mem_gBlockers]
  rintro ⟨k, hk, _, _, _, h⟩
  simp [gDrop] at hk; exact hk.2 h

/-! ### Clashes -/
theorem clash_bits {a b : Int} : gClash a b = true ↔ (tb a 1 = true ∧ tb b 0 = true) ∨ (tb a 1 = true ∧ tb b 1 = true) ∨ (tb a 2 = true ∧ tb b 3 = true) ∨ (tb a 0 = true ∧ tb b 1 = true) ∨ (tb a 3 = true ∧ tb b 2 = true) := by
  rw [gClash_tb]
  cases tb a 0 <;> cases tb a 1 <;> cases tb a 2 <;> cases tb a 3 <;> cases tb b 0 <;> cases tb b 1 <;> cases tb b 2 <;> cases tb b 3 <;> simp
theorem clash_holds {a : Int} (h : gClash a (gHolds l tx res) = true) : ∃ k ∈ l, k.tx = tx ∧ k.res = res ∧ gClash a k.mode = true := by
  have key : ∀ j, j < 4 → tb (gHolds l tx res) j = true → ∃ k ∈ l, k.tx = tx ∧ k.res = res ∧ tb k.mode j = true := fun j hj h => by
    rw [tb_gHolds _ _ _ _ (by omega), List.any_eq_true] at h
    obtain ⟨k, hk, ho⟩ := h
    simp [own] at ho
    exact ⟨k, hk, ho.1.1.1, ho.1.1.2, ho.1.2⟩
  rcases clash_bits.1 h with ⟨h1, h2⟩ | ⟨h1, h2⟩ | ⟨h1, h2⟩ | ⟨h1, h2⟩ | ⟨h1, h2⟩
  all_goals
    obtain ⟨k, hk, k1, k2, k3⟩ := key _ (by omega) h2
    exact ⟨k, hk, k1, k2, clash_bits.2 (by simp [h1, k3])⟩
theorem Granted.safe (g : Granted l tx res mode x) (hs : gSafe l = true) : gSafe x = true := by
  rw [gSafe_iff] at hs ⊢
  have key : ∀ k ∈ l, k.tx ≠ tx → k.res = res → gClash k.mode (bor (gHolds l tx res) mode) = false := fun k hk h1 h2 => by
    rw [gClash_bor, gBlockers_none.1 g.free k hk h1 h2, Bool.or_false]
    rw [Bool.eq_false_iff]
    intro hc
    obtain ⟨q, hq, q1, q2, q3⟩ := clash_holds hc
    rw [hs q hq k hk (by omega) (by omega)] at q3
    cases q3
  intro h hh k hk h1 h2
  rcases (g.mem h).1 hh with ⟨a1, _⟩ | rfl
  · rcases (g.mem k).1 hk with ⟨b1, _⟩ | rfl
    · exact hs h a1 k b1 h1 h2
    · rw [clash_comm]; exact key h a1 (fun e => h1 e.symm) h2.symm
  · rcases (g.mem k).1 hk with ⟨b1, _⟩ | rfl
    · exact key k b1 h1 h2
    · exact absurd rfl h1
theorem safe_drop (hs : gSafe l = true) : gSafe (gDrop l tx) = true := by
  rw [gSafe_iff] at hs ⊢
  exact fun h hh k hk => hs h (List.mem_filter.1 hh).1 k (List.mem_filter.1 hk).1
theorem clash_holds_ne {k : Held} {m : Int} (hk : k ∈ l) (hc : gClash k.mode m = true) : gHolds l k.tx k.res ≠ 0 := by
  have key : ∀ j, j < 4 → tb k.mode j = true → gHolds l k.tx k.res ≠ 0 := fun j hj h e => by
    have : tb (gHolds l k.tx k.res) j = true := by
      rw [tb_gHolds _ _ _ _ (by omega), List.any_eq_true]
      exact ⟨k, hk, by simp [own, h, hj]⟩
    rw [e, tb_zero] at this
    cases this
  rcases clash_bits.1 hc with ⟨h1, h2⟩ | ⟨h1, h2⟩ | ⟨h1, h2⟩ | ⟨h1, h2⟩ | ⟨h1, h2⟩
  all_goals exact key _ (by omega) h1
theorem grant_len (l : List Held) (tx res mode : Int) : (gGrant l tx res mode).1.length ≤ l.length + 1 := by
  rcases grant_cases l tx res mode with ⟨_, h⟩ | ⟨_, h, _⟩ | ⟨_, g⟩
  · rw [h]; simp
  · rw [h]; simp
  · obtain ⟨a, b, h, _, _, h3⟩ := g.parts
    rw [h]
    have := congrArg List.length h3
    have h4 := List.length_filter_le (fun h => !gOwn tx res h) l
    simp at this ⊢
    omega
theorem drop_len (l : List Held) (tx : Int) : (gDrop l tx).length ≤ l.length := List.length_filter_le _ _
end Go.Lv
