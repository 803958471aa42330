/- Plain laws on the bits of whole numbers of 64 bits; modes clash alike. -/
import Derived.Test.YtoimfngeoiljeaaLe2
namespace Go.Lv
open Go Go.Proofs
set_option maxRecDepth 10000
set_option linter.unusedSimpArgs false

/-- One bit. -/
def tb (a : Int) (j : Nat) : Bool := (BitVec.ofInt 64 a).getLsbD j

theorem wrapB (X : BitVec 64) : BitVec.ofInt 64 (IntKind.i64.wrap X.toNat) = X := by
  apply BitVec.eq_of_toNat_eq
  rw [BitVec.toNat_ofInt, IntKind.wrap_i64]
  have := X.isLt
  omega
theorem wrapZ (X : BitVec 64) : IntKind.i64.wrap X.toNat = 0 ↔ X = 0#64 := by
  have := X.isLt
  rw [IntKind.wrap_i64]
  constructor
  · intro h
    apply BitVec.eq_of_toNat_eq
    simp only [BitVec.toNat_ofNat]
    omega
  · rintro rfl
    simp
theorem bvAnd (a b : Int) : BitVec.ofInt 64 (band a b) = BitVec.ofInt 64 a &&& BitVec.ofInt 64 b := wrapB _
theorem bvOr (a b : Int) : BitVec.ofInt 64 (bor a b) = BitVec.ofInt 64 a ||| BitVec.ofInt 64 b := wrapB _
theorem tb_band (a b : Int) (j : Nat) : tb (band a b) j = (tb a j && tb b j) := by unfold tb; rw [bvAnd, BitVec.getLsbD_and]
theorem tb_bor (a b : Int) (j : Nat) : tb (bor a b) j = (tb a j || tb b j) := by unfold tb; rw [bvOr, BitVec.getLsbD_or]
theorem tb_ge (a : Int) (j : Nat) (h : 64 ≤ j) : tb a j = false := BitVec.getLsbD_of_ge _ _ h
theorem tb_ext {a b : Int} (ha : inI a) (hb : inI b) (h : ∀ j, j < 64 → tb a j = tb b j) : a = b := by
  have e : BitVec.ofInt 64 a = BitVec.ofInt 64 b := BitVec.eq_of_getLsbD_eq h
  have e2 := congrArg BitVec.toInt e
  rw [BitVec.toInt_ofInt, BitVec.toInt_ofInt] at e2
  unfold inI at ha hb
  simp only [Int.bmod] at e2
  omega
theorem inI_band (a b : Int) : inI (band a b) := by unfold band bits inI; rw [IntKind.wrap_i64]; omega
theorem inI_bor (a b : Int) : inI (bor a b) := by unfold bor bits inI; rw [IntKind.wrap_i64]; omega
theorem band_zero (a b : Int) : band a b = 0 ↔ ∀ j, j < 64 → (tb a j && tb b j) = false := by
  constructor
  · intro h j _
    rw [← tb_band, h]
    simp [tb]
  · intro h
    refine tb_ext (inI_band _ _) (by unfold inI; omega) fun j hj => ?_
    rw [tb_band, h j hj]
    simp [tb]

theorem tbc1 : ∀ j, j < 64 → tb 1 j = decide (j = 0) := by decide +kernel
theorem tbc2 : ∀ j, j < 64 → tb 2 j = decide (j = 1) := by decide +kernel
theorem tbc3 : ∀ j, j < 64 → tb 3 j = decide (j < 2) := by decide +kernel
theorem tbc4 : ∀ j, j < 64 → tb 4 j = decide (j = 2) := by decide +kernel
theorem tbc8 : ∀ j, j < 64 → tb 8 j = decide (j = 3) := by decide +kernel
theorem tbc15 : ∀ j, j < 64 → tb 15 j = decide (j < 4) := by decide +kernel

theorem band2 (a : Int) : decide (band a 2 = 0) = !tb a 1 := by
  rw [Bool.eq_iff_iff, decide_eq_true_iff, band_zero]
  constructor
  · intro h; have := h 1 (by omega); rw [tbc2 1 (by omega)] at this; simpa using this
  · intro h j hj; rw [tbc2 j hj]; by_cases e : j = 1
    · subst e; simpa using h
    · simp [e]
theorem band4 (a : Int) : decide (band a 4 = 0) = !tb a 2 := by
  rw [Bool.eq_iff_iff, decide_eq_true_iff, band_zero]
  constructor
  · intro h; have := h 2 (by omega); rw [tbc4 2 (by omega)] at this; simpa using this
  · intro h j hj; rw [tbc4 j hj]; by_cases e : j = 2
    · subst e; simpa using h
    · simp [e]
theorem band8 (a : Int) : decide (band a 8 = 0) = !tb a 3 := by
  rw [Bool.eq_iff_iff, decide_eq_true_iff, band_zero]
  constructor
  · intro h; have := h 3 (by omega); rw [tbc8 3 (by omega)] at this; simpa using this
  · intro h j hj; rw [tbc8 j hj]; by_cases e : j = 3
    · subst e; simpa using h
    · simp [e]
theorem band3 (a : Int) : decide (band a 3 = 0) = !(tb a 0 || tb a 1) := by
  rw [Bool.eq_iff_iff, decide_eq_true_iff, band_zero]
  constructor
  · intro h
    have h0 := h 0 (by omega); rw [tbc3 0 (by omega)] at h0
    have h1 := h 1 (by omega); rw [tbc3 1 (by omega)] at h1
    simp at h0 h1; simp [h0, h1]
  · intro h j hj
    rw [tbc3 j hj]
    simp at h
    by_cases e : j < 2
    · have : j = 0 ∨ j = 1 := by omega
      rcases this with rfl | rfl
      · simp [h.1]
      · simp [h.2]
    · simp [e]

theorem rHas_tb (a : Int) (ha : inI a) (J : Nat) (hJ : J ≤ 3) : rHas a J = tb a J := by
  unfold rHas tb rN
  rw [BitVec.getLsbD, BitVec.toNat_ofInt, Nat.testBit_eq_decide_div_mod_eq, Bool.eq_iff_iff, decide_eq_true_iff, decide_eq_true_iff]
  unfold inI at ha
  have : J = 0 ∨ J = 1 ∨ J = 2 ∨ J = 3 := by omega
  rcases this with rfl | rfl | rfl | rfl <;> simp only [Int.reducePow, Nat.reducePow] <;> split <;> omega

theorem gOne_tb (a b : Int) : gOne a b = ((tb a 1 && (tb b 0 || tb b 1)) || (tb a 2 && tb b 3)) := by
  unfold gOne; rw [band2, band3, band4, band8]; simp
theorem rOne_tb (a b : Int) (ha : inI a) (hb : inI b) : rOne a b = ((tb a 1 && (tb b 0 || tb b 1)) || (tb a 2 && tb b 3)) := by
  unfold rOne
  rw [rHas_tb a ha 1 (by decide), rHas_tb b hb 0 (by decide), rHas_tb b hb 1 (by decide), rHas_tb a ha 2 (by decide), rHas_tb b hb 3 (by decide)]
theorem clash_eq (a b : Int) (ha : inI a) (hb : inI b) : gClash a b = rClash a b := by
  unfold gClash rClash
  rw [gOne_tb, gOne_tb, rOne_tb a b ha hb, rOne_tb b a hb ha]
theorem clash_comm (a b : Int) : gClash a b = gClash b a := by unfold gClash; rw [Bool.or_comm]
theorem lawClash_true (a b : Int) (ha : inI a) (hb : inI b) : lawClash a b = true := by
  unfold lawClash
  rw [clash_eq a b ha hb, clash_comm a b |>.symm.trans (clash_eq a b ha hb)]
  simp
end Go.Lv
