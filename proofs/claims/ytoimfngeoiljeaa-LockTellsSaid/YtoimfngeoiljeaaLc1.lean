/- Contracts of package lock. -/
import Derived.Test.YtoimfngeoiljeaaLvT
namespace Go.Lv
open Go Go.Proofs
set_option maxRecDepth 10000
set_option linter.unusedSimpArgs false

theorem mixed : Try.prog.follows .mixedOrders = true := by kernel_rfl
structure Held where
  tx : Int
  res : Int
  mode : Int
  deriving DecidableEq
abbrev i64 (n : Int) : LV := .int .i64 n
def Held.lv (h : Held) : List LV := [i64 h.tx, i64 h.res, i64 h.mode]
def heldsL (f : Bool) (l : List Held) : LV := .isl f 3 (l.map Held.lv)
abbrev band (a b : Int) : Int := bits .and .i64 a b
abbrev bor (a b : Int) : Int := bits .or .i64 a b

/-- lock.Clash's inner function. -/
def gOne (a b : Int) : Bool := (!decide (band a 2 = 0) && !decide (band b 3 = 0)) || (!decide (band a 4 = 0) && !decide (band b 8 = 0))
def gClash (a b : Int) : Bool := gOne a b || gOne b a

theorem one_lv (a b : Int) (H : OHeap) : CallL Try.prog 25 [i64 a, i64 b] H fun x H' => x = .bool (gOne a b) ∧ H' = H := by
  refine CallL.of_vc (n := 2) tok Try.func25 (c := _) rfl (by kernel_rfl) rfl ?_
  simp -implicitDefEqProofs [gOne]
  refine ⟨fun h1 => ⟨fun h2 => ?_, fun h2 => ?_⟩, fun h1 => ⟨fun h2 => ⟨fun h3 => ?_, fun h3 => ?_⟩, fun h2 => ?_⟩⟩ <;> refine Ends.of ⟨?_, rfl⟩ <;> simp_all

theorem clash_lv (a b : Int) (H : OHeap) : CallL Try.prog 11 [i64 a, i64 b] H fun x H' => x = .bool (gClash a b) ∧ H' = H := by
  refine CallL.of_vc (n := 2) tok Try.func11 (c := _) rfl (by kernel_rfl) rfl ?_
  simp -implicitDefEqProofs
  refine CallL.ret (one_lv a b H) ?_
  simp -implicitDefEqProofs
  refine ⟨fun h1 => ?_, fun h1 => ?_⟩
  · exact Ends.of ⟨by simp [gClash, h1], rfl⟩
  · refine CallL.ret (one_lv b a H) ?_
    simp -implicitDefEqProofs
    exact Ends.of ⟨by simp [gClash, h1], rfl⟩

def gHolds1 (tx res : Int) : Int → List Held → Int
  | m, [] => m
  | m, h :: l => gHolds1 tx res (if h.tx = tx ∧ h.res = res then bor m (band h.mode 15) else m) l
def gHolds (l : List Held) (tx res : Int) : Int := gHolds1 tx res 0 l

theorem holds_lv (f : Bool) (l : List Held) (tx res : Int) (H : OHeap) (hl : l.length < 2 ^ 62) : CallL Try.prog 15 [heldsL f l, i64 tx, i64 res] H fun x H' => x = i64 (gHolds l tx res) ∧ H' = H := by
  refine CallL.of_vc (n := 3) tok Try.func15 (c := _) rfl (by kernel_rfl) rfl ?_
  simp -implicitDefEqProofs [heldsL]
  refine WP.loopG (σ := Nat × Int) (fun s e B H' => H' = H ∧ s.1 ≤ l.length ∧ e 0 = heldsL f l ∧ e 1 = i64 tx ∧ e 2 = i64 res ∧ e 10 = heldsL f l ∧ e 11 = i64 l.length ∧ e 12 = i64 s.1 ∧ e 7 = i64 s.2 ∧ gHolds1 tx res s.2 (l.drop s.1) = gHolds l tx res) (fun s => l.length - s.1) (0, 0) ?_ ?_
  · simp [heldsL, gHolds]
  · rintro ⟨k, s⟩ e B H' ⟨rfl, hk, h0, h1, h2, h10, h11, h12, h7, hs⟩
    simp only [] at hk h12 h7 hs
    refine vc_sound tok _ _ _ _ _ ?_
    rcases Nat.lt_or_ge k l.length with hlt | hge
    · have hd : l.drop k = l[k] :: l.drop (k + 1) := List.drop_eq_getElem_cons hlt
      rw [hd, gHolds1] at hs
      simp -implicitDefEqProofs [h0, h1, h2, h10, h11, h12, h7, heldsL, hlt, Held.lv, seg]
      have hw : IntKind.i64.wrap ((k : Int) + 1) = ((k + 1 : Nat) : Int) := by rw [wrap64 (by omega) (by omega)]; omega
      refine ⟨fun ht => ⟨fun hr => ?_, fun hr => ?_⟩, fun ht => ?_⟩
      · simp at ht hr
        refine Next.of (k + 1, bor s (band l[k].mode 15)) (by simp only []; omega) ?_
        rw [if_pos ⟨ht, hr⟩] at hs
        simp [h0, h1, h2, h10, h11, heldsL, hw, hs]
        omega
      · simp at ht hr
        refine Next.of (k + 1, s) (by simp only []; omega) ?_
        rw [if_neg (fun x => hr x.2)] at hs
        simp [h0, h1, h2, h10, h11, h7, heldsL, hw, hs]
        omega
      · simp at ht
        refine Next.of (k + 1, s) (by simp only []; omega) ?_
        rw [if_neg (fun x => ht x.1)] at hs
        simp [h0, h1, h2, h10, h11, h7, heldsL, hw, hs]
        omega
    · have : ¬ k < l.length := by omega
      have hd : l.drop k = [] := by simp; omega
      rw [hd, gHolds1] at hs
      simp -implicitDefEqProofs [h0, h1, h2, h10, h11, h12, h7, heldsL, this]
      exact Ends.of ⟨by rw [hs], rfl⟩
end Go.Lv
