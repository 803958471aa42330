/- slices.Compact at []int, from the shelf's contract; lock.Blockers. -/
import Derived.Test.YtoimfngeoiljeaaLc5
import Derived.Shelf.Slices.CompactI
import Derived.Ground.Names2Prog
namespace Go.Lv
open Go Go.Proofs
set_option maxRecDepth 10000
set_option linter.unusedSimpArgs false

/-- A row of whole numbers that the library has written anew. -/
theorem put_ints {K : Know} {jj : Nat → Nat} {B : Box} {H : OHeap} {w : World} (g : Good K jj B H w) {zs ys : List Int} {rest : List LV} {b m : Nat} (hH : H b = some (.cells (zs.map i64 ++ rest) m)) (hms : ys.length = zs.length) (n : Nat) :
    Good K jj B (setH H b (.cells (ys.map i64 ++ rest) m)) (Sort.putRow (Value.int .i64) (Sort.ahead w n) b 0 ys.toArray) ∧
    Fr (dom H B jj) w K (dom (setH H b (.cells (ys.map i64 ++ rest) m)) B jj) (Sort.putRow (Value.int .i64) (Sort.ahead w n) b 0 ys.toArray) K := by
  obtain ⟨arr, T, fz, hb, hsz, hle, hcs, hfz⟩ := g.own b _ hH
  have hlen : zs.length ≤ arr.size := by rw [hsz]; simp at hle; omega
  have hblk : (Sort.putRow (Value.int .i64) (Sort.ahead w n) b 0 ys.toArray).heap[b]? = some (.cells (Sort.putCells (Value.int .i64) 0 ys.toArray arr) T fz) := by
    show (w.heap.modify b _)[b]? = _
    simp [Array.getElem?_modify, hb, Sort.onCells]
  have hwr : Wrote w b (Sort.putRow (Value.int .i64) (Sort.ahead w n) b 0 ys.toArray) := ⟨rfl, rfl, rfl, by simp [Sort.ahead], fun b' hne => by
    show (w.heap.modify b _)[b']? = _
    simp only [Array.getElem?_modify]
    rw [if_neg (fun x => hne x.symm)]⟩
  have hown : ownObj K (Sort.putRow (Value.int .i64) (Sort.ahead w n) b 0 ys.toArray) b (.cells (ys.map i64 ++ rest) m) := by
    refine ⟨_, T, fz, hblk, by simp [Sort.putCells, hsz], by simp at hle ⊢; omega, fun i x hx => ?_, fun o => by rw [frozen_of_block hb hblk]; exact hfz o⟩
    simp only [Sort.putCells, Array.getElem?_mapIdx, Nat.zero_le, true_and, Nat.zero_add, List.size_toArray]
    rcases Nat.lt_or_ge i ys.length with hi | hi
    · rw [List.getElem?_append_left (by simpa using hi)] at hx
      simp [hi] at hx; subst hx
      have ha : arr[i]? = some arr[i] := Array.getElem?_eq_getElem (by omega)
      refine ⟨.int .i64 ys[i], by rw [ha]; simp [hi], rfl, .int _ _⟩
    · rw [List.getElem?_append_right (by simpa using hi)] at hx
      obtain ⟨v, h1, h2, h3⟩ := hcs i x (by rw [List.getElem?_append_right (by simp; omega)]; simpa [hms] using hx)
      refine ⟨v, ?_, h2, h3⟩
      rw [h1]; simp; intro hh; omega
  exact g.wroteH (by rw [hH]; rfl) hown hwr

theorem holds_ints {K : Know} {jj : Nat → Nat} {B : Box} {H : OHeap} {w : World} (g : Good K jj B H w) {zs : List Int} {rest : List LV} {b m : Nat} (hH : H b = some (.cells (zs.map i64 ++ rest) m)) : Sort.Holds (Value.int .i64) w b 0 zs.toArray ∧ b < w.heap.size := by
  obtain ⟨arr, T, fz, hb, hsz, hle, hcs, hfz⟩ := g.own b _ hH
  refine ⟨fun j hj => ?_, (Array.getElem?_eq_some_iff.1 hb).1⟩
  have hj' : j < zs.length := by simpa using hj
  refine ⟨?_, hfz _⟩
  obtain ⟨v, h1, _, h3⟩ := hcs j (i64 zs[j]) (by rw [List.getElem?_append_left (by simpa using hj')]; simp [hj'])
  simp only [World.cell?, hb, Nat.zero_add]
  rw [show arr[j]? = some v from h1]; cases h3; simp [hj']

def gCompact (zs : List Int) : List Int := Lib.compact zs
theorem gCompact_len (zs : List Int) : (gCompact zs).length ≤ zs.length := by
  unfold gCompact Lib.compact Lib.compactUpTo
  rw [List.length_map]
  refine Nat.le_trans (List.length_filter_le _ _) (by simp)

theorem compact_lv (zs : List Int) (rest : List LV) (b m c : Nat) (H : OHeap) (hH : H b = some (.cells (zs.map i64 ++ rest) m)) (hz : zs.length < 2 ^ 40) (hc : zs.length ≤ c) :
    CallL Try.prog 28 [.sl b 0 zs.length c] H fun x H' => x = .sl b 0 (gCompact zs).length c ∧ H' = setH H b (.cells ((gCompact zs ++ List.replicate (zs.length - (gCompact zs).length) 0).map i64 ++ rest) m) := by
  refine ⟨⟨_, Try.func28, by kernel_rfl, by kernel_rfl⟩, fun K w vs g hr => ?_⟩
  obtain ⟨hl, hrr⟩ := hr
  obtain ⟨v, rfl⟩ : ∃ v, vs = [v] := List.length_eq_one_iff.1 hl
  have r := hrr 0 _ _ rfl rfl
  cases r
  obtain ⟨hh, hb⟩ := holds_ints g hH
  refine Calls.mono (Any.slices_Compact_int Try.lays2n20 b 0 c zs w hh (by omega) hc) ?_
  rintro en w' ⟨rfl, q, rfl⟩
  have hlen := gCompact_len zs
  obtain ⟨g1, f1⟩ := put_ints g hH (ys := gCompact zs ++ List.replicate (zs.length - (gCompact zs).length) 0) (by simp; omega) q
  exact ⟨_, .sl b 0 (gCompact zs).length c, K, _, rfl, g1, .sl _ _ _ _, f1, rfl, rfl⟩

theorem compactNil_lv (H : OHeap) : CallL Try.prog 28 [.nilsl] H fun x H' => x = .nilsl ∧ H' = H := by
  refine CallL.of_vc (n := 1) tok Try.func28 (c := _) rfl (by kernel_rfl) rfl ?_
  simp -implicitDefEqProofs
  exact Ends.of ⟨rfl, rfl⟩
end Go.Lv
