/- slices.Sort at []int, from the shelf's contract. -/
import Derived.Test.YtoimfngeoiljeaaLc4
import Derived.Test.YtoimfngeoiljeaaLs1
import Derived.Shelf.Sort.Plain
import Derived.Shelf.Slices.In.SortNone
import Derived.Ground.Names2Prog
namespace Go.Lv
open Go Go.Proofs
set_option maxRecDepth 10000
set_option linter.unusedSimpArgs false

section
variable {B : Box} {H : OHeap} {K : Know} {jj : Nat → Nat} {w : World}
theorem grow_lt {os : Array Obj} {b : Nat} (h : b < w.heap.size) : (Sort.grow w os).heap[b]? = w.heap[b]? := by
  show (w.heap ++ os)[b]? = _
  rw [Array.getElem?_append_left h]
theorem Good.grow (g : Good K jj B H w) (os : Array Obj) : Good K jj B H (Sort.grow w os) := {
  know b o v h := by rw [World.cell?_of_block (w := w) (grow_lt (g.klt h))]; exact g.know b o v h
  own b o h := (g.own b o h).same (grow_lt (g.own b o h).lt)
  apart := g.apart
  box d ver cs h := (g.box d ver cs h).same (grow_lt (g.box d ver cs h).lt)
  boxH := g.boxH
  boxne := g.boxne }
theorem Fr.grow {D : Nat → Prop} (os : Array Obj) : Fr D w K D (Sort.grow w os) K :=
  ⟨rfl, rfl, rfl, by show w.heap.size ≤ (w.heap ++ os).size; simp, fun b hb _ => grow_lt hb, K.le_refl, fun _ _ h h' => absurd h h', fun _ h => .inl h⟩
end

theorem sort_lv (zs : List Int) (rest : List LV) (b m c : Nat) (H : OHeap) (hH : H b = some (.cells (zs.map i64 ++ rest) m)) (hz : zs.length < 2 ^ 40) :
    CallL Try.prog 27 [.sl b 0 zs.length c] H fun x H' => x = .tup [] ∧ H' = setH H b (.cells ((zs.mergeSort fun x y => decide (x ≤ y)).map i64 ++ rest) m) := by
  refine ⟨⟨_, Try.func27, by kernel_rfl, by kernel_rfl⟩, fun K w vs g hr => ?_⟩
  obtain ⟨hl, hrr⟩ := hr
  obtain ⟨v, rfl⟩ : ∃ v, vs = [v] := List.length_eq_one_iff.1 hl
  have r := hrr 0 _ _ rfl rfl
  cases r
  obtain ⟨arr, T, fz, hb, hsz, hle, hcs, hfz⟩ := g.own b _ hH
  have hlen : zs.length ≤ arr.size := by rw [hsz]; simp at hle; omega
  have hcell : ∀ j, j < zs.length → arr[j]? = some (.int .i64 (zs[j]!)) := fun j hj => by
    obtain ⟨v, h1, _, h3⟩ := hcs j (i64 zs[j]) (by rw [List.getElem?_append_left (by simpa using hj)]; simp [hj])
    rw [h1]; cases h3; simp [hj]
  have hH' : Sort.Holds (Value.int .i64) w b 0 zs.toArray := fun j hj => by
    have hj' : j < zs.length := by simpa using hj
    refine ⟨?_, hfz _⟩
    simp only [World.cell?, hb, Nat.zero_add]
    rw [hcell j hj']; simp [hj']
  have hc := Any.slices_Sort_int Try.lays189 b 0 c zs w hH' (Array.getElem?_eq_some_iff.1 hb).1 (by omega)
  refine Calls.mono hc ?_
  rintro en w' ⟨rfl, n, os, rfl⟩
  have hms : (zs.mergeSort fun x y => decide (x ≤ y)).length = zs.length := List.length_mergeSort _
  generalize (zs.mergeSort fun x y => decide (x ≤ y)) = ys at hms
  have hblk : (Sort.putRow (Value.int .i64) (Sort.ahead w n) b 0 ys.toArray).heap[b]? = some (.cells (Sort.putCells (Value.int .i64) 0 ys.toArray arr) T fz) := by
    show (w.heap.modify b _)[b]? = _
    simp [Array.getElem?_modify, hb, Sort.onCells]
  have hwr : Wrote w b (Sort.putRow (Value.int .i64) (Sort.ahead w n) b 0 ys.toArray) := ⟨rfl, rfl, rfl, by simp [Sort.ahead], fun b' hne => by
    show (w.heap.modify b _)[b']? = _
    simp only [Array.getElem?_modify]
    rw [if_neg (fun x => hne x.symm)]⟩
  have hown : ownObj K (Sort.putRow (Value.int .i64) (Sort.ahead w n) b 0 ys.toArray) b (.cells (ys.map i64 ++ rest) m) := by
    refine ⟨_, T, fz, hblk, by simp [Sort.putCells, hsz], by simp at hle ⊢; omega, fun i x hx => ?_, fun o => by rw [frozen_of_block hb hblk]; exact hfz o⟩
    simp only [Sort.putCells, Array.getElem?_mapIdx, Nat.zero_le, true_and, Nat.zero_add, List.size_toArray]
    rcases Nat.lt_or_ge i ys.length with hi | hi
    · rw [List.getElem?_append_left (by simpa using hi)] at hx
      simp [hi] at hx; subst hx
      have ha : arr[i]? = some arr[i] := Array.getElem?_eq_getElem (by omega)
      refine ⟨.int .i64 ys[i], by rw [ha]; simp [hi], rfl, .int _ _⟩
    · rw [List.getElem?_append_right (by simpa using hi)] at hx
      obtain ⟨v, h1, h2, h3⟩ := hcs i x (by rw [List.getElem?_append_right (by simp; omega)]; simpa [hms] using hx)
      refine ⟨v, ?_, h2, h3⟩
      rw [h1]; simp; intro hh; omega
  obtain ⟨g1, f1⟩ := g.wroteH (by rw [hH]; rfl) hown hwr
  exact ⟨.tuple #[], .tup [], K, _, rfl, g1.grow os, .tup [] [] rfl (fun i x v h => by simp at h), f1.trans (Fr.grow os), rfl, rfl⟩

theorem sortNil_lv (H : OHeap) : CallL Try.prog 27 [.nilsl] H fun x H' => x = .tup [] ∧ H' = H := by
  refine ⟨⟨_, Try.func27, by kernel_rfl, by kernel_rfl⟩, fun K w vs g hr => ?_⟩
  obtain ⟨hl, hrr⟩ := hr
  obtain ⟨v, rfl⟩ : ∃ v, vs = [v] := List.length_eq_one_iff.1 hl
  have r := hrr 0 _ _ rfl rfl
  cases r
  refine Calls.mono (Any.slices_Sort_int_none Try.lays189 none 0 w) ?_
  rintro en w' ⟨rfl, rfl⟩
  exact ⟨.tuple #[], .tup [], K, H, rfl, g, .tup [] [] rfl (fun i x v h => by simp at h), Fr.refl _ _ _, rfl, rfl⟩
end Go.Lv
