/- The chapter's examples: awake. -/
import Derived.Test.YtoimfngeoiljeaaLd3
namespace Go.Lv
open Go Go.Proofs
set_option maxRecDepth 10000
set_option linter.unusedSimpArgs false

section
variable {P : Program} {H : OHeap}
theorem Rs.arg {K : Know} {pre post : List LV} {x y : LV} {vs : List Value} (hxy : ∀ v, R K x v → R K y v) (h : Rs K (pre ++ x :: post) vs) : Rs K (pre ++ y :: post) vs := by
  refine ⟨by rw [h.1]; simp, fun i z v hz hv => ?_⟩
  rcases Nat.lt_trichotomy i pre.length with hi | hi | hi
  · rw [List.getElem?_append_left hi] at hz
    exact h.2 i z v (by rw [List.getElem?_append_left hi]; exact hz) hv
  · subst hi
    simp at hz; subst hz
    exact hxy v (h.2 pre.length x v (by simp) hv)
  · rw [List.getElem?_append_right (by omega)] at hz
    obtain ⟨k, hk⟩ : ∃ k, i - pre.length = k + 1 := ⟨i - pre.length - 1, by omega⟩
    rw [hk] at hz
    exact h.2 i z v (by rw [List.getElem?_append_right (by omega), hk]; simpa using hz) hv
/-- A contract at less known arguments serves better known ones. -/
theorem CallL.arg {f : FuncId} (pre : List LV) {post : List LV} {x y : LV} {Q : LV → OHeap → Prop} (hxy : ∀ K v, R K x v → R K y v) (h : CallL P f (pre ++ y :: post) H Q) : CallL P f (pre ++ x :: post) H Q :=
  ⟨h.1, fun K w vs g hr => h.2 K w vs g (hr.arg (hxy K))⟩
theorem R.nil_isl {K : Know} {v : Value} (f : Bool) (es : Nat) (h : R K .nilsl v) : R K (.isl f es []) v := by cases h; exact .isln _ _
end

theorem aw1 : gGrant [] 1 7 1 = ([⟨1, 7, 1⟩], 0) := by kernel_rfl
theorem aw2 : gBlk [⟨1, 7, 1⟩] 2 7 1 = [] := by kernel_rfl
theorem aw3 : gBlk [⟨1, 7, 1⟩] 2 7 2 = [1] := by kernel_rfl
theorem aw4 : gBlk [⟨1, 7, 1⟩, ⟨2, 7, 1⟩] 1 7 2 = [2] := by kernel_rfl
theorem aw5 : gBlk [⟨1, 7, 1⟩, ⟨2, 7, 1⟩] 1 7 1 = [] := by kernel_rfl
theorem aw6 : gBlk [⟨1, 7, 1⟩, ⟨2, 7, 1⟩] 2 7 1 = [] := by kernel_rfl
theorem gBlockers_nil {l : List Held} {a b c : Int} (h : gBlk l a b c = []) : gBlockers l a b c = [] := by unfold gBlockers; rw [h, List.mergeSort_nil]; rfl
theorem gBlockers_one {l : List Held} {a b c n : Int} (h : gBlk l a b c = [n]) : gBlockers l a b c = [n] := by unfold gBlockers; rw [h, List.mergeSort_singleton]; rfl
theorem aw7 : gGrant [⟨1, 7, 1⟩] 2 7 1 = ([⟨1, 7, 1⟩, ⟨2, 7, 1⟩], 0) := by
  unfold gGrant; rw [gBlockers_nil aw2]; kernel_rfl
theorem aw8 : gGrant [⟨1, 7, 1⟩, ⟨2, 7, 1⟩] 1 7 2 = ([], 5) := by
  unfold gGrant; rw [gBlockers_one aw4]; kernel_rfl
theorem aw9 : gSafe [⟨1, 7, 1⟩, ⟨2, 7, 1⟩] = true := by
  simp [gSafe, gBlockers_nil aw5, gBlockers_nil aw6]

theorem aw10 : gClash 4 8 = true := by kernel_rfl
@[simp] theorem glob_heldsL (f : Bool) (l : List Held) : (heldsL f l).glob = true := rfl
@[simp] theorem glob_intsL (f : Bool) (l : List Int) : (intsL f l).glob = true := rfl

theorem awake_lv (H : OHeap) : CallL Try.prog 10 [] H fun x H' => x = .bool true ∧ H' = H := by
  refine CallL.of_vc (n := 0) tok Try.func10 (c := _) rfl (by kernel_rfl) rfl ?_
  simp -implicitDefEqProofs
  refine (CallL.arg [] (fun K v => R.nil_isl true 3) (grant_lv true [] 1 7 1 H (by simp))).mono fun x H' hx => ?_
  rw [aw1] at hx
  obtain ⟨⟨f1, rfl⟩, rfl⟩ := hx
  simp -implicitDefEqProofs
  refine ((grant_lv f1 [⟨1, 7, 1⟩] 2 7 1 H' (by simp))).mono fun x H'' hx => ?_
  rw [aw7] at hx
  obtain ⟨⟨f2, rfl⟩, rfl⟩ := hx
  simp -implicitDefEqProofs
  refine ((blockers_lv f1 [⟨1, 7, 1⟩] 2 7 2 H'' (by simp))).mono fun x H' hx => ?_
  rw [gBlockers_one aw3] at hx
  obtain ⟨⟨f3, rfl⟩, rfl⟩ := hx
  simp -implicitDefEqProofs
  refine ((grant_lv f2 [⟨1, 7, 1⟩, ⟨2, 7, 1⟩] 1 7 2 H' (by simp))).mono fun x H'' hx => ?_
  rw [aw8] at hx
  obtain ⟨⟨f4, rfl⟩, rfl⟩ := hx
  simp -implicitDefEqProofs
  refine ((blockers_lv f2 [⟨1, 7, 1⟩, ⟨2, 7, 1⟩] 1 7 2 H'' (by simp))).mono fun x H' hx => ?_
  rw [gBlockers_one aw4] at hx
  obtain ⟨⟨f5, rfl⟩, rfl⟩ := hx
  simp -implicitDefEqProofs [intsL]
  refine CallL.ret (aw9 ▸ safe_lv f2 [⟨1, 7, 1⟩, ⟨2, 7, 1⟩] H' (by simp)) ?_
  simp -implicitDefEqProofs [intsL]
  refine CallL.ret (aw10 ▸ clash_lv 4 8 H') ?_
  simp -implicitDefEqProofs [intsL]
  exact Ends.of ⟨rfl, rfl⟩
end Go.Lv
