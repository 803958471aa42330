/- Contracts of the generic slices functions at []api.Held. -/
import Derived.Test.YtoimfngeoiljeaaLc1
namespace Go.Lv
open Go Go.Proofs
set_option maxRecDepth 10000
set_option linter.unusedSimpArgs false

theorem held_len (l : List Held) : ∀ x ∈ l.map Held.lv, x.length = 3 := by
  intro x hx; obtain ⟨h, _, rfl⟩ := List.mem_map.1 hx; rfl
theorem held_one (l : List Held) : (l.map Held.lv).flatten.all LV.one = true := by
  rw [List.all_eq_true]; intro x hx
  obtain ⟨y, hy, hxy⟩ := List.mem_flatten.1 hx
  obtain ⟨h, _, rfl⟩ := List.mem_map.1 hy
  simp [Held.lv] at hxy
  rcases hxy with rfl | rfl | rfl <;> rfl
theorem held_flen (l : List Held) : (l.map Held.lv).flatten.length = l.length * 3 := by
  rw [flatten_length _ (held_len l), List.length_map]

/-- What slices.Clone hands back. -/
def OwnOf (l : List Held) (H : OHeap) (x : LV) (H' : OHeap) : Prop :=
  (l = [] ∧ x = .isl true 3 [] ∧ H' = H) ∨ (l ≠ [] ∧ ∃ b c, H b = none ∧ l.length ≤ c ∧ x = .sl b 0 l.length c ∧ H' = setH H b (.cells (l.map Held.lv).flatten (c * 3)))

theorem clone_lv (f : Bool) (l : List Held) (H : OHeap) (hl : l.length < 2 ^ 40) : CallL Try.prog 31 [heldsL f l] H (OwnOf l H) := by
  cases l with
  | nil =>
    refine CallL.empty [] ?_ (fun b o c hc => ?_)
    · refine CallL.of_vc (n := 1) tok Try.func31 (c := _) rfl (by kernel_rfl) rfl ?_
      simp -implicitDefEqProofs [kindT]
      exact Ends.wk (Wk.nilsl true 3) (Ends.of (.inl ⟨rfl, rfl, rfl⟩))
    · refine CallL.of_vc (n := 1) tok Try.func31 (c := _) rfl (by kernel_rfl) rfl ?_
      simp -implicitDefEqProofs [kindT, appL, srcL]
      exact Ends.of (.inl ⟨rfl, rfl, rfl⟩)
  | cons h l =>
    refine CallL.of_vc (n := 1) tok Try.func31 (c := _) rfl (by kernel_rfl) rfl ?_
    simp -implicitDefEqProofs [kindT, heldsL, appL, srcL]
    simp only [List.length_cons] at hl
    refine ⟨by simp [Held.lv], by unfold room; omega, fun b c hb hc => ?_⟩
    refine Ends.of (.inr ⟨by simp, b, c, hb, by simpa using hc, by simp, by simp⟩)

/-- What is known of a predicate that is handed to the library: of whatever it owns nothing turns. -/
def PredOf (v : LV) (p : Held → Bool) : Prop := ∃ g fst caps, v = .fn g fst caps ∧ (fst ++ caps).all LV.glob = true ∧ ∀ (h : Held) (H : OHeap), CallL Try.prog g (fst ++ .agg h.lv :: caps) H fun x H' => x = .bool (p h) ∧ H' = H

def gIndex (p : Held → Bool) : Int → List Held → Int
  | _, [] => -1
  | k, h :: l => if p h = true then k else gIndex p (k + 1) l

theorem gl_of {l : List Held} {k : Nat} (hk : k < l.length) : l.drop k = l[k] :: l.drop (k + 1) := List.drop_eq_getElem_cons hk

theorem index_lv (v : LV) (p : Held → Bool) (hp : PredOf v p) (f : Bool) (l : List Held) (H : OHeap) (hl : l.length < 2 ^ 40) :
    CallL Try.prog 30 [heldsL f l, v] H fun x H' => x = i64 (gIndex p 0 l) ∧ H' = H := by
  obtain ⟨g, fst, caps, rfl, hgl, hp⟩ := hp
  refine CallL.of_vc (n := 2) tok Try.func30 (c := _) rfl (by kernel_rfl) rfl ?_
  simp -implicitDefEqProofs [heldsL]
  refine WP.loopG (σ := Nat) (fun k e B H' => H' = H ∧ k ≤ l.length ∧ e 0 = heldsL f l ∧ e 1 = .fn g fst caps ∧ e 6 = heldsL f l ∧ e 7 = i64 l.length ∧ e 8 = i64 k ∧ gIndex p k (l.drop k) = gIndex p 0 l) (fun k => l.length - k) 0 ?_ ?_
  · simp [heldsL]
  · rintro k e B H' ⟨rfl, hk, h0, h1, h6, h7, h8, hs⟩
    refine vc_sound tok _ _ _ _ _ ?_
    rcases Nat.lt_or_ge k l.length with hlt | hge
    · rw [gl_of hlt, gIndex] at hs
      simp -implicitDefEqProofs [h0, h1, h6, h7, h8, heldsL, hlt, Held.lv]
      refine ⟨by simpa using hgl, CallL.ret (hp l[k] H') ?_⟩
      have hw : IntKind.i64.wrap ((k : Int) + 1) = ((k + 1 : Nat) : Int) := by rw [wrap64 (by omega) (by omega)]; omega
      cases hpk : p l[k] with
      | true =>
        rw [if_pos hpk] at hs
        simp -implicitDefEqProofs
        exact Ends.of ⟨by rw [hs], rfl⟩
      | false =>
        rw [if_neg (by simp [hpk])] at hs
        simp -implicitDefEqProofs [h8]
        refine Next.of (k + 1) (by omega) ?_
        simp [h0, h1, h6, h7, heldsL, hw, hs]
        omega
    · have : ¬ k < l.length := by omega
      have hd : l.drop k = [] := by simp; omega
      rw [hd, gIndex] at hs
      simp -implicitDefEqProofs [h0, h1, h6, h7, h8, heldsL, this]
      exact Ends.of ⟨by rw [← hs], rfl⟩
end Go.Lv
