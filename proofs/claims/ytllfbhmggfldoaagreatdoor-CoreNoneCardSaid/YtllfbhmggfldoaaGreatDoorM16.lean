/- Texts of this proof, put together: XeW. No condition. -/
import Derived.Test.YtllfbhmggfldoaaGreatDoorM15
/- awake() of the core's laws is true, and leaves the global as it is. -/
namespace Go.Xv.Q11
open Go Go.Lv Go.Xv Go.Proofs
set_option maxRecDepth 100000
/-- The global 'nowhere', as it stands in a world. -/
def nwArr : Array Value := #[.int .i64 (-1), .int .i64 0, .int .i64 0]
def nw (ty : TypeId) (K : Know) : LO := .blob (.cells nwArr ty (0, 0)) K
def M0 (ty : TypeId) : VM := fun g => if g < gN then some ⟨g, 0, ty, 0⟩ else none
theorem M0_zero (ty : TypeId) : M0 ty 0 = some ⟨0, 0, ty, 0⟩ := rfl
theorem S0_get {v : Nat} {o : XO} (h : S0.t.get v = some o) : v = 0 ∧ o = .ro [.int .i64 (-1), .int .i64 0, .int .i64 0] := by
  cases v with
  | zero => cases h; exact ⟨rfl, rfl⟩
  | succ v =>
    simp only [S0, Tr.get_nd, Tr.get_em, ite_self] at h
    cases h
variable {ty : TypeId} {K0 : Know}
theorem rel0 {H : OHeap} (hH : H 0 = some (nw ty K0)) : Rel (fun _ => none) (M0 ty) S0 nobox H := by
  refine ⟨fun v o h => ?_, fun v h => ?_, fun u v i j hu hv hi hj hb => ?_, fun v o od h => (by cases h), fun d _ => rfl, fun d cs h => (by cases h), fun g hg => ?_⟩
  · obtain ⟨rfl, rfl⟩ := S0_get h
    refine ⟨_, _, M0_zero ty, hH, rfl, rfl, ?_, rfl, rfl⟩
    intro x hx; simp at hx; rcases hx with rfl | rfl <;> rfl
  · have h : gN ≤ v := h
    simp only [M0]; rw [if_neg (by omega)]
  · have e : ∀ w, ((S0.t.get w).isSome = true ∨ (none : Option (LO × (Ex → LO))).isSome = true) → w = 0 := fun w h => by
      rcases h with h | h
      · obtain ⟨o, ho⟩ := Option.isSome_iff_exists.1 h
        exact (S0_get ho).1
      · cases h
    rw [e u hu, e v hv]
  · simp only [M0]; rw [if_pos hg]
    exact ⟨_, rfl, rfl, rfl⟩
theorem dok0 : dokC tabF 114 (dtF 11) C0 = true := by kernel_rfl
theorem hmo : Tryz.prog.follows .mixedOrders = true := by kernel_rfl
theorem clOK : CallOK Tryz.prog cl := exOK 60
theorem clEn : ∀ yh f args s r, cl yh f args s = some r → Enters Tryz.prog f := (exF_ok tokF hmo (fun f g h => by cases h) fchkF 60).2
/-- The global is as it was. -/
theorem back {m : VM} {H : OHeap} {s : XS} {bs : LP} {B : Box} (hle : Mle (M0 ty) m) (r : Rel bs m s B H) (hg : s.t.get 0 = some (.ro [.int .i64 (-1), .int .i64 0, .int .i64 0])) : ∃ K, H 0 = some (nw ty K) := by
  obtain ⟨i, lo, h1, h2, h3⟩ := r.obj 0 _ hg
  have := hle _ _ (M0_zero ty)
  rw [this] at h1; cases h1
  cases lo with
  | blob ob K => cases ob with
    | cells arr t fz =>
      obtain ⟨_, e2, _, e4, e5⟩ := h3
      simp only [] at e4
      subst e4; subst e5
      refine ⟨K, ?_⟩
      rw [h2]
      have inv : ∀ (n : Int) (v : Value), ofV1 v = .int .i64 n → v = .int .i64 n := fun n v h => by
        have := R.ofV1 (fun _ _ => none) v
        rw [h] at this
        cases this; rfl
      have : arr.toList = [.int .i64 (-1), .int .i64 0, .int .i64 0] := by
        generalize arr.toList = l at e2
        rcases l with _ | ⟨a, _ | ⟨b, _ | ⟨c, _ | ⟨d, l⟩⟩⟩⟩ <;> simp at e2
        rw [inv _ a e2.1.symm, inv _ b e2.2.1.symm, inv _ c e2.2.2.symm]
      have ha : arr = nwArr := Array.ext' this
      rw [ha]; rfl
    | _ => exact h3.elim
  | _ => exact h3.elim
theorem awake {H : OHeap} (hH : H 0 = some (nw ty K0)) : CallL Tryz.prog 11 [] H fun x H' => x = .bool true ∧ ∃ K, H' 0 = some (nw ty K) := by
  refine CallL.of_WP tokF Tryz.func11 (c := C0) (by kernel_rfl) rfl (by kernel_rfl) (by simp) ?_
  refine chunkG tokF hmo clOK clEn 4 q0 dok0 (fun i => .inr (.inl (by simp [E0, eget, Tr.get_em]))) (rel0 hH) rfl fun m1 Ea B1 H1 l1 d1 a1 r1 b1 => ?_
  refine chunkG tokF hmo clOK clEn 2 q1 d1 a1 r1 b1 fun m2 Eb B2 H2 l2 d2 a2 r2 b2 => ?_
  refine chunkG tokF hmo clOK clEn 1 q2 d2 a2 r2 b2 fun m3 Ec B3 H3 l3 d3 a3 r3 b3 => ?_
  refine chunkG tokF hmo clOK clEn 1 q3 d3 a3 r3 b3 fun m4 Ed B4 H4 l4 d4 a4 r4 b4 => ?_
  refine chunkG tokF hmo clOK clEn 2 q4 d4 a4 r4 b4 fun m5 Ee B5 H5 l5 d5 a5 r5 b5 => ?_
  refine chunkZ tokF hmo clOK clEn q5 d5 a5 r5 b5 fun m6 x H6 l6 tv r6 => ⟨tv.base_inv rfl, back ((((((l1.trans l2).trans l3).trans l4).trans l5)).trans l6) r6 rfl⟩
end Go.Xv.Q11
