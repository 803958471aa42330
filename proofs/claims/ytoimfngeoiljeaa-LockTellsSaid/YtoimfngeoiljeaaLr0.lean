/- What the rows of the laws on locks share: their arguments as trees. -/
import Derived.Test.YtoimfngeoiljeaaLe3
import Derived.Test.YtoimfngeoiljeaaLd5
import Derived.Test.YtoimfngeoiljeaaLvX
import Derived.Test.YtoimfngeoiljeaaRows
namespace Go.Proofs.Ytoimfngeoiljeaa
open Go Go.Lv Go.ChangeShapes Go.WideShapes Go.ChangeAt Go.RowKit

theorem Try.own : ownKnob Try.prog.godebug = none := by kernel_rfl
theorem Try.laidOut : laidOutB Try.prog = true := by kernel_rfl

theorem inI_wf {n : Int} (h : (Lit.int .i64 n).wf = true) : inI n := by
  simp [Lit.wf, IntKind.min, IntKind.max, IntKind.signed, IntKind.bits] at h
  unfold inI; omega


set_option maxRecDepth 100000 in
theorem open_helds {H : Type} {enc : TypeId × Value → H} {W : World} {base b0 : Nat} {spare : Nat → Bool} {held : Bool} {r : Reach} {v : Value} {d : DataW H} {ps : List MemPlace}
    (hval : Value.okWide Try.prog W r b0 24 v) (h : DataW.Trod enc Try.prog W base spare held 24 v d ps) : ∃ f l, R (Kof W) (heldsL f l) v ∧ ∀ h ∈ l, Hok h := by
  have c3 : Try.prog.cellsOf 3 = 1 := by kernel_rfl
  obtain ⟨f, rows, h1, h2⟩ := open_isl (es := 3) (fun r => ∃ x : Held, r = x.lv ∧ Hok x) Try.underlying24 (by kernel_rfl) (fun n cs x hx hl => by
    obtain ⟨xs, m, rfl, rfl, _, hlen, hf⟩ := DataW.trod_struct Try.underlying26 hx
    match cs, hl with
    | [u0, u1, u2], _ =>
      match xs, hlen with
      | [y0, y1, y2], _ =>
        have f0 : DataW.trod enc Try.prog W base spare held m 3 [u0] = some y0 := by simpa [c3] using hf 0 _ rfl
        have f1 : DataW.trod enc Try.prog W base spare held m 3 [u1] = some y1 := by simpa [c3] using hf 1 _ rfl
        have f2 : DataW.trod enc Try.prog W base spare held m 3 [u2] = some y2 := by simpa [c3] using hf 2 _ rfl
        obtain ⟨n0, e0, _, w0⟩ := DataW.trod_int Try.underlying3 f0
        obtain ⟨n1, e1, _, w1⟩ := DataW.trod_int Try.underlying3 f1
        obtain ⟨n2, e2, _, w2⟩ := DataW.trod_int Try.underlying3 f2
        simp at e0 e1 e2
        subst e0; subst e1; subst e2
        exact ⟨_, Rs.cons (.int _ _) (Rs.cons (.int _ _) (Rs.cons (.int _ _) (Rs.nil _))), ⟨n0, n1, n2⟩, rfl, inI_wf w0, inI_wf w1, inI_wf w2⟩) hval h
  obtain ⟨l, rfl, hl⟩ := rows_map Held.lv Hok h2
  exact ⟨f, l, h1, hl⟩
end Go.Proofs.Ytoimfngeoiljeaa
