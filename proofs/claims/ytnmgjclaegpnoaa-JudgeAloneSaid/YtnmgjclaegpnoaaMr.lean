/- The statement JudgeAlone: of whatever keys and value the law returns true, and the arguments read as they did. No condition. -/
import Derived.Test.YtnmgjclaegpnoaaM5
namespace Go.Proofs.Ytnmgjclaegpnoaa
open Go Go.Lv Go.ChangeShapes Go.WideShapes Go.ChangeAt Go.RowKit
set_option linter.unusedVariables false

section
variable {H : Type} {enc : TypeId × Value → H} {W : World} {base : Nat} {spare : Nat → Bool} {held : Bool}
set_option maxRecDepth 100000 in
theorem open_ints {b0 : Nat} {r : Reach} {v : Value} {d : DataW H} {ps : List MemPlace}
    (hsp : ∀ b, spare b = true) (hval : Value.okWide Try.prog W r b0 38 v) (h : DataW.Trod enc Try.prog W base spare held 38 v d ps) : ∃ f l, R (Kof W) (intsL f l) v := by
  obtain ⟨f, rows, h1, h2⟩ := open_isl (es := 1) (fun r => ∃ x : Int, r = [i64 x] ∧ True) Try.underlying38 (by kernel_rfl) (fun n cs x hx hl => by
    obtain ⟨n0, e0, _, w0⟩ := DataW.trod_int Try.underlying3 hx
    subst e0
    exact ⟨_, Rs.cons (.int _ _) (Rs.nil _), n0, rfl, trivial⟩) (by decide) hsp hval h
  obtain ⟨l, rfl, hl⟩ := rows_map (fun x : Int => [i64 x]) (fun _ => True) h2
  refine ⟨f, l, ?_⟩
  have : intsL f l = .isl f 1 (l.map fun x => [i64 x]) := by simp [intsL, rowL]
  rw [this]; exact h1
set_option maxRecDepth 100000 in
theorem open_val {b0 : Nat} {r : Reach} {v : Value} {d : DataW H} {ps : List MemPlace}
    (hsp : ∀ b, spare b = true) (hval : Value.okWide Try.prog W r b0 28 v) (h : DataW.Trod enc Try.prog W base spare held 28 v d ps) : ∃ is f b, R (Kof W) (valL is f b) v := by
  have c4 : Try.prog.cellsOf 4 = 1 := by kernel_rfl
  have c26 : Try.prog.cellsOf 26 = 1 := by kernel_rfl
  have c28 : Try.prog.cellsOf 28 = 2 := by kernel_rfl
  obtain ⟨cs, rfl, hsz⟩ := okWide_struct Try.underlying28 hval
  obtain ⟨fuel, h⟩ := h
  obtain ⟨zs, m', _, _, _, hlen', hf'⟩ := DataW.trod_struct Try.underlying28 h
  rw [c28] at hsz
  obtain ⟨cs⟩ := cs
  match cs, hsz with
  | [u0, u1], _ =>
    match zs, hlen' with
    | [z0, z1], _ =>
      have g0 : DataW.trod enc Try.prog W base spare held m' 4 [u0] = some z0 := by simpa [c4, Value.cells] using hf' 0 _ rfl
      have g1 : DataW.trod enc Try.prog W base spare held m' 26 [u1] = some z1 := by simpa [c26, Value.cells] using hf' 1 _ rfl
      obtain ⟨b0, e0, _⟩ := DataW.trod_bool Try.underlying4 g0
      obtain ⟨v1, g, l, e1, r1⟩ := trod_bytes hsp g1
      simp at e0 e1
      subst e0; subst e1
      refine ⟨b0, g, l, .agg _ [_, _] rfl fun i x v hx hv => ?_⟩
      match i with
      | 0 => simp at hx hv; subst hx; subst hv; exact .bool _
      | 1 => simp at hx hv; subst hx; subst hv; exact r1
      | i + 2 => simp at hx
end

set_option maxRecDepth 100000 in
theorem judgeAlone_lifted (os : Os) (started : os.Started) (H : Type) (enc : TypeId × Value → H) :
    ReturnsInHanded {} Try.checked os 5 .any (Rows.judgeAloneSpec.pre6 enc Try.prog Try.f5 Rows.judgeAloneRow.domain false) (Rows.judgeAloneSpec.post enc Try.prog Try.f5 false true false false) := by
  refine law_handed (C := Try.checked) (tb := 4) Try.own started (by kernel_rfl) Try.func5
    (ChangeSpec.witness6 (enc := enc) (C := Try.checked) false ⟨#[], #[.slice none 0 0, .agg #[.bool false, .slice none 0 0]], []⟩ 8 (by kernel_rfl) (by kernel_rfl) (by kernel_rfl) (by kernel_rfl))
    ⟨_, Try.func5, by kernel_rfl, by kernel_rfl⟩ Try.laidOut (by kernel_rfl) rfl (by kernel_rfl) (by kernel_rfl) (fun ds hd => ?_) ?_
  · match ds, hd with
    | [d1, d2], _ => rfl
  · intro W base args ds ps hval0 hA0
    have hval : ∀ (j : Nat) t v, Try.f5.params[j]? = some t → args[j]? = some v → Value.okWide Try.prog W .any base t v := hval0
    have hA : DataW.TrodAll enc Try.prog W 0 (fun _ => true) true Try.f5.params.toList args.toList ds ps := hA0
    rw [Try.params5] at hA hval
    obtain ⟨v0, v1, d0, d1, p0, p1, rfl, rfl, rfl, h0, h1⟩ := trodAll_two hA
    obtain ⟨f, l, hl⟩ := open_ints (fun _ => rfl) (hval 0 38 v0 rfl rfl) h0
    obtain ⟨is, g, b, hb⟩ := open_val (fun _ => rfl) (hval 1 28 v1 rfl rfl) h1
    refine ⟨[intsL f l, valL is g b], Rs.cons hl (Rs.cons hb (Rs.nil _)), ?_⟩
    exact (lawAlone_lv f l is g b noH).mono fun x H' hx => hx.1

theorem judgeAlone_holds : Rows.JudgeAloneSaid :=
  OpenClaim.holds_of_wide 5 Try.f5 rfl rfl rfl rfl rfl rfl rfl ⟨rfl, rfl, rfl, rfl, rfl⟩ rfl rfl rfl rfl rfl (by kernel_rfl) Try.func5 (by kernel_rfl)
    (of_decide_eq_true (by kernel_rfl)) (by unfold Func.isWrapper; first | (rw [if_pos (by decide +kernel)]; kernel_rfl) | (rw [if_neg (by decide +kernel)]; exact ⟨rfl, rfl⟩))
    (fun os started H enc _ => judgeAlone_lifted os started H enc)
end Go.Proofs.Ytnmgjclaegpnoaa
#print axioms Go.Proofs.Ytnmgjclaegpnoaa.judgeAlone_holds
