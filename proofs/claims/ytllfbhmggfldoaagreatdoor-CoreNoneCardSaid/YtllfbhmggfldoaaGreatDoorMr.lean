/- The statement CoreNone: of whatever geometry, key and transaction the law returns true, and the arguments read as they did. No condition but the card's own. -/
import Derived.Test.YtllfbhmggfldoaaGreatDoorM18
import Derived.Test.YtllfbhmggfldoaaGreatDoorCards
import Derived.Test.YtllfbhmggfldoaaGreatDoorTie
import Derived.SevenTiedAt
namespace Go.Proofs.YtllfbhmggfldoaaGreatDoor
open Go Go.Lv Go.ChangeShapes Go.WideShapes Go.ChangeAt Go.RowKit
set_option linter.unusedVariables false

set_option maxRecDepth 100000 in
theorem coreNone_lifted (os : Os) (started : os.Started) (H : Type) (enc : TypeId × Value → H) :
    ReturnsInHanded {} Tryz.checked os 10 .any (fun w args => (Rows.coreNoneSpec.pre enc Tryz.prog Tryz.f10 [] false w args ∧ laidMetH Tryz.prog [("bobbin/table.nowhere", Rows.laid_bobbin_table_nowhere)] w) ∧ sizedMet enc Tryz.prog Tryz.f10 (OpenSpec.ofChange Rows.coreNoneSpec) false w args)
      (Rows.coreNoneSpec.post enc Tryz.prog Tryz.f10 false true false false) := by
  refine law_laid (C := Tryz.checked) (tb := 4) (O := NowObj) Tryz.own started (by as_aux_lemma => kernel_rfl) Tryz.func10
    (ChangeSpec.witness_shaped (enc := enc) (C := Tryz.checked) (os := os) (X := fun w _ => laidMetH Tryz.prog [("bobbin/table.nowhere", Rows.laid_bobbin_table_nowhere)] w) false (World.laidAll Tryz.prog os [("bobbin/table.nowhere", Rows.laid_bobbin_table_nowhere)])
      #[.agg #[.int .i64 0, .int .i64 0, .int .i64 0, .int .i64 0, .int .i64 0], .int .i64 0, .agg #[.int .i64 0, .int .i64 0, .int .i64 0, .int .i64 0, .slice none 0 0, .slice none 0 0]] 8 (World.laidAll_os _ _ _)
      (World.shaped_of_ZipB (by as_aux_lemma => kernel_rfl) (by as_aux_lemma => kernel_rfl)) (by as_aux_lemma => kernel_rfl) (by as_aux_lemma => kernel_rfl) (by as_aux_lemma => kernel_rfl)
      (by rw [MakeChecks.laidMetH_plain _ _ _ (by as_aux_lemma => kernel_rfl)]; exact laidMet_laidAll _ (by as_aux_lemma => kernel_rfl) (by as_aux_lemma => kernel_rfl)))
    ⟨_, Tryz.func10, by kernel_rfl, by kernel_rfl⟩ Tryz.laidOut (by as_aux_lemma => kernel_rfl) rfl (by as_aux_lemma => kernel_rfl) (by as_aux_lemma => kernel_rfl) (fun ds hd => ?_) (by as_aux_lemma => kernel_rfl) (fun W h => nowhere_of_laid h) ?_
  · match ds, hd with
    | [d1, d2, d3], _ => rfl
  · intro W base args ds ps ob hob hnow hval0 hA0
    have hval : ∀ (j : Nat) t v, Tryz.f10.params[j]? = some t → args[j]? = some v → Value.okWide Tryz.prog W .any base t v := hval0
    have hA : DataW.TrodAll enc Tryz.prog W 0 (fun _ => true) true Tryz.f10.params.toList args.toList ds ps := hA0
    rw [Tryz.params10] at hA hval
    obtain ⟨v0, vs0, d0, e0, p0, q0, hargs, rfl, rfl, h0, r0⟩ := trodAll_cons hA
    obtain ⟨v1, vs1, d1, e1, p1, q1, rfl, rfl, rfl, h1, r1⟩ := trodAll_cons r0
    obtain ⟨v2, vs2, d2, e2, p2, q2, rfl, rfl, rfl, h2, r2⟩ := trodAll_cons r1
    obtain ⟨rfl, rfl, rfl⟩ := trodAll_nil r2
    obtain rfl : args = #[v0, v1, v2] := by cases args; simp_all
    obtain ⟨a, b, c, d, e, hg⟩ := open_geo (hval 0 23 v0 rfl rfl) h0 (Kof0 W)
    obtain ⟨k, rfl, rfl, rfl, wk⟩ := open_int Tryz.underlying3 (hval 1 3 v1 rfl rfl) h1
    obtain ⟨id, st, fi, la, f, l, sv, ht, hs, hl⟩ := open_tx hob hnow (fun _ => rfl) (hval 2 64 v2 rfl rfl) h2
    obtain ⟨ty, rfl⟩ := hnow
    refine ⟨_, Rs.cons hg (Rs.cons (.int .i64 k) (Rs.cons ht (Rs.nil _))), ?_⟩
    exact (coreNone_lv ty (fun _ _ => none) a b c d e k id st fi la f l sv hs hl (H0 (.cells Go.Xv.Q11.nwArr ty (0, 0))) (H0_zero _)).mono fun x H' hx => hx

theorem coreNone_holds : Rows.CoreNoneSaid :=
  OpenClaim.holds_of_wide 10 Tryz.f10 rfl rfl rfl rfl rfl rfl rfl ⟨rfl, rfl, rfl, rfl, rfl⟩ rfl rfl rfl rfl rfl (by as_aux_lemma => kernel_rfl) Tryz.func10 joined10
    (of_decide_eq_true (by as_aux_lemma => kernel_rfl)) (by unfold Func.isWrapper; first | (rw [if_pos (by decide +kernel)]; kernel_rfl) | (rw [if_neg (by decide +kernel)]; exact ⟨rfl, rfl⟩))
    (fun os started H enc _ => coreNone_lifted os started H enc)
theorem coreNone_card_holds : Rows.CoreNoneCardSaid :=
  Claim7.holds_tied_plain_at .later [] [.data] true (true, "ec89e082b354e624b0f3f4b403e5ca779879cd3df17534592790a8b25381e0c0") false coreNone_holds (fun _ h => by cases h) (by as_aux_lemma => kernel_rfl) (fun _ h => by cases h) coreNone_row_tie rfl ⟨rfl, rfl⟩ (by as_aux_lemma => kernel_rfl) rfl
    (fun f fn hf hfn => by
      obtain rfl : f = 10 := Option.some.inj ((show Tryz.prog.funcNamed "bobbin/bobbinlaw19.CoreNone" = some 10 by kernel_rfl).symm.trans hf) |>.symm
      obtain rfl : fn = Tryz.f10 := (Option.some.inj (Tryz.func10.symm.trans hfn)).symm
      exact ⟨by kernel_rfl, fun j t ht => by
        rw [Tryz.params10] at ht
        have hm : t ∈ [23, 3, 64] := by simpa using Array.mem_of_getElem? ht
        have hall : ([23, 3, 64].all fun u => !Tryz.prog.wantsStandIn u) = true := by kernel_rfl
        exact (show Tryz.prog.wantsStandIn t = false by simpa using List.all_eq_true.1 hall t hm)⟩)
    (by as_aux_lemma => kernel_rfl)
end Go.Proofs.YtllfbhmggfldoaaGreatDoor
#print axioms Go.Proofs.YtllfbhmggfldoaaGreatDoor.coreNone_card_holds
