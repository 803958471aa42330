/- Contracts of lock.Grant's and lock.Drop's closures, of lock.Drop. -/
import Derived.Test.YtoimfngeoiljeaaLc3
namespace Go.Lv
open Go Go.Proofs
set_option maxRecDepth 10000
set_option linter.unusedSimpArgs false

theorem own1_lv (tx res : Int) : PredOf (.fn 29 [] [.iptr [i64 tx], .iptr [i64 res]]) (fun h => decide (h.tx = tx) && decide (h.res = res)) := by
  refine ⟨_, _, _, rfl, by simp, fun h H => ?_⟩
  refine CallL.of_vc (n := 3) tok Try.func29 (c := _) rfl (by kernel_rfl) rfl ?_
  simp -implicitDefEqProofs [Held.lv]
  refine ⟨fun h1 => ?_, fun h1 => ?_⟩ <;> exact Ends.of ⟨by simp_all, rfl⟩

theorem dropP_lv (tx : Int) : PredOf (.fn 34 [] [.iptr [i64 tx]]) (fun h => decide (h.tx = tx)) := by
  refine ⟨_, _, _, rfl, by simp, fun h H => ?_⟩
  refine CallL.of_vc (n := 2) tok Try.func34 (c := _) rfl (by kernel_rfl) rfl ?_
  simp -implicitDefEqProofs [Held.lv]
  exact Ends.of ⟨rfl, rfl⟩

def gDrop (l : List Held) (tx : Int) : List Held := l.filter fun h => !decide (h.tx = tx)
/-- Some slice that holds this, sealed. -/
def SealOf (l : List Held) (H : OHeap) (x : LV) (H' : OHeap) : Prop := (∃ f, x = heldsL f l) ∧ H' = H

theorem deleteNil_lv (v : LV) (p : Held → Bool) (hp : PredOf v p) (f : Bool) (H : OHeap) :
    CallL Try.prog 32 [heldsL f [], v] H fun x H' => x = heldsL f [] ∧ H' = H := by
  have hp' := hp
  obtain ⟨g, fst, caps, rfl, hgl, hp⟩ := hp
  refine CallL.of_vc (n := 2) tok Try.func32 (c := _) rfl (by kernel_rfl) rfl ?_
  simp -implicitDefEqProofs [heldsL]
  refine CallL.ret (index_lv _ p hp' f [] H (by simp)) ?_
  simp -implicitDefEqProofs [gIndex]
  exact Ends.of ⟨rfl, rfl⟩

/-- What DeleteFunc makes of what Clone made. -/
theorem cloneDelete_lv {v : LV} {p : Held → Bool} (hp : PredOf v p) (l : List Held) (H : OHeap) (hl : l.length < 2 ^ 40) {x : LV} {H' : OHeap} (h : OwnOf l H x H') :
    CallL Try.prog 32 [x, v] H' fun y H'' => (l = [] ∧ y = .isl true 3 [] ∧ H'' = H) ∨ ∃ b c rest, H b = none ∧ l.length ≤ c ∧ y = .sl b 0 (l.filter fun h => !p h).length c ∧ H'' = setH H b (rowO (l.filter fun h => !p h) rest c) := by
  rcases h with ⟨rfl, rfl, rfl⟩ | ⟨hne, b, c, hb, hc, rfl, rfl⟩
  · exact (deleteNil_lv v p hp true H').mono fun y H'' h => .inl ⟨rfl, h.1, h.2⟩
  · refine (deleteOwn_lv v p hp l [] b c _ (by simp [rowO]) hl hc).mono fun y H'' h => ?_
    obtain ⟨rest, h1, h2⟩ := h
    exact .inr ⟨b, c, rest, hb, hc, h1, by rw [h2, setH_setH]⟩

theorem Ends.seal_row {l : List Held} {rest : List LV} {b c : Nat} {H : OHeap} (hb : H b = none) (hc : l.length ≤ c) : Ends (SealOf l H) (.sl b 0 l.length c) (setH H b (rowO l rest c)) := by
  refine Ends.wk (Wk.sealB 3 (b := b) (n := c * 3) (cs := (l.map Held.lv).flatten ++ rest) (by simp [rowO]) _) ?_
  rw [delH_setH hb]
  have := sealV_whole (b := b) (c := c) (rest := rest) (held_len l) (by simpa using hc)
  rw [List.length_map] at this
  simp only [sealT]
  rw [this]
  exact Ends.of ⟨⟨_, rfl⟩, rfl⟩

theorem drop_lv (f : Bool) (l : List Held) (tx : Int) (H : OHeap) (hl : l.length < 2 ^ 40) : CallL Try.prog 21 [heldsL f l, i64 tx] H (SealOf (gDrop l tx) H) := by
  refine CallL.of_wp (n := 2) tok Try.func21 (c := _) rfl (by kernel_rfl) rfl ?_
  refine WP.cut tok ?_
  simp -implicitDefEqProofs
  refine Then.below (Below.ibox (d := 3) (ver := 1) (cs := [i64 tx]) (by simp [nobox])) ?_
  refine Then.go tok ?_
  simp -implicitDefEqProofs [iboxV, nobox, heldsL]
  refine (clone_lv f l H hl).mono fun x H' hx => ?_
  simp -implicitDefEqProofs
  refine ⟨by rcases hx with ⟨_, rfl, _⟩ | ⟨_, b, c, _, _, rfl, _⟩ <;> rfl, ?_⟩
  refine (cloneDelete_lv (dropP_lv tx) l H hl hx).mono fun y H'' hy => ?_
  rcases hy with ⟨rfl, rfl, rfl⟩ | ⟨b, c, rest, hb, hc, rfl, rfl⟩
  · simp -implicitDefEqProofs
    exact Ends.of ⟨⟨true, rfl⟩, rfl⟩
  · simp -implicitDefEqProofs
    exact Ends.seal_row hb (Nat.le_trans (List.length_filter_le _ _) hc)
end Go.Lv
