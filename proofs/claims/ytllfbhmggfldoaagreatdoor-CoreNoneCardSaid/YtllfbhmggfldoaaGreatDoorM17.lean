/- Texts of this proof, put together: Cn4, Lw0, Cr0. No condition. -/
import Derived.Test.YtllfbhmggfldoaaGreatDoorM16
import Derived.Handed
import Derived.LaidLaws
import Derived.Lay
import Derived.MakeChecks
import Derived.Test.YtllfbhmggfldoaaGreatDoorRows
/- The law CoreNone: it answers true. -/
namespace Go.Lv
open Go Go.Proofs
set_option maxRecDepth 10000
set_option linter.unusedSimpArgs false
theorem coreNone_lv (ty : TypeId) (K0 : Know) (a b c d e k : Int) (id st fi la : Int) (f : Bool) (l : List Ch) (sv : LV) (hs : ∃ n, LenOf sv n) (hl : ∀ c ∈ l, c.ok) (H : OHeap) (hH : H 0 = some (Go.Xv.Q11.nw ty K0)) :
    CallL Tryz.prog 10 [.agg [i64 a, i64 b, i64 c, i64 d, i64 e], i64 k, txL id st fi la f l sv] H fun x H' => x = .bool true ∧ ∃ K, H' 0 = some (Go.Xv.Q11.nw ty K) := by
  refine CallL.of_vc (n := 3) tok Tryz.func10 (c := _) rfl (by kernel_rfl) rfl ?_
  simp -implicitDefEqProofs [txL]
  have hsv : sv.one = true := by obtain ⟨n, ⟨rfl, _⟩ | ⟨b, o, c, rfl⟩⟩ := hs <;> rfl
  refine ⟨hsv, ?_⟩
  refine (Go.Xv.Q11.awake hH).mono fun x H1 hx => ?_
  obtain ⟨rfl, K1, hK⟩ := hx
  simp -implicitDefEqProofs
  refine (light_lv id st fi la f l sv hs hl H1).mono fun x H' hx => ?_
  obtain ⟨⟨r, rfl⟩, rfl⟩ := hx
  cases r with
  | false =>
    simp -implicitDefEqProofs
    exact Ends.of ⟨rfl, K1, hK⟩
  | true =>
    simp -implicitDefEqProofs
    refine CallL.ret (begin_nil _) ?_
    simp -implicitDefEqProofs
    refine CallL.ret (get_nil _ _) ?_
    simp -implicitDefEqProofs
    refine CallL.ret (all_nil _) ?_
    simp -implicitDefEqProofs
    refine CallL.ret (write_nil _ _) ?_
    simp -implicitDefEqProofs
    refine CallL.ret (save_nil _ _) ?_
    simp -implicitDefEqProofs
    refine CallL.ret (back_nil _ _ _) ?_
    simp -implicitDefEqProofs
    refine CallL.ret (commit_nil _ _) ?_
    simp -implicitDefEqProofs
    refine CallL.ret (abort_nil _ _) ?_
    simp -implicitDefEqProofs
    refine CallL.ret (flush_nil _) ?_
    simp -implicitDefEqProofs
    refine CallL.ret (clean_nil _) ?_
    simp -implicitDefEqProofs
    refine CallL.ret (check_nil _) ?_
    simp -implicitDefEqProofs [hsv]
    refine CallL.ret (resume_nil _ _ _ _ _ _ _ _ _ _ _) ?_
    simp -implicitDefEqProofs
    refine CallL.ret (has_nil _ _) ?_
    simp -implicitDefEqProofs
    refine CallL.ret (look_nil _) ?_
    simp -implicitDefEqProofs [lookNil]
    exact Ends.of ⟨rfl, K1, hK⟩
end Go.Lv
/- Lv, part W0: the bridge for a row that lists a variable (block 0, three numbers, which the law reads and does not turn). Over any program; no condition. -/
namespace Go.Lv
open Go Go.ChangeShapes Go.WideShapes
set_option linter.unusedVariables false
set_option linter.unusedSimpArgs false

/-- All that stands in the first world is known, but for block 0. -/
def Kof0 (W : World) : Know := fun b o => if b = 0 then none else W.cell? ⟨b, o, none⟩
/-- Block 0 alone is owned: it is this object, and no other. -/
def H0 (ob : Obj) : OHeap := fun b => if b = 0 then some (.blob ob (fun _ _ => none)) else none
theorem H0_zero (ob : Obj) : H0 ob 0 = some (.blob ob (fun _ _ => none)) := by simp [H0]
theorem dom_H0 {ob : Obj} {b : Nat} : dom (H0 ob) nobox id b ↔ b = 0 := by
  constructor
  · rintro (h | ⟨d, h, _⟩)
    · by_cases hb : b = 0
      · exact hb
      · simp [H0, hb] at h
    · simp [nobox] at h
  · rintro rfl; left; simp [H0]
theorem good1 {W : World} {ob : Obj} (h : W.heap[0]? = some ob) : Good (Kof0 W) id nobox (H0 ob) W := {
  know b o v h := by
    simp only [Kof0] at h
    split at h
    · cases h
    · exact h
  own b o ho := by
    simp only [H0] at ho
    split at ho
    · rename_i hb; subst hb; cases ho; exact ⟨h, fun _ _ _ hv => by cases hv⟩
    · cases ho
  apart b o h := by rw [dom_H0] at h; simp [Kof0, h]
  box d ver cs h := by simp [nobox] at h
  boxH d h := by simp [nobox] at h
  boxne d d' h := by simp [nobox] at h }

section
variable {H : Type} {enc : TypeId × Value → H} {P : Program} {W W' : World} {base : Nat} {spare : Nat → Bool} {held : Bool}

/-- A slice that is read is a sealed tree, where what is read is known. -/
theorem trod_islK {K : Know} {t e : TypeId} {es fuel : Nat} {cs : List Value} {x : DataW H × List MemPlace} (RowT : List LV → Prop) (ht : P.underlying t = some (.slice e)) (he : P.cellsOf e = es)
    (hrow : ∀ n cs x b o, DataW.trod enc P W base spare held n e cs = some x → cs.length = es → (∀ j, j < es → W.cell? ⟨b, o + j, none⟩ = cs[j]?) → (∀ j, j < es → K b (o + j) = cs[j]?) ∧ ∃ r, Rs K r cs ∧ RowT r)
    (hpos : 0 < es) (hspare : ∀ b, spare b = true) (h : DataW.trod enc P W base spare held fuel t cs = some x) :
    ∃ v f rows, cs = [v] ∧ R K (.isl f es rows) v ∧ (∀ r ∈ rows, RowT r) := by
  rcases DataW.trod_slice ht h with ⟨rfl, _⟩ | ⟨a, len, cap, elems, rest, n, _, rfl, _, hb, hl, hm, hlen, hel, hrest, _⟩
  · exact ⟨_, true, [], rfl, .isln _ _, by simp⟩
  by_cases hcap : cap = 0
  · subst hcap
    have : len = 0 := by omega
    subst this
    exact ⟨_, true, [], rfl, .isle _ _ _, by simp⟩
  · obtain ⟨b, o, sp⟩ := a
    have : sp = none := by
      by_cases h0 : 0 < len
      · have h1 := hel 0 h0
        rw [List.getElem?_eq_getElem (by omega), Option.bind_eq_some_iff] at h1
        obtain ⟨cs', h3, _⟩ := h1
        rw [he, Nat.zero_mul] at h3
        have := spot_of_cells hpos h3
        simpa [Addr.add] using this
      · have h0' : len = 0 := by omega
        subst h0'
        obtain ⟨hrl, hr⟩ := hrest (hspare _)
        have h1 := hr 0 (by omega)
        rw [List.getElem?_eq_getElem (by omega), Option.bind_eq_some_iff] at h1
        obtain ⟨cs', h3, _⟩ := h1
        rw [he, Nat.zero_add, Nat.zero_mul] at h3
        have := spot_of_cells hpos h3
        simpa [Addr.add] using this
    subst this
    have one : ∀ i, ∃ r cs', i < len → Rs K r cs' ∧ RowT r ∧ cs'.length = es ∧ ∀ j, j < es → K b (o + i * es + j) = cs'[j]? := fun i => by
      by_cases hi : i < len
      · have h1 := hel i hi
        have h2 : i < elems.length := by omega
        rw [List.getElem?_eq_getElem h2, Option.bind_eq_some_iff] at h1
        obtain ⟨cs', h3, h4⟩ := h1
        rw [he] at h3
        obtain ⟨_, h5, h6⟩ := World.cells?_some h3
        obtain ⟨hk, r, h7, h8⟩ := hrow _ _ _ b (o + i * es) h4 h5 fun j hj => by
          have := h6 j hj
          rw [add_plain, add_plain] at this
          exact this
        exact ⟨r, cs', fun _ => ⟨h7, h8, h5, hk⟩⟩
      · exact ⟨[], [], fun h => absurd h hi⟩
    obtain ⟨rf, hrf'⟩ := Classical.axiomOfChoice one
    obtain ⟨cf, hrf⟩ := Classical.axiomOfChoice hrf'
    have key := R.isl (K := K) (decide (cap = len)) es ((List.range len).map rf) b o cap (fun i j => ((cf i)[j]?).getD (.bool false)) (by simpa using hl) (by simp) (by
      intro x hx
      obtain ⟨i, hi, rfl⟩ := List.mem_map.1 hx
      have := hrf i (List.mem_range.1 hi)
      rw [← this.1.1]; exact this.2.2.1) (by
      intro i j x y hx hy
      simp only [List.getElem?_map, Option.map_eq_some_iff] at hx
      obtain ⟨i', hi', rfl⟩ := hx
      obtain ⟨hi1, rfl⟩ : i < len ∧ i = i' := by
        by_cases hc : i < len
        · rw [List.getElem?_range hc] at hi'; simp at hi'; exact ⟨hc, hi'⟩
        · rw [List.getElem?_eq_none (by simpa using hc)] at hi'; simp at hi'
      obtain ⟨g1, g2, g3, g4⟩ := hrf i hi1
      have hj : j < es := by have := (List.getElem?_eq_some_iff.1 hy).1; rw [← g1.1, g3] at this; exact this
      rw [g4 j hj, List.getElem?_eq_getElem (by omega)]; rfl) (by
      intro i j x y hx hy
      simp only [List.getElem?_map, Option.map_eq_some_iff] at hx
      obtain ⟨i', hi', rfl⟩ := hx
      obtain ⟨hi1, rfl⟩ : i < len ∧ i = i' := by
        by_cases hc : i < len
        · rw [List.getElem?_range hc] at hi'; simp at hi'; exact ⟨hc, hi'⟩
        · rw [List.getElem?_eq_none (by simpa using hc)] at hi'; simp at hi'
      obtain ⟨g1, g2, g3, g4⟩ := hrf i hi1
      have hj : j < es := by have := (List.getElem?_eq_some_iff.1 hy).1; rw [← g1.1, g3] at this; exact this
      refine g1.2 j y _ hy ?_
      rw [List.getElem?_eq_getElem (by omega)]; rfl)
    simp only [List.length_map, List.length_range] at key
    exact ⟨_, _, _, rfl, key, fun r hr => by
      obtain ⟨i, hi, rfl⟩ := List.mem_map.1 hr
      exact (hrf i (List.mem_range.1 hi)).2.1⟩

/-- A slice of which nothing but the length is asked. -/
theorem trod_len {K : Know} {t e : TypeId} {es fuel : Nat} {cs : List Value} {x : DataW H × List MemPlace} (ht : P.underlying t = some (.slice e)) (he : P.cellsOf e = es) (hpos : 0 < es) (hspare : ∀ b, spare b = true)
    (h : DataW.trod enc P W base spare held fuel t cs = some x) : ∃ v y, cs = [v] ∧ R K y v ∧ (y = .isl true es [] ∨ ∃ b o l c, y = .sl b o l c) := by
  rcases DataW.trod_slice ht h with ⟨rfl, _⟩ | ⟨a, len, cap, elems, rest, n, _, rfl, _, hb, hl, hm, hlen, hel, hrest, _⟩
  · exact ⟨_, _, rfl, .isln _ _, .inl rfl⟩
  by_cases hcap : cap = 0
  · subst hcap
    have : len = 0 := by omega
    subst this
    exact ⟨_, _, rfl, .isle _ _ _, .inl rfl⟩
  · obtain ⟨b, o, sp⟩ := a
    have : sp = none := by
      by_cases h0 : 0 < len
      · have h1 := hel 0 h0
        rw [List.getElem?_eq_getElem (by omega), Option.bind_eq_some_iff] at h1
        obtain ⟨cs', h3, _⟩ := h1
        rw [he, Nat.zero_mul] at h3
        have := spot_of_cells hpos h3
        simpa [Addr.add] using this
      · have h0' : len = 0 := by omega
        subst h0'
        obtain ⟨hrl, hr⟩ := hrest (hspare _)
        have h1 := hr 0 (by omega)
        rw [List.getElem?_eq_getElem (by omega), Option.bind_eq_some_iff] at h1
        obtain ⟨cs', h3, _⟩ := h1
        rw [he, Nat.zero_add, Nat.zero_mul] at h3
        have := spot_of_cells hpos h3
        simpa [Addr.add] using this
    subst this
    exact ⟨_, _, rfl, .sl _ _ _ _, .inr ⟨_, _, _, _, rfl⟩⟩

theorem post_law1 {f : Func} {s : ChangeSpec} {args : Array Value} {ds gs : List (DataW H)} {before : List MemPlace} {tb : TypeId} (hl : laidOutB P = true)
    (hp : f.params.toList.all (fun t => P.readableRec t && decide (t < P.types.size)) = true) (hv : s.vars = []) (hr : f.resultTypes = #[tb]) (htb : P.underlying tb = some .bool)
    (hs : ∀ ds : List (DataW H), ds.length = f.params.toList.length → s.fn H ds = { results := [.lit (.bool true)], args := ds })
    (hW : DataW.Whole enc P f.params.toList s.vars false W args.toList ds gs before) (hbel : RowKit.Below W.heap.size W W') : s.post enc P f false true false false W args (.bool true) W' := by
  obtain ⟨p, q, hA, hV, rfl, hfz, hnd⟩ := hW
  have hlt := DataW.Whole.lt ⟨p, q, hA, hV, rfl, hfz, hnd⟩
  have hV' := hV
  rw [hv] at hV'
  obtain ⟨rfl, rfl⟩ := ChangeShapes.trodVars_none hV'
  have hds := trodAll_len hA
  have e1 := hs (ds ++ []) (by simpa using hds.1)
  refine ⟨ds, [], p ++ [], [], p, [], ⟨p, [], hA, hV, rfl, hfz, hnd⟩, ?_, ?_, ?_, ?_, fun h => by cases h⟩
  · rw [e1, hr]
    exact ChangeShapes.trodAll_mk1 ⟨1, by simp [DataW.trod, Value.cells, htb]⟩
  · rw [e1]
    simp only [List.append_nil]
    exact trodAll_carry hl hbel (fun b hb => by simpa using hb) hp (fun x hx => hlt x (by simp [hx])) hA
  · rw [e1, hv]; rfl
  · exact World.keptBut_mono (fun _ f => f.elim) (hbel.frame (fun _ => False))

theorem laidMetH_of_heap {w w' : World} {l : List (String × DataW Unit)} (hl : (l.all fun x => x.2.handleName?.isNone) = true) (hh : w.heap = w'.heap) (h : laidMetH P l w) : laidMetH P l w' := by
  rw [MakeChecks.laidMetH_plain _ _ _ hl] at h ⊢
  exact h.of_heap hh
theorem law_laid {a : Assume} {C : Checked} {os : Os} {f : FuncId} {fn : Func} {s : ChangeSpec} {tb : TypeId} {laid : List (String × DataW Unit)} {O : Obj → Prop}
    (own : ownKnob C.prog.godebug = none) (started : os.Started) (noInit : C.prog.inits.idxOf? f = none) (hfn : C.prog.funcs[f]? = some fn)
    (witness : ∃ (w : World) (tape : Tape) (i : Input), w.os = os ∧ (w.forCall tape i).Shaped C.prog ∧ i.vars = [] ∧ Input.okWide C.prog (w.forCall tape i) .any w.heap.size f i ∧
      ((s.pre enc C.prog fn [] false (w.forCall tape i).memory i.args ∧ laidMetH C.prog laid (w.forCall tape i).memory) ∧ sizedMet enc C.prog fn (OpenSpec.ofChange s) false (w.forCall tape i).memory i.args) ∧ a.holds C.prog (lone (Frame.enter C.prog f i.args .normal) [] (w.forCall tape i)))
    (he : Enters C.prog f) (hl : laidOutB C.prog = true) (hp : fn.params.toList.all (fun t => C.prog.readableRec t && decide (t < C.prog.types.size)) = true) (hv : s.vars = []) (hr : fn.resultTypes = #[tb]) (htb : C.prog.underlying tb = some .bool)
    (hs : ∀ ds : List (DataW H), ds.length = fn.params.toList.length → s.fn H ds = { results := [.lit (.bool true)], args := ds })
    (hlp : (laid.all fun x => x.2.handleName?.isNone) = true) (hO : ∀ W, laidMetH C.prog laid W → ∃ ob, W.heap[0]? = some ob ∧ O ob)
    (key : ∀ (W : World) (base : Nat) (args : Array Value) (ds : List (DataW H)) (ps : List MemPlace) (ob : Obj), W.heap[0]? = some ob → O ob → (∀ (j : Nat) t v, fn.params[j]? = some t → args[j]? = some v → Value.okWide C.prog W .any base t v) →
      DataW.TrodAll enc C.prog W 0 (fun _ => true) true fn.params.toList args.toList ds ps → ∃ xs, Rs (Kof0 W) xs args.toList ∧ CallL C.prog f xs (H0 ob) fun x H' => x = .bool true ∧ ∃ K, H' 0 = some (.blob ob K)) :
    ReturnsInHanded a C os f .any (fun w args => (s.pre enc C.prog fn [] false w args ∧ laidMetH C.prog laid w) ∧ sizedMet enc C.prog fn (OpenSpec.ofChange s) false w args) (s.post enc C.prog fn false true false false) := by
  refine returnsInHanded_of_change_and (X := fun w _ => laidMetH C.prog laid w) (fun _ _ _ hh h => laidMetH_of_heap hlp hh h) own started noInit hfn witness ?_
  intro W base args ds gs before hval hW _ _ hL _
  obtain ⟨ob, hob, hoo⟩ := hO W hL
  obtain ⟨p, q, hA, hV, hpq, hfz, hnd⟩ := hW
  obtain ⟨xs, hxs, hc⟩ := key W base args ds p ob hob hoo hval hA
  have := (hc.enter he).2 (Kof0 W) W args.toList (good1 hob) hxs
  rw [Array.toArray_toList] at this
  refine this.mono fun en W' ⟨v, x, K', H', he, hg, hR, fr, hx, K, hk⟩ => ?_
  subst hx
  cases hR
  have h0 : W'.heap[0]? = some ob := (hg.own 0 _ hk).1
  have hbel : RowKit.Below W.heap.size W W' := ⟨fr.os, fr.tape, fr.output, fr.size, fun k hk => by
    by_cases hk0 : k = 0
    · subst hk0; rw [h0, hob]
    · exact fr.old k hk fun hd => hk0 (dom_H0.1 hd)⟩
  exact ⟨_, he, post_law1 hl hp hv hr htb hs ⟨p, q, hA, hV, hpq, hfz, hnd⟩ hbel⟩
end
end Go.Lv
/- What the rows of the laws on the core share: the listed variable, a geometry, a transaction of which only lengths are asked. -/
namespace Go.Proofs.YtllfbhmggfldoaaGreatDoor
open Go Go.Lv Go.ChangeShapes Go.WideShapes Go.ChangeAt Go.RowKit
set_option linter.unusedVariables false
set_option maxRecDepth 100000

theorem Tryz.own : ownKnob Tryz.prog.godebug = none := by kernel_rfl
theorem Tryz.laidOut : laidOutB Tryz.prog = true := by kernel_rfl
theorem c3 : Tryz.prog.cellsOf 3 = 1 := by kernel_rfl
theorem c4 : Tryz.prog.cellsOf 4 = 1 := by kernel_rfl
theorem c38 : Tryz.prog.cellsOf 38 = 1 := by kernel_rfl
theorem c40 : Tryz.prog.cellsOf 40 = 2 := by kernel_rfl
theorem c61 : Tryz.prog.cellsOf 61 = 1 := by kernel_rfl
theorem c62 : Tryz.prog.cellsOf 62 = 1 := by kernel_rfl
theorem c145 : Tryz.prog.cellsOf 145 = 7 := by kernel_rfl
theorem c67 : Tryz.prog.cellsOf 67 = 3 := by kernel_rfl

/-- The listed variable: what block 0 is. -/
def NowObj (ob : Obj) : Prop := ∃ ty, ob = .cells Go.Xv.Q11.nwArr ty (0, 0)
theorem nowhere_of_laid {W : World} (h : laidMetH Tryz.prog [("bobbin/table.nowhere", Rows.laid_bobbin_table_nowhere)] W) : ∃ ob, W.heap[0]? = some ob ∧ NowObj ob := by
  rw [MakeChecks.laidMetH_plain _ _ _ (by kernel_rfl)] at h
  obtain ⟨ps, ⟨g, t, cs, fuel, p, q, h1, h2, h3, h4, h5, rfl⟩, hnd, hc⟩ := h
  have hg : Tryz.prog.globalNamed "bobbin/table.nowhere" = some 0 := by kernel_rfl
  obtain rfl := Option.some.inj (hg.symm.trans h1)
  have ht : (Tryz.prog.globals[0]?).map (·.type) = some 67 := by kernel_rfl
  obtain rfl := Option.some.inj (ht.symm.trans h2)
  obtain ⟨xs, m, rfl, hx, hlen, hxl, hf⟩ := DataW.trod_struct Tryz.underlying67 h4
  rw [c67] at hlen
  have hsz : cs.size = 3 := by simpa using hlen
  have hmem : MemPlace.cell 0 0 ∈ MemPlace.row ⟨0, 0, none⟩ cs.size ++ p ++ q := by
    rw [hsz]; simp [MemPlace.row]
  obtain ⟨⟨c, ty, hh⟩, _⟩ := hc 0 0 hmem
  simp only [World.var?, hg, Option.bind_some, hh, Option.some.injEq] at h3
  subst h3
  have hxl' : xs.length = 3 := hxl
  obtain ⟨v0, v1, v2, hv⟩ : ∃ v0 v1 v2, c.toList = [v0, v1, v2] := by
    generalize c.toList = l at hlen
    match l, hlen with
    | [a, b, d], _ => exact ⟨a, b, d, rfl⟩
  match xs, hxl' with
  | [y0, y1, y2], _ =>
    rw [hv] at hf
    have f0 : DataW.trod (fun _ => ()) Tryz.prog W 0 (fun _ => true) false m 3 [v0] = some y0 := by simpa [c3] using hf 0 _ rfl
    have f1 : DataW.trod (fun _ => ()) Tryz.prog W 0 (fun _ => true) false m 3 [v1] = some y1 := by simpa [c3] using hf 1 _ rfl
    have f2 : DataW.trod (fun _ => ()) Tryz.prog W 0 (fun _ => true) false m 3 [v2] = some y2 := by simpa [c3] using hf 2 _ rfl
    obtain ⟨n0, e0, g0, _⟩ := DataW.trod_int Tryz.underlying3 f0
    obtain ⟨n1, e1, g1, _⟩ := DataW.trod_int Tryz.underlying3 f1
    obtain ⟨n2, e2, g2, _⟩ := DataW.trod_int Tryz.underlying3 f2
    simp at e0 e1 e2
    subst e0; subst e1; subst e2; subst g0; subst g1; subst g2
    simp [Rows.laid_bobbin_table_nowhere] at hx
    obtain ⟨⟨rfl, rfl, rfl⟩, _⟩ := hx
    refine ⟨_, hh, ty, ?_⟩
    congr 1
    apply Array.ext'
    rw [hv]; rfl

section
variable {H : Type} {enc : TypeId × Value → H} {W : World} {base : Nat} {spare : Nat → Bool} {held : Bool}
set_option maxRecDepth 100000 in
theorem open_geo {v : Value} {d : DataW H} {ps : List MemPlace} {r : Reach} {b0 : Nat} (hval : Value.okWide Tryz.prog W r b0 23 v) (h : DataW.Trod enc Tryz.prog W base spare held 23 v d ps) (K : Know) :
    ∃ a b c d e : Int, R K (.agg [i64 a, i64 b, i64 c, i64 d, i64 e]) v := by
  obtain ⟨fuel, hf0⟩ := h
  obtain ⟨vs, rfl, hsz⟩ := okWide_struct Tryz.underlying23 hval
  have hsz5 : vs.toList.length = 5 := by rw [Array.length_toList]; exact hsz.trans (by kernel_rfl)
  obtain ⟨xs, m, rfl, hx, hlen, hxl, hf⟩ := DataW.trod_struct Tryz.underlying23 hf0
  have e1 : (Value.agg vs).cells.toList = vs.toList := by simp [Value.cells]
  rw [e1] at hf
  have hxl' : xs.length = 5 := hxl
  have hv : vs = vs.toList.toArray := by simp
  rw [hv]
  generalize vs.toList = l at hf hsz5
  match l, hsz5 with
  | [u0, u1, u2, u3, u4], _ =>
    match xs, hxl' with
    | [y0, y1, y2, y3, y4], _ =>
      have f0 : DataW.trod enc Tryz.prog W base spare held m 3 [u0] = some y0 := by simpa [c3] using hf 0 _ rfl
      have f1 : DataW.trod enc Tryz.prog W base spare held m 3 [u1] = some y1 := by simpa [c3] using hf 1 _ rfl
      have f2 : DataW.trod enc Tryz.prog W base spare held m 3 [u2] = some y2 := by simpa [c3] using hf 2 _ rfl
      have f3 : DataW.trod enc Tryz.prog W base spare held m 3 [u3] = some y3 := by simpa [c3] using hf 3 _ rfl
      have f4 : DataW.trod enc Tryz.prog W base spare held m 3 [u4] = some y4 := by simpa [c3] using hf 4 _ rfl
      obtain ⟨n0, e0, _⟩ := DataW.trod_int Tryz.underlying3 f0
      obtain ⟨n1, e1, _⟩ := DataW.trod_int Tryz.underlying3 f1
      obtain ⟨n2, e2, _⟩ := DataW.trod_int Tryz.underlying3 f2
      obtain ⟨n3, e3, _⟩ := DataW.trod_int Tryz.underlying3 f3
      obtain ⟨n4, e4, _⟩ := DataW.trod_int Tryz.underlying3 f4
      simp at e0 e1 e2 e3 e4
      subst e0; subst e1; subst e2; subst e3; subst e4
      have hr : Rs K [i64 n0, i64 n1, i64 n2, i64 n3, i64 n4] [.int .i64 n0, .int .i64 n1, .int .i64 n2, .int .i64 n3, .int .i64 n4] :=
        Rs.cons (.int _ _) (Rs.cons (.int _ _) (Rs.cons (.int _ _) (Rs.cons (.int _ _) (Rs.cons (.int _ _) (Rs.nil _)))))
      exact ⟨n0, n1, n2, n3, n4, .agg _ _ hr.1 hr.2⟩
theorem far0 {ob : Obj} (hob : W.heap[0]? = some ob) (hn : NowObj ob) {b o : Nat} {cs : List Value} (hl : 3 < cs.length) (h : ∀ j, j < cs.length → W.cell? ⟨b, o + j, none⟩ = cs[j]?) : b ≠ 0 := by
  rintro rfl
  obtain ⟨ty, rfl⟩ := hn
  have := h 3 hl
  rw [List.getElem?_eq_getElem hl] at this
  simp [World.cell?, hob, Go.Xv.Q11.nwArr] at this
theorem trod_lenK (hsp : ∀ b, spare b = true) {t e : TypeId} {es n : Nat} {cs : List Value} {x : DataW H × List MemPlace} (K : Know) (ht : Tryz.prog.underlying t = some (.slice e)) (he : Tryz.prog.cellsOf e = es) (hpos : 0 < es)
    (h : DataW.trod enc Tryz.prog W base spare held n t cs = some x) : ∃ v y n, cs = [v] ∧ R K y v ∧ LenOf y n := by
  obtain ⟨v, y, hv, hr, rfl | ⟨b, o, l, c, rfl⟩⟩ := trod_len (K := K) ht he hpos hsp h
  · refine ⟨v, .isl true 1 [], 0, hv, ?_, .inl ⟨rfl, rfl⟩⟩
    cases hr with
    | isln => exact .isln _ _
    | isle => exact .isle _ _ _
    | isl f e xs b o c us hc hf he' hK hR =>
      have hc0 : c = 0 := by simpa using hf rfl
      subst hc0
      exact .isl true 1 [] b o 0 us (by simp) (by simp) (by simp) (by simp) (by simp)
  · exact ⟨v, _, l, hv, hr, .inr ⟨b, o, c, rfl⟩⟩
set_option maxRecDepth 100000 in
theorem trod_changes {ob : Obj} (hob : W.heap[0]? = some ob) (hn : NowObj ob) (hsp : ∀ b, spare b = true) {n : Nat} {cs : List Value} {x : DataW H × List MemPlace} (h : DataW.trod enc Tryz.prog W base spare held n 61 cs = some x) :
    ∃ (v : Value) (f : Bool) (l : List Ch), cs = [v] ∧ R (Kof0 W) (.isl f 7 (l.map Ch.lv)) v ∧ ∀ c ∈ l, c.ok := by
  obtain ⟨v, f, rows, h1, h2, h3⟩ := trod_islK (K := Kof0 W) (es := 7) (fun r => ∃ c : Ch, r = c.lv ∧ c.ok) Tryz.underlying61 c145 (fun n cs x b o hx hl hc => by
    have hb := far0 hob hn (b := b) (o := o) (cs := cs) (by omega) (by rw [hl]; exact hc)
    refine ⟨fun j hj => by rw [← hc j hj]; simp [Kof0, hb], ?_⟩
    obtain ⟨xs, m, rfl, rfl, _, hlen, hf⟩ := DataW.trod_struct Tryz.underlying145 hx
    match cs, hl with
    | [u0, u1, u2, u3, u4, u5, u6], _ =>
      match xs, hlen with
      | [y0, y1, y2, y3, y4], _ =>
        have f0 : DataW.trod enc Tryz.prog W base spare held m 3 [u0] = some y0 := by simpa [c3] using hf 0 _ rfl
        have f1 : DataW.trod enc Tryz.prog W base spare held m 3 [u1] = some y1 := by simpa [c3] using hf 1 _ rfl
        have f2 : DataW.trod enc Tryz.prog W base spare held m 3 [u2] = some y2 := by simpa [c3] using hf 2 _ rfl
        have f3 : DataW.trod enc Tryz.prog W base spare held m 40 [u3, u4] = some y3 := by simpa [c40] using hf 3 _ rfl
        have f4 : DataW.trod enc Tryz.prog W base spare held m 40 [u5, u6] = some y4 := by simpa [c40] using hf 4 _ rfl
        obtain ⟨zs, m', _, _, _, hlen', hf'⟩ := DataW.trod_struct Tryz.underlying40 f3
        obtain ⟨ws, m'', _, _, _, hlen'', hf''⟩ := DataW.trod_struct Tryz.underlying40 f4
        match zs, hlen', ws, hlen'' with
        | [z0, z1], _, [w0, w1], _ =>
          have g0 : DataW.trod enc Tryz.prog W base spare held m' 4 [u3] = some z0 := by simpa [c4] using hf' 0 _ rfl
          have g1 : DataW.trod enc Tryz.prog W base spare held m' 38 [u4] = some z1 := by simpa [c38] using hf' 1 _ rfl
          have k0 : DataW.trod enc Tryz.prog W base spare held m'' 4 [u5] = some w0 := by simpa [c4] using hf'' 0 _ rfl
          have k1 : DataW.trod enc Tryz.prog W base spare held m'' 38 [u6] = some w1 := by simpa [c38] using hf'' 1 _ rfl
          obtain ⟨n0, e0, _⟩ := DataW.trod_int Tryz.underlying3 f0
          obtain ⟨n1, e1, _⟩ := DataW.trod_int Tryz.underlying3 f1
          obtain ⟨n2, e2, _⟩ := DataW.trod_int Tryz.underlying3 f2
          obtain ⟨b3, e3, _⟩ := DataW.trod_bool Tryz.underlying4 g0
          obtain ⟨b5, e5, _⟩ := DataW.trod_bool Tryz.underlying4 k0
          obtain ⟨v4, q4, l4, e4, r4, o4⟩ := trod_lenK hsp (Kof0 W) (es := 1) Tryz.underlying38 (by kernel_rfl) (by decide) g1
          obtain ⟨v6, q6, l6, e6, r6, o6⟩ := trod_lenK hsp (Kof0 W) (es := 1) Tryz.underlying38 (by kernel_rfl) (by decide) k1
          simp at e0 e1 e2 e3 e4 e5 e6
          subst e0; subst e1; subst e2; subst e3; subst e4; subst e5; subst e6
          exact ⟨_, Rs.cons (.int _ _) (Rs.cons (.int _ _) (Rs.cons (.int _ _) (Rs.cons (.bool _) (Rs.cons r4 (Rs.cons (.bool _) (Rs.cons r6 (Rs.nil _))))))), ⟨n0, n1, n2, b3, q4, b5, q6⟩, rfl, ⟨_, o4⟩, ⟨_, o6⟩⟩) (by decide) hsp h
  obtain ⟨l, rfl, hl⟩ := rows_map Ch.lv Ch.ok h3
  exact ⟨v, f, l, h1, h2, hl⟩
set_option maxRecDepth 100000 in
theorem open_tx {ob : Obj} (hob : W.heap[0]? = some ob) (hn : NowObj ob) (hsp : ∀ b, spare b = true) {v : Value} {d : DataW H} {ps : List MemPlace} {r : Reach} {b0 : Nat} (hval : Value.okWide Tryz.prog W r b0 64 v)
    (h : DataW.Trod enc Tryz.prog W base spare held 64 v d ps) : ∃ id st fi la f l sv, R (Kof0 W) (txL id st fi la f l sv) v ∧ (∃ n, LenOf sv n) ∧ ∀ c ∈ l, c.ok := by
  obtain ⟨fuel, hf0⟩ := h
  obtain ⟨vs, rfl, hsz⟩ := okWide_struct Tryz.underlying64 hval
  have hsz6 : vs.toList.length = 6 := by rw [Array.length_toList]; exact hsz.trans (by kernel_rfl)
  obtain ⟨xs, m, rfl, hx, hlen, hxl, hf⟩ := DataW.trod_struct Tryz.underlying64 hf0
  have e1 : (Value.agg vs).cells.toList = vs.toList := by simp [Value.cells]
  rw [e1] at hf
  have hxl' : xs.length = 6 := hxl
  have hv : vs = vs.toList.toArray := by simp
  rw [hv]
  generalize vs.toList = l at hf hsz6
  match l, hsz6 with
  | [u0, u1, u2, u3, u4, u5], _ =>
    match xs, hxl' with
    | [y0, y1, y2, y3, y4, y5], _ =>
      have f0 : DataW.trod enc Tryz.prog W base spare held m 3 [u0] = some y0 := by simpa [c3] using hf 0 _ rfl
      have f1 : DataW.trod enc Tryz.prog W base spare held m 3 [u1] = some y1 := by simpa [c3] using hf 1 _ rfl
      have f2 : DataW.trod enc Tryz.prog W base spare held m 3 [u2] = some y2 := by simpa [c3] using hf 2 _ rfl
      have f3 : DataW.trod enc Tryz.prog W base spare held m 3 [u3] = some y3 := by simpa [c3] using hf 3 _ rfl
      have f4 : DataW.trod enc Tryz.prog W base spare held m 61 [u4] = some y4 := by simpa [c61] using hf 4 _ rfl
      have f5 : DataW.trod enc Tryz.prog W base spare held m 62 [u5] = some y5 := by simpa [c62] using hf 5 _ rfl
      obtain ⟨n0, e0, _⟩ := DataW.trod_int Tryz.underlying3 f0
      obtain ⟨n1, e1, _⟩ := DataW.trod_int Tryz.underlying3 f1
      obtain ⟨n2, e2, _⟩ := DataW.trod_int Tryz.underlying3 f2
      obtain ⟨n3, e3, _⟩ := DataW.trod_int Tryz.underlying3 f3
      obtain ⟨v4, q4, l4, e4, r4, o4⟩ := trod_changes hob hn hsp f4
      obtain ⟨v5, q5, l5, e5, r5, o5⟩ := trod_lenK hsp (Kof0 W) (es := 1) Tryz.underlying62 c3 (by decide) f5
      simp at e0 e1 e2 e3 e4 e5
      subst e0; subst e1; subst e2; subst e3; subst e4; subst e5
      have hr : Rs (Kof0 W) [i64 n0, i64 n1, i64 n2, i64 n3, .isl q4 7 (l4.map Ch.lv), q5] [.int .i64 n0, .int .i64 n1, .int .i64 n2, .int .i64 n3, _, _] :=
        Rs.cons (.int _ _) (Rs.cons (.int _ _) (Rs.cons (.int _ _) (Rs.cons (.int _ _) (Rs.cons r4 (Rs.cons r5 (Rs.nil _))))))
      exact ⟨n0, n1, n2, n3, q4, l4, q5, .agg _ _ hr.1 hr.2, ⟨_, o5⟩, o4⟩
end
end Go.Proofs.YtllfbhmggfldoaaGreatDoor
