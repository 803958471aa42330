/- Lv, part X: the bridge from a contract to a row: a law's arguments are sealed trees, its result is true, nothing that was there turns. Over any program; no condition. -/
import Derived.Test.YtoimfngeoiljeaaLvW
import Derived.ProofKit
namespace Go.Lv
open Go Go.ChangeShapes Go.WideShapes
set_option linter.unusedVariables false
set_option linter.unusedSimpArgs false

/-- All that stands in the first world is known. -/
def Kof (W : World) : Know := fun b o => W.cell? ⟨b, o, none⟩
def noH : OHeap := fun _ => none
theorem noH_dom (b : Nat) : ¬ dom noH nobox id b := by
  rintro (h | ⟨d, h, _⟩)
  · simp [noH] at h
  · simp [nobox] at h
theorem good0 (W : World) : Good (Kof W) id nobox noH W := {
  know b o v h := h
  own b o h := by simp [noH] at h
  apart b o h := absurd h (noH_dom b)
  box d ver cs h := by simp [nobox] at h
  boxH d h := by simp [nobox] at h
  boxne d d' h := by simp [nobox] at h }

section
variable {H : Type} {enc : TypeId × Value → H} {P : Program} {W W' : World} {base : Nat} {spare : Nat → Bool} {held : Bool}

/-- A slice that is read is a sealed tree. -/
theorem trod_isl {t e : TypeId} {es fuel : Nat} {cs : List Value} {x : DataW H × List MemPlace} (RowT : List LV → Prop) (ht : P.underlying t = some (.slice e)) (he : P.cellsOf e = es)
    (hrow : ∀ n cs x, DataW.trod enc P W base spare held n e cs = some x → cs.length = es → ∃ r, Rs (Kof W) r cs ∧ RowT r)
    (hsp : ∀ a l c, cs = [.slice (some a) l c] → a.spot = none) (h : DataW.trod enc P W base spare held fuel t cs = some x) :
    ∃ v f rows, cs = [v] ∧ R (Kof W) (.isl f es rows) v ∧ (∀ r ∈ rows, RowT r) := by
  rcases DataW.trod_slice ht h with ⟨rfl, _⟩ | ⟨a, len, cap, elems, rest, n, _, rfl, _, hb, hl, hm, hlen, hel, _, _⟩
  · exact ⟨_, true, [], rfl, .isln _ _, by simp⟩
  · obtain ⟨b, o, sp⟩ := a
    have : sp = none := hsp _ _ _ rfl
    subst this
    have one : ∀ i, ∃ r cs', i < len → Rs (Kof W) r cs' ∧ RowT r ∧ cs'.length = es ∧ ∀ j, j < es → W.cell? ⟨b, o + i * es + j, none⟩ = cs'[j]? := fun i => by
      by_cases hi : i < len
      · have h1 := hel i hi
        have h2 : i < elems.length := by omega
        rw [List.getElem?_eq_getElem h2, Option.bind_eq_some_iff] at h1
        obtain ⟨cs', h3, h4⟩ := h1
        rw [he] at h3
        obtain ⟨_, h5, h6⟩ := World.cells?_some h3
        obtain ⟨r, h7, h8⟩ := hrow _ _ _ h4 h5
        refine ⟨r, cs', fun _ => ⟨h7, h8, h5, fun j hj => ?_⟩⟩
        have := h6 j hj
        rw [add_plain, add_plain] at this
        exact this
      · exact ⟨[], [], fun h => absurd h hi⟩
    obtain ⟨rf, hrf'⟩ := Classical.axiomOfChoice one
    obtain ⟨cf, hrf⟩ := Classical.axiomOfChoice hrf'
    have key := R.isl (K := Kof W) (decide (cap = len)) es ((List.range len).map rf) b o cap (fun i j => ((cf i)[j]?).getD (.bool false)) (by simpa using hl) (by simp) (by
      intro x hx
      obtain ⟨i, hi, rfl⟩ := List.mem_map.1 hx
      have := hrf i (List.mem_range.1 hi)
      rw [← this.1.1]; exact this.2.2.1) (by
      intro i j x y hx hy
      simp only [List.getElem?_map, Option.map_eq_some_iff] at hx
      obtain ⟨i', hi', rfl⟩ := hx
      obtain ⟨hi1, rfl⟩ : i < len ∧ i = i' := by
        by_cases hc : i < len
        · rw [List.getElem?_range hc] at hi'; simp at hi'; exact ⟨hc, hi'⟩
        · rw [List.getElem?_eq_none (by simpa using hc)] at hi'; simp at hi'
      obtain ⟨g1, g2, g3, g4⟩ := hrf i hi1
      have hj : j < es := by have := (List.getElem?_eq_some_iff.1 hy).1; rw [← g1.1, g3] at this; exact this
      show W.cell? _ = _
      rw [g4 j hj, List.getElem?_eq_getElem (by omega)]; rfl) (by
      intro i j x y hx hy
      simp only [List.getElem?_map, Option.map_eq_some_iff] at hx
      obtain ⟨i', hi', rfl⟩ := hx
      obtain ⟨hi1, rfl⟩ : i < len ∧ i = i' := by
        by_cases hc : i < len
        · rw [List.getElem?_range hc] at hi'; simp at hi'; exact ⟨hc, hi'⟩
        · rw [List.getElem?_eq_none (by simpa using hc)] at hi'; simp at hi'
      obtain ⟨g1, g2, g3, g4⟩ := hrf i hi1
      have hj : j < es := by have := (List.getElem?_eq_some_iff.1 hy).1; rw [← g1.1, g3] at this; exact this
      refine g1.2 j y _ hy ?_
      rw [List.getElem?_eq_getElem (by omega)]; rfl)
    simp only [List.length_map, List.length_range] at key
    exact ⟨_, _, _, rfl, key, fun r hr => by
      obtain ⟨i, hi, rfl⟩ := List.mem_map.1 hr
      exact (hrf i (List.mem_range.1 hi)).2.1⟩

theorem okWide_spot {t e : TypeId} {w : World} {r : Reach} {b0 : Nat} {a : Addr} {len cap : Nat} (ht : P.underlying t = some (.slice e)) (h : Value.okWide P w r b0 t (.slice (some a) len cap)) : a.spot = none := by
  simp only [Value.okWide, ht, Cell.okWide] at h
  simp only [Cell.ok, ht] at h
  exact h.2.2.2.1
/-- A slice that is an argument is a sealed tree. -/
theorem open_isl {t e : TypeId} {es : Nat} {v : Value} {d : DataW H} {ps : List MemPlace} {r : Reach} {b0 : Nat} (RowT : List LV → Prop) (ht : P.underlying t = some (.slice e)) (he : P.cellsOf e = es)
    (hrow : ∀ n cs x, DataW.trod enc P W base spare held n e cs = some x → cs.length = es → ∃ r, Rs (Kof W) r cs ∧ RowT r) (hval : Value.okWide P W r b0 t v) (h : DataW.Trod enc P W base spare held t v d ps) :
    ∃ f rows, R (Kof W) (.isl f es rows) v ∧ (∀ r ∈ rows, RowT r) := by
  obtain ⟨a, len, cap, rfl⟩ := okWide_slice ht hval
  obtain ⟨fuel, hf⟩ := h
  have e1 : (Value.slice a len cap).cells.toList = [.slice a len cap] := by simp [Value.cells]
  rw [e1] at hf
  obtain ⟨v, f, rows, hv, h1, h2⟩ := trod_isl RowT ht he hrow (fun a l c h => by
    simp at h
    obtain ⟨rfl, rfl, rfl⟩ := h
    exact okWide_spot ht hval) hf
  simp at hv
  subst hv
  exact ⟨f, rows, h1, h2⟩
theorem rows_map {α : Type} (g : α → List LV) (Q : α → Prop) : ∀ {rows : List (List LV)}, (∀ r ∈ rows, ∃ x, r = g x ∧ Q x) → ∃ l : List α, rows = l.map g ∧ ∀ x ∈ l, Q x
  | [], _ => ⟨[], rfl, by simp⟩
  | r :: rows, h => by
    obtain ⟨x, rfl, hx⟩ := h r (by simp)
    obtain ⟨l, rfl, hl⟩ := rows_map g Q (rows := rows) (fun r hr => h r (by simp [hr]))
    exact ⟨x :: l, rfl, by simpa [hx] using hl⟩

theorem trodAll_five {t0 t1 t2 t3 t4 : TypeId} {args : Array Value} {ds : List (DataW H)} {ps : List MemPlace} (h : DataW.TrodAll enc P W base spare held [t0, t1, t2, t3, t4] args.toList ds ps) :
    ∃ v0 v1 v2 v3 v4 d0 d1 d2 d3 d4 p0 p1 p2 p3 p4, args = #[v0, v1, v2, v3, v4] ∧ ds = [d0, d1, d2, d3, d4] ∧ ps = p0 ++ p1 ++ p2 ++ p3 ++ p4 ∧ DataW.Trod enc P W base spare held t0 v0 d0 p0 ∧ DataW.Trod enc P W base spare held t1 v1 d1 p1 ∧ DataW.Trod enc P W base spare held t2 v2 d2 p2 ∧ DataW.Trod enc P W base spare held t3 v3 d3 p3 ∧ DataW.Trod enc P W base spare held t4 v4 d4 p4 := by
  obtain ⟨v0, vs0, d0, e0, p0, q0, hargs, rfl, rfl, h0, r0⟩ := trodAll_cons h
  obtain ⟨v1, vs1, d1, e1, p1, q1, rfl, rfl, rfl, h1, r1⟩ := trodAll_cons r0
  obtain ⟨v2, vs2, d2, e2, p2, q2, rfl, rfl, rfl, h2, r2⟩ := trodAll_cons r1
  obtain ⟨v3, vs3, d3, e3, p3, q3, rfl, rfl, rfl, h3, r3⟩ := trodAll_cons r2
  obtain ⟨v4, vs4, d4, e4, p4, q4, rfl, rfl, rfl, h4, r4⟩ := trodAll_cons r3
  obtain ⟨rfl, rfl, rfl⟩ := trodAll_nil r4
  exact ⟨v0, v1, v2, v3, v4, d0, d1, d2, d3, d4, p0, p1, p2, p3, p4, by cases args; simp_all, rfl, by simp, h0, h1, h2, h3, h4⟩

/-- What a law hands back. -/
theorem trodAll_carry (hl : laidOutB P = true) (hb : RowKit.Below W.heap.size W W') {sp : Nat → Bool} (hsp : ∀ b, b < W.heap.size → sp b = true) : ∀ {ts : List TypeId} {vs : List Value} {ds : List (DataW H)} {ps : List MemPlace},
    ts.all (fun t => P.readableRec t && decide (t < P.types.size)) = true → (∀ p ∈ ps, p.block < W.heap.size) →
    DataW.TrodAll enc P W 0 (fun _ => true) true ts vs ds ps → DataW.TrodAll enc P W' 0 sp true ts vs ds ps
  | [], _, _, _, _, _, h => by
    obtain ⟨rfl, rfl, rfl⟩ := ChangeShapes.trodAll_nil h
    rfl
  | t :: ts, _, _, _, hr, hlt, h => by
    obtain ⟨v, vs, d, ds, p, q, rfl, rfl, rfl, h1, h2⟩ := ChangeShapes.trodAll_cons h
    simp only [List.all_cons, Bool.and_eq_true, decide_eq_true_eq] at hr
    refine ⟨p, q, ?_, trodAll_carry hl hb hsp hr.2 (fun x hx => hlt x (by simp [hx])) h2, rfl⟩
    exact WideElems.Trod_stays hl hr.1.1 hr.1.2 h1 (fun x hx => hb.same (hlt x (by simp [hx]))) (fun x hx => hsp _ (hlt x (by simp [hx])))

theorem trodAll_len : ∀ {ts : List TypeId} {vs : List Value} {ds : List (DataW H)} {ps : List MemPlace}, DataW.TrodAll enc P W base spare held ts vs ds ps → ds.length = ts.length ∧ vs.length = ts.length
  | [], _, _, _, h => by obtain ⟨rfl, rfl, rfl⟩ := ChangeShapes.trodAll_nil h; exact ⟨rfl, rfl⟩
  | t :: ts, _, _, _, h => by
    obtain ⟨v, vs, d, ds, p, q, rfl, rfl, rfl, h1, h2⟩ := ChangeShapes.trodAll_cons h
    have := trodAll_len h2
    simp [this.1, this.2]

theorem post_law {f : Func} {s : ChangeSpec} {args : Array Value} {ds gs : List (DataW H)} {before : List MemPlace} {tb : TypeId} {K K' : Know} {D' : Nat → Prop} (hl : laidOutB P = true)
    (hp : f.params.toList.all (fun t => P.readableRec t && decide (t < P.types.size)) = true) (hv : s.vars = []) (hr : f.resultTypes = #[tb]) (htb : P.underlying tb = some .bool)
    (hs : ∀ ds : List (DataW H), ds.length = f.params.toList.length → s.fn H ds = { results := [.lit (.bool true)], args := ds })
    (hW : DataW.Whole enc P f.params.toList s.vars false W args.toList ds gs before) (fr : Fr (dom noH nobox id) W K D' W' K') : s.post enc P f false true false false W args (.bool true) W' := by
  have hbel : RowKit.Below W.heap.size W W' := ⟨fr.os, fr.tape, fr.output, fr.size, fun k hk => fr.old k hk (noH_dom k)⟩
  obtain ⟨p, q, hA, hV, rfl, hfz, hnd⟩ := hW
  have hlt := DataW.Whole.lt ⟨p, q, hA, hV, rfl, hfz, hnd⟩
  have hV' := hV
  rw [hv] at hV'
  obtain ⟨rfl, rfl⟩ := ChangeShapes.trodVars_none hV'
  have hds := trodAll_len hA
  have e1 := hs (ds ++ []) (by simpa using hds.1)
  refine ⟨ds, [], p ++ [], [], p, [], ⟨p, [], hA, hV, rfl, hfz, hnd⟩, ?_, ?_, ?_, ?_, fun h => by cases h⟩
  · rw [e1, hr]
    exact ChangeShapes.trodAll_mk1 ⟨1, by simp [DataW.trod, Value.cells, htb]⟩
  · rw [e1]
    simp only [List.append_nil]
    exact trodAll_carry hl hbel (fun b hb => by simpa using hb) hp (fun x hx => hlt x (by simp [hx])) hA
  · rw [e1, hv]; rfl
  · exact World.keptBut_mono (fun _ f => f.elim) (hbel.frame (fun _ => False))

theorem law_handed {a : Assume} {C : Checked} {os : Os} {f : FuncId} {fn : Func} {s : ChangeSpec} {tb : TypeId}
    (own : ownKnob C.prog.godebug = none) (started : os.Started) (noInit : C.prog.inits.idxOf? f = none) (hfn : C.prog.funcs[f]? = some fn)
    (witness : ∃ (w : World) (tape : Tape) (i : Input), w.os = os ∧ (w.forCall tape i).Shaped C.prog ∧ i.vars = [] ∧ Input.okWide C.prog (w.forCall tape i) .any w.heap.size f i ∧
      s.pre6 enc C.prog fn [] false (w.forCall tape i).memory i.args ∧ a.holds C.prog (lone (Frame.enter C.prog f i.args .normal) [] (w.forCall tape i)))
    (hl : laidOutB C.prog = true) (hp : fn.params.toList.all (fun t => C.prog.readableRec t && decide (t < C.prog.types.size)) = true) (hv : s.vars = []) (hr : fn.resultTypes = #[tb]) (htb : C.prog.underlying tb = some .bool)
    (hs : ∀ ds : List (DataW H), ds.length = fn.params.toList.length → s.fn H ds = { results := [.lit (.bool true)], args := ds })
    (key : ∀ (W : World) (base : Nat) (args : Array Value) (ds : List (DataW H)) (ps : List MemPlace), (∀ (j : Nat) t v, fn.params[j]? = some t → args[j]? = some v → Value.okWide C.prog W .any base t v) →
      DataW.TrodAll enc C.prog W 0 (fun _ => true) true fn.params.toList args.toList ds ps → ∃ xs, Rs (Kof W) xs args.toList ∧ CallL C.prog f xs noH fun x _ => x = .bool true) :
    ReturnsInHanded a C os f .any (s.pre6 enc C.prog fn [] false) (s.post enc C.prog fn false true false false) := by
  refine returnsInHanded_of_change own started noInit hfn witness ?_
  intro W base args ds gs before hval hW _ _
  obtain ⟨p, q, hA, hV, hpq, hfz, hnd⟩ := hW
  obtain ⟨xs, hxs, hc⟩ := key W base args ds p hval hA
  have := hc.2 (Kof W) W args.toList (good0 W) hxs
  rw [Array.toArray_toList] at this
  refine this.mono fun en W' ⟨v, x, K', H', he, _, hR, fr, hx⟩ => ?_
  subst hx
  cases hR
  exact ⟨_, he, post_law hl hp hv hr htb hs ⟨p, q, hA, hV, hpq, hfz, hnd⟩ fr⟩
end
end Go.Lv
