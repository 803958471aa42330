/- Lv, part G: lists of operations, calls, stores, new boxes; the function vc that says what is owed of straight code. Over any program; no condition. -/
import Derived.Test.YtoimfngeoiljeaaLvF
import Derived.TacticsIn
namespace Go.Lv
open Go
set_option linter.unusedVariables false
set_option linter.unusedSimpArgs false

abbrev KPost := Env → Box → OHeap → Prop
def normQ (Q : KPost) : Post := fun x e B H => match x with | .norm => Q e B H | _ => False

/-- An operation that calls nobody. -/
def Step (P : Program) (o : Oper) (e : Env) (B : Box) (H : OHeap) (Q : LV → Box → OHeap → Prop) : Prop :=
  ∀ K jj w (a : Act) N, Good K jj B H w → TE K jj B N e a.tmps →
    ∃ nx v w', (execOp a.eval o).run P w = .ok nx w' ∧ (nx = .value v ∨ (nx = .skip ∧ v = undef)) ∧
      ∃ x B' H' K' jj', Good K' jj' B' H' w' ∧ RE K' jj' B' x v ∧ TE K' jj' B' N e a.tmps ∧ Fr (dom H B jj) w K (dom H' B' jj') w' K' ∧ Q x B' H'

/-- The list of operations that is left of a region. -/
def WPO (P : Program) (ρ : Option Nat) (N : Nat) (ops : Array Oper) (rest : List Oper) (Q : KPost) (e : Env) (B : Box) (H : OHeap) : Prop :=
  rest.all (opDst N) = true → ∀ n m K jj w a, Good K jj B H w → TE K jj B N e a.tmps → Dok m (dom H B jj) w a.defers → wpListIn (Fw ρ) n P ops (Lift N m (dom H B jj) w K (normQ Q)) rest a w

/-- A function that has a body. -/
def Enters (P : Program) (f : FuncId) : Prop := ∃ fn, P.funcs[f]? = some fn ∧ fn.body.isSome = true ∧ (fn.name == "runtime.NumGoroutine") = false

def nobox : Box := fun _ => (0, none)

/-- WHAT A CALL DOES: whatever is sealed, whatever is owned besides. -/
def CallL (P : Program) (f : FuncId) (args : List LV) (H : OHeap) (Q : LV → OHeap → Prop) : Prop :=
  Enters P f ∧ ∀ K w (vs : List Value), Good K id nobox H w → Rs K args vs →
    Calls P f vs.toArray w fun en w' => ∃ v x K' H', en = .returned v ∧ Good K' id nobox H' w' ∧ R K' x v ∧ Fr (dom H nobox id) w K (dom H' nobox id) w' K' ∧ Q x H'

section
variable {P : Program} {ρ : Option Nat} {N : Nat} {ops : Array Oper} {rest : List Oper} {o : Oper} {e : Env} {B : Box} {H : OHeap} {Q Q' : KPost}

theorem Yields.step {x : LV} (h : Yields P o e B H x) {Q : LV → Box → OHeap → Prop} (hq : Q x B H) : Step P o e B H Q := by
  intro K jj w a N g t
  obtain ⟨v, w', K', h1, h2, h3, h4⟩ := h K jj w a N g t
  exact ⟨_, v, w', h1, .inl rfl, x, B, H, K', jj, h2, h3, t.mono h4.le, h4, hq⟩

theorem CallL.mono {f : FuncId} {args : List LV} {Q Q' : LV → OHeap → Prop} (h : CallL P f args H Q) (hq : ∀ x H', Q x H' → Q' x H') : CallL P f args H Q' :=
  ⟨h.1, fun K w vs g r => (h.2 K w vs g r).mono fun en w' ⟨v, x, K', H', h1, h2, h3, h4, h5⟩ => ⟨v, x, K', H', h1, h2, h3, h4, hq x H' h5⟩⟩

theorem WPO.nil (h : Q e B H) : WPO P ρ N ops [] Q e B H := fun _ n m K jj w a g t d => wpListIn_nil (Lift.here (Q := normQ Q) .norm g t d h)

theorem lift_mono_list {n : Nat} {Q₁ Q₂ : Exit → Act → World → Prop} (hq : ∀ ex a w, Q₁ ex a w → Q₂ ex a w) : ∀ (rest : List Oper) (a : Act) (w : World), wpListIn (Fw ρ) n P ops Q₁ rest a w → wpListIn (Fw ρ) n P ops Q₂ rest a w
  | [], a, w, h => hq _ _ _ h
  | o :: rest, a, w, h => by
    simp only [wpListIn] at h ⊢
    have step : ∀ {K₁ K₂ : Act → World → Prop}, (∀ a w, K₁ a w → K₂ a w) → o.wpIn (Fw ρ) n P a w K₁ Q₁ → o.wpIn (Fw ρ) n P a w K₂ Q₂ := by
      intro K₁ K₂ hk hh
      refine ⟨hh.1, ?_⟩
      have hh := hh.2
      generalize (o.semAt (Fw ρ).round a.eval).run P w = r at *
      cases r with
      | ok x w' =>
        cases x <;> simp only [Oper.uponIn] at hh ⊢ <;>
          first
            | exact hk _ _ hh
            | exact ⟨hh.1, CallsIn.mono hh.2 (fun e w'' he => by cases e <;> first | exact hk _ _ he | exact hq _ _ _ he | (obtain ⟨a0, w0, h0⟩ := he; exact ⟨a0, w0, hq _ _ _ h0⟩))⟩
            | exact ⟨hh.1, RowsIn.mono hh.2 (fun _ _ he => hk _ _ he)⟩
            | exact ⟨hh.1, RoundIn.mono hh.2 (fun e w'' he => by cases e <;> first | exact hk _ _ he | exact hq _ _ _ he | (obtain ⟨a0, w0, h0⟩ := he; exact ⟨a0, w0, hq _ _ _ h0⟩))⟩
      | halt x w' => cases x <;> simp only [Oper.uponIn] at hh ⊢ <;> first | exact hq _ _ _ hh | exact hh
    split
    · rename_i hw
      rw [if_pos hw] at h
      exact step (fun a w => lift_mono_list hq rest a w) h
    · rename_i hw
      rw [if_neg hw] at h
      exact ⟨h.1, lift_mono_list hq rest _ _ h.2⟩

theorem semAt_call {ρ' : Operand → Value} (h : ∀ c, o.op ≠ .defer c) : o.semAt (Fw ρ).round ρ' = execOp ρ' o := Oper.semAt_eq _ _ _ h

theorem WPO.step_op (hdf : ∀ c, o.op ≠ .defer c) (hg : o.guard = none) (h : Step P o e B H fun x B' H' => WPO P ρ N ops rest Q (updo e o.dst x) B' H') : WPO P ρ N ops (o :: rest) Q e B H := by
  intro hdst n m K jj w a g t d
  simp only [List.all_cons, Bool.and_eq_true] at hdst
  refine wpListIn_plain hg fun K' hK' => ?_
  obtain ⟨nx, v, w', hrun, hnx, x, B', H', K1, jj', g', r', t', f, hq⟩ := h K jj w a N g t
  refine ⟨fun _ _ => trivial, ?_⟩
  rw [semAt_call hdf, hrun]
  have hput : Oper.uponIn (Fw ρ) n P o a K' (Lift N m (dom H B jj) w K (normQ Q)) (.ok nx w') = K' (a.put o.dst v) w' := by
    rcases hnx with rfl | ⟨rfl, rfl⟩ <;> rfl
  rw [hput]
  refine hK' _ _ ?_
  have hd : ∀ tt, o.dst = some tt → tt < N := fun tt ht => by have := hdst.1; simp [opDst, ht] at this; exact this
  have hdef : (a.put o.dst v).defers = a.defers := by cases o.dst <;> rfl
  refine lift_mono_list (fun _ _ _ hl => hl.fr f) rest _ _ (hq hdst.2 n m K1 jj' w' (a.put o.dst v) g' (t'.put hd r') ?_)
  rw [hdef]; exact d.fr f

/-- The test ahead of an operation. -/
def gv (ops : Array Oper) (e : Env) (j : Nat) : Option Bool :=
  match ops[j]? with
  | some o => match o.dst with
    | some t => match e t with
      | .bool b => some b
      | _ => none
    | none => none
  | none => none

theorem gv_ok {K : Know} {jj : Nat → Nat} {a : Act} (t : TE K jj B N e a.tmps) {j : Nat} {b : Bool} (h : gv ops e j = some b) : yielded ops a.tmps j = some b := by
  unfold gv at h
  split at h
  · rename_i o ho
    split at h
    · rename_i tt htt
      split at h
      · rename_i b' hb
        simp at h; subst h
        have r := t.get tt
        rw [hb] at r
        have hv := r.bool
        unfold yielded
        simp only [ho, Option.bind_some, htt]
        cases hg : a.tmps[tt]? with
        | none => simp [hg, undef] at hv
        | some v => simp [hg] at hv; subst hv; rfl
      · simp at h
    · simp at h
  · simp at h

theorem wanted_iff {K : Know} {jj : Nat → Nat} {a : Act} (t : TE K jj B N e a.tmps) {j : Nat} {want b : Bool} (hg : o.guard = some (j, want)) (h : gv ops e j = some b) :
    Region.wanted o (yielded ops a.tmps) = (b == want) := by
  simp only [Region.wanted, hg, gv_ok t h]
  cases b <;> cases want <;> rfl

theorem WPO.guard {j : Nat} {want b : Bool} (hg : o.guard = some (j, want)) (hb : gv ops e j = some b)
    (hy : b = want → WPO P ρ N ops ({ o with guard := none } :: rest) Q e B H) (hn : b ≠ want → WPO P ρ N ops rest Q (updo e o.dst (.tup [])) B H) : WPO P ρ N ops (o :: rest) Q e B H := by
  intro hdst n m K jj w a g t d
  simp only [wpListIn, wanted_iff t hg hb]
  by_cases hbw : b = want
  · subst hbw
    simp only [beq_self_eq_true, if_true]
    have h1 := hy rfl (by simpa [opDst] using hdst) n m K jj w a g t d
    simp only [wpListIn, Region.wanted] at h1
    exact h1
  · have : (b == want) = false := by simpa using hbw
    simp only [this]
    simp only [List.all_cons, Bool.and_eq_true] at hdst
    refine ⟨fun _ _ => trivial, ?_⟩
    have hd : ∀ tt, o.dst = some tt → tt < N := fun tt ht => by have := hdst.1; simp [opDst, ht] at this; exact this
    refine hn hbw hdst.2 n m K jj w _ g (t.put hd (R.tup [] [] rfl (fun i x v h => by simp at h)).re) ?_
    have hdef : (a.put o.dst undef).defers = a.defers := by cases o.dst <;> rfl
    rw [hdef]; exact d

/-- A region in the order of its text. -/
theorem WP.region {id : Nat} {Q : Post} (h : WPO P ρ N ops ops.toList (Q .norm) e B H) : WP P ρ N (.region id ops false) Q e B H := by
  intro hd n m K jj w a g t d
  refine wpIn_region_list (lift_mono_list (fun ex a w hl => ?_) _ _ _ (h hd n m K jj w a g t d))
  refine hl.mono fun x e B H hx => ?_
  cases x with
  | norm => exact hx
  | exit i => exact hx.elim
  | ret => exact hx.elim

/-! ### Calls -/

theorem Good.nobox {K : Know} {jj : Nat → Nat} {w : World} (g : Good K jj B H w) : Good K id Lv.nobox H w := {
  know := g.know
  own := g.own
  apart b o h := g.apart b o (by rcases h with h | ⟨d, h, _⟩; exact .inl h; simp [Lv.nobox] at h)
  box d ver cs h := by simp [Lv.nobox] at h
  boxH d h := by simp [Lv.nobox] at h
  boxne d d' h := by simp [Lv.nobox] at h }

theorem dom_nobox {b : Nat} : dom H nobox id b ↔ (H b).isSome = true :=
  ⟨fun h => by rcases h with h | ⟨d, h, _⟩; exact h; simp [nobox] at h, .inl⟩

/-- Private boxes come through a call. -/
theorem Good.back {K K' : Know} {jj : Nat → Nat} {w w' : World} {H' : OHeap} (g : Good K jj B H w) (g' : Good K' id Lv.nobox H' w') (f : Fr (dom H Lv.nobox id) w K (dom H' Lv.nobox id) w' K') :
    Good K' jj B H' w' ∧ Fr (dom H B jj) w K (dom H' B jj) w' K' := by
  have hb : ∀ d, (B d).2.isSome = true → jj d < w.heap.size ∧ ¬ dom H Lv.nobox id (jj d) := fun d hd => by
    refine ⟨g.lt (.inr ⟨d, hd, rfl⟩), fun x => ?_⟩
    have := g.boxH d hd
    rw [dom_nobox, this] at x; simp at x
  have hH : ∀ d, (B d).2.isSome = true → H' (jj d) = none := fun d hd => by
    obtain ⟨h1, h2⟩ := hb d hd
    cases hh : H' (jj d) with
    | none => rfl
    | some o => exact ((f.newD (jj d) (.inl (by simp [hh]))).elim h2 (fun x => by omega)).elim
  refine ⟨⟨g'.know, g'.own, fun b o h => ?_, fun d ver cs h => ?_, hH, g.boxne⟩, ⟨f.os, f.tape, f.output, f.size, fun b hlt hnd => f.old b hlt (fun x => hnd (.inl (dom_nobox.1 x))), f.le, fun b o h1 h2 => ?_, fun b h => ?_⟩⟩
  · rcases h with h | ⟨d, hd, rfl⟩
    · exact g'.apart b o (.inl h)
    · obtain ⟨h1, h2⟩ := hb d hd
      have hk := g.apart (jj d) o (.inr ⟨d, hd, rfl⟩)
      cases hk' : K' (jj d) o with
      | none => rfl
      | some v => exact ((f.newK (jj d) o hk (by simp [hk'])).elim h2 (fun x => by omega)).elim
  · have hd : (B d).2.isSome = true := by rw [h]; rfl
    obtain ⟨h1, h2⟩ := hb d hd
    exact ((g.box d ver cs h).same (f.old _ h1 h2)).mono f.le
  · exact (f.newK b o h1 h2).imp (fun x => .inl (dom_nobox.1 x)) id
  · rcases h with h | ⟨d, hd, rfl⟩
    · exact (f.newD b (.inl h)).imp (fun x => .inl (dom_nobox.1 x)) id
    · exact .inl (.inr ⟨d, hd, rfl⟩)

theorem RE.back {K K' : Know} {jj : Nat → Nat} {y : LV} {v : Value} (hle : K.le K') (h : RE K jj B y v) : RE K' jj B y v := h.mono hle

/-- What is called, with all its arguments. -/
def callee (e : Env) (c : Call) : Option (FuncId × List LV) :=
  match c.callee with
  | .value f => match ev e f with
    | .fn g fst caps => some (g, fst ++ evs e c.args ++ caps)
    | _ => none
  | _ => none

theorem run_callee {K : Know} {jj : Nat → Nat} {a : Act} {w : World} (t : TE K jj B N e a.tmps) {c : Call} (ho : o.op = .call c) {g : FuncId} {args : List LV} (h : callee e c = some (g, args))
    (hg : args.all LV.glob = true) (he : Enters P g) : ∃ vs : List Value, Rs K args vs ∧ (execOp a.eval o).run P w = .ok (.enter g vs.toArray) w := by
  unfold callee at h
  split at h
  · rename_i f hf
    split at h
    · rename_i g' fst caps hev
      simp at h; obtain ⟨rfl, rfl⟩ := h
      have r := t.ev f
      rw [hev] at r
      have r' : R K (.fn g' fst caps) (a.eval f) := r
      obtain ⟨us, ws, hv, h1, h2⟩ : ∃ us ws : List Value, a.eval f = .func (.func g') us.toArray ws.toArray ∧ Rs K fst us ∧ Rs K caps ws := by
        generalize a.eval f = u at r'; cases r' with | fn _ _ _ us ws hl hm h h' => exact ⟨us, ws, rfl, ⟨hl, h⟩, ⟨hm, h'⟩⟩
      simp only [List.all_append, Bool.and_eq_true] at hg
      have h3 := t.evs hg.2.1
      obtain ⟨fn, hfn, hbody, hname⟩ := he
      refine ⟨us ++ ((c.args.map a.eval).toList ++ ws), h1.append (h3.append h2), ?_⟩
      have hbn : fn.body.isNone = false := by cases hb : fn.body with | none => simp [hb] at hbody | some _ => rfl
      simp only [execOp, ho, resolve, hf, hv, Deferred.ofValue]
      simp only [pure_bind, invoke, callFunc, Sem.run_bind, run_program, Result.andThen_ok, hfn, hname, hbn, if_false, Bool.false_eq_true, Sem.run_pure]
      congr 2
      apply Array.ext'; simp
    · simp at h
  · simp at h

theorem WPO.call {c : Call} (ho : o.op = .call c) (hg : o.guard = none) {g : FuncId} {args : List LV} (hc : callee e c = some (g, args)) (hgl : args.all LV.glob = true)
    (h : CallL P g args H fun x H' => WPO P ρ N ops rest Q (updo e o.dst x) B H') : WPO P ρ N ops (o :: rest) Q e B H := by
  intro hdst n m K jj w a g0 t d
  simp only [List.all_cons, Bool.and_eq_true] at hdst
  refine wpListIn_plain hg fun K' hK' => ?_
  obtain ⟨vs, hrs, hrun⟩ := run_callee (w := w) t ho hc hgl h.1
  refine ⟨fun _ _ => trivial, ?_⟩
  rw [semAt_call (by simp [ho]), hrun]
  refine ⟨fun h => by simp at h, ?_⟩
  have hcalls := h.2 K w vs g0.nobox hrs
  refine (show CallsIn (Fw ρ) (n - 1) P g vs.toArray w _ from (callsIn_wide (n := n - 1)).2 (hcalls.mono ?_))
  rintro en w' ⟨v, x, K1, H', rfl, g', r', f, hq⟩
  obtain ⟨g'', f'⟩ := g0.back g' f
  refine hK' _ _ ?_
  have hd : ∀ tt, o.dst = some tt → tt < N := fun tt ht => by have := hdst.1; simp [opDst, ht] at this; exact this
  have hdef : (a.put o.dst v).defers = a.defers := by cases o.dst <;> rfl
  refine lift_mono_list (fun _ _ _ hl => hl.fr f') rest _ _ (hq hdst.2 n m K1 jj w' (a.put o.dst v) g'' ((t.mono f.le).put hd r'.re) ?_)
  rw [hdef]; exact d.fr f'

end
end Go.Lv
