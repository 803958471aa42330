/- Lv, part H: a function's contract from its body; new boxes, stores, rows of the call's own, append, copy, clear. Over any program; no condition. -/
import Derived.Test.YtoimfngeoiljeaaLvG
import Derived.RangeFuncLeaves
namespace Go.Lv
open Go
set_option linter.unusedVariables false
set_option linter.unusedSimpArgs false

/-! ### A function from its body -/

/-- Less may be said of a result, and what was owned may be sealed. -/
def Wk (r : LV) (H : OHeap) (r' : LV) (H' : OHeap) : Prop :=
  ∀ K w v, Good K id nobox H w → R K r v → ∃ K', Good K' id nobox H' w ∧ R K' r' v ∧ Fr (dom H nobox id) w K (dom H' nobox id) w K'

def Ends (Q : LV → OHeap → Prop) (r : LV) (H : OHeap) : Prop := ∃ r' H', Wk r H r' H' ∧ Q r' H'

theorem Wk.refl (r : LV) (H : OHeap) : Wk r H r H := fun K w v g h => ⟨K, g, h, Fr.refl _ _ _⟩
theorem Wk.trans {r r' r'' : LV} {H H' H'' : OHeap} (h : Wk r H r' H') (h' : Wk r' H' r'' H'') : Wk r H r'' H'' := fun K w v g hr => by
  obtain ⟨K', g', hr', f⟩ := h K w v g hr
  obtain ⟨K'', g'', hr'', f'⟩ := h' K' w v g' hr'
  exact ⟨K'', g'', hr'', f.trans f'⟩
theorem Ends.of {Q : LV → OHeap → Prop} {r : LV} {H : OHeap} (h : Q r H) : Ends Q r H := ⟨r, H, Wk.refl r H, h⟩

/-- One result variable. -/
def resOne (T : Tab) (e : Env) (B : Box) (H : OHeap) : ResultVar → Option LV
  | .tmp t => if (e t).glob = true then some (e t) else none
  | .cell a t => pfLoad T B H t (e a)

def resL (T : Tab) (rs : List ResultVar) (e : Env) (B : Box) (H : OHeap) : Option LV :=
  match rs with
  | [r] => resOne T e B H r
  | rs => (rs.mapM (resOne T e B H)).map .tup

def RetQ (T : Tab) (fn : Func) (Q : LV → OHeap → Prop) : Post := fun x e B H =>
  match x with
  | .exit _ => False
  | _ => ∃ r, resL T fn.results.toList e B H = some r ∧ Ends Q r H

/-- One result variable, read. -/
def resSem (tmps : Array Value) : ResultVar → Sem Value
  | .tmp t => pure (tmps.getD t undef)
  | .cell a t => do loadVar t (← asAddr (tmps.getD a undef))
theorem results_eq (fn : Func) (tmps : Array Value) : results fn tmps = (do
    let vs ← fn.results.mapM (resSem tmps)
    pure (if h : vs.size = 1 then vs[0] else .tuple vs)) := by
  unfold results
  rfl

section
variable {P : Program} {ρ : Option Nat} {N m : Nat} {o : Oper} {e : Env} {B : Box} {H : OHeap}

theorem run_resOne {T : Tab} (hT : TOK P T) {K : Know} {jj : Nat → Nat} {w : World} (g : Good K jj B H w) {tmps : Array Value} (t : TE K jj B N e tmps) {r : ResultVar} {x : LV} (h : resOne T e B H r = some x) :
    ∃ v, (resSem tmps r).run P w = .ok v w ∧ R K x v := by
  cases r with
  | tmp i =>
    simp only [resOne] at h
    split at h
    · rename_i hg
      simp at h; subst h
      exact ⟨_, rfl, (t.get i).r (LV.glob_bp hg)⟩
    · simp at h
  | cell a ty =>
    simp only [resOne, pfLoad] at h
    split at h
    · rename_i ti cs hti hcs
      obtain ⟨b, off, hv, hc⟩ := cellsAt_ok g (t.get a) hcs
      obtain ⟨v, h1, h2⟩ := run_loadVar (hT ty ti hti) hc h
      refine ⟨v, ?_, h2⟩
      simp only [resSem, hv, asAddr, pure_bind]
      exact h1
    · simp at h

theorem run_resL {T : Tab} (hT : TOK P T) {K : Know} {jj : Nat → Nat} {w : World} (g : Good K jj B H w) {tmps : Array Value} (t : TE K jj B N e tmps) {fn : Func} {x : LV}
    (h : resL T fn.results.toList e B H = some x) : ∃ v, (results fn tmps).run P w = .ok v w ∧ R K x v := by
  have key : ∀ (l : List ResultVar) (xs : List LV), l.mapM (resOne T e B H) = some xs → ∃ vs, Rs K xs vs ∧
      (l.mapM (resSem tmps)).run P w = .ok vs w := by
    intro l
    induction l with
    | nil => intro xs h; simp at h; subst h; exact ⟨[], Rs.nil K, by simp⟩
    | cons r l ih =>
      intro xs h
      simp only [List.mapM_cons] at h
      cases h1 : resOne T e B H r with
      | none => simp [h1] at h
      | some y =>
        cases h2 : l.mapM (resOne T e B H) with
        | none => simp [h1, h2] at h
        | some ys =>
          simp [h1, h2] at h; subst h
          obtain ⟨v, hv, hrv⟩ := run_resOne hT g t h1
          obtain ⟨vs, hrs, hvs⟩ := ih ys h2
          refine ⟨v :: vs, hrs.cons hrv, ?_⟩
          simp only [List.mapM_cons, Sem.run_bind, hv, Result.andThen_ok, hvs, Sem.run_pure]
  unfold resL at h
  rw [results_eq, Array.mapM_eq_mapM_toList]
  split at h
  · rename_i r hr
    obtain ⟨v, hv, hrv⟩ := run_resOne hT g t h
    refine ⟨v, ?_, hrv⟩
    rw [hr]
    simp [hv]
  · rename_i hne
    obtain ⟨xs, hxs, rfl⟩ := Option.map_eq_some_iff.1 h
    obtain ⟨vs, hrs, hvs⟩ := key _ xs hxs
    refine ⟨.tuple vs.toArray, ?_, .tup xs vs hrs.1 hrs.2⟩
    have hl : vs.length = fn.results.toList.length := by
      rw [hrs.1]
      clear hne h hvs hrs
      generalize fn.results.toList = l at hxs
      induction l generalizing xs with
      | nil => simp at hxs; simp [← hxs]
      | cons r l ih =>
        simp only [List.mapM_cons] at hxs
        cases h1 : resOne T e B H r with
        | none => simp [h1] at hxs
        | some y =>
          cases h2 : l.mapM (resOne T e B H) with
          | none => simp [h1, h2] at hxs
          | some ys => simp [h1, h2] at hxs; subst hxs; simp [ih ys h2]
    have hsz : ¬ vs.toArray.size = 1 := by
      intro h1
      rw [List.size_toArray, hl] at h1
      obtain ⟨r, hr⟩ := List.length_eq_one_iff.1 h1
      exact hne r hr
    simp only [Sem.run_bind, Sem.run_map, hvs, Result.andThen_ok, Sem.run_pure]
    rw [dif_neg hsz]

def argEnv (args : List LV) : Env := fun i => args.getD i .any

/-- Setting an unowned block that holds no cells. -/
def setOb (w : World) (b : Nat) (ob : Obj) : World := { w with heap := w.heap.setIfInBounds b ob }
theorem setOb_other {w : World} {b b' : Nat} {ob : Obj} (h : b' ≠ b) : (setOb w b ob).heap[b']? = w.heap[b']? := by
  simp only [setOb]; rw [Array.getElem?_setIfInBounds_ne (fun x => h x.symm)]
theorem setOb_same {w : World} {b : Nat} {ob : Obj} (h : b < w.heap.size) : (setOb w b ob).heap[b]? = some ob := by
  simp [setOb, h]
theorem setOb_size {w : World} {b : Nat} {ob : Obj} : (setOb w b ob).heap.size = w.heap.size := by simp [setOb]

theorem Good.setOb {K : Know} {jj : Nat → Nat} {w : World} (g : Good K jj B H w) {b : Nat} (hd : ¬ dom H B jj b) {ob : Obj} (hk : ∀ o, K b o = none) : Good K jj B H (Lv.setOb w b ob) := {
  know b' o v h := by
    have hne : b' ≠ b := fun x => by subst x; rw [hk] at h; simp at h
    rw [World.cell?_of_block (w := w) (setOb_other hne)]; exact g.know b' o v h
  own b' o h := (g.own b' o h).same (setOb_other (fun x => hd (by subst x; exact .inl (by simp [h]))))
  apart := g.apart
  box d ver cs h := (g.box d ver cs h).same (setOb_other (fun x => hd (.inr ⟨d, by rw [h]; rfl, x⟩)))
  boxH := g.boxH
  boxne := g.boxne }

theorem noK_of_deferred {K : Know} {jj : Nat → Nat} {w : World} (g : Good K jj B H w) {b : Nat} {x : Option (List Deferred)} (h : w.heap[b]? = some (.deferred x)) (o : Nat) : K b o = none := by
  cases hk : K b o with
  | none => rfl
  | some v => have := g.know b o v hk; simp [World.cell?, h] at this

theorem leaves_marks {T : Tab} (hT : TOK P T) {fn : Func} {n : Nat} {r : LV} {R0 : Ending → World → Prop} {tmps : Array Value} :
    ∀ (bs : List Nat) (w : World) (K : Know) (jj : Nat → Nat), bs.Nodup → (∀ b ∈ bs, ¬ dom H B jj b ∧ w.heap[b]? = some (.deferred (some []))) → Good K jj B H w → TE K jj B N e tmps → resL T fn.results.toList e B H = some r →
      (∀ w' v, Good K jj B H w' → R K r v → (∀ b, b ∉ bs → w'.heap[b]? = w.heap[b]?) → w'.heap.size = w.heap.size → w'.os = w.os → w'.tape = w.tape → w'.output = w.output → R0 (.returned v) w') →
      LeavesInM (Fw none) n P fn tmps R0 (bs.map dmark) .returning w
  | [], w, K, jj, _, _, g, t, hr, h => by
    obtain ⟨v, h1, h2⟩ := run_resL hT g t hr
    exact ⟨v, h1, h w v g h2 (fun _ _ => rfl) rfl rfl rfl rfl⟩
  | b :: bs, w, K, jj, hnd, hb, g, t, hr, h => by
    obtain ⟨h1, h2⟩ := hb b (List.mem_cons_self ..)
    have hlt := (Array.getElem?_eq_some_iff.1 h2).1
    simp only [List.nodup_cons] at hnd
    refine ⟨by simp, .inl ⟨b, setOb w b (.deferred none), rfl, ?_, ?_⟩⟩
    · simp [Instr.takeDeferred, getObj, setObj, Sem.run, h2, setOb]
    · have g' := g.setOb h1 (ob := .deferred none) (noK_of_deferred g h2)
      refine leaves_marks hT bs (setOb w b (.deferred none)) K jj hnd.2 (fun b' hb' => ?_) g' t hr ?_
      · have hne : b' ≠ b := fun x => hnd.1 (x ▸ hb')
        rw [setOb_other hne]
        exact hb b' (List.mem_cons_of_mem _ hb')
      · intro w' v gw hv hold hsz h1 h2 h3
        refine h w' v gw hv (fun b' hb' => ?_) (by rw [hsz, setOb_size]) h1 h2 h3
        simp only [List.mem_cons, not_or] at hb'
        rw [hold b' hb'.2, setOb_other hb'.1]

/-- THE CONTRACT FROM THE BODY. -/
theorem CallL.of_WP {T : Tab} (hT : TOK P T) {f : FuncId} {fn : Func} {c : Code} {args : List LV} {Q : LV → OHeap → Prop} (hf : P.funcs[f]? = some fn) (hb : fn.body = some c) (hname : (fn.name == "runtime.NumGoroutine") = false)
    (hdst : dstOk fn.ntmps c = true) (hargs : args.length ≤ fn.ntmps) (h : WP P none fn.ntmps c (RetQ T fn Q) (argEnv args) nobox H) : CallL P f args H Q := by
  refine ⟨⟨fn, hf, by simp [hb], hname⟩, fun K w vs g hrs => ?_⟩
  have hvl : vs.length = args.length := hrs.1
  have te : TE K id nobox fn.ntmps (argEnv args) (vs.toArray ++ Array.replicate (fn.ntmps - vs.toArray.size) undef) := by
    refine ⟨by simp; omega, fun i => ?_⟩
    by_cases hi : i < vs.length
    · have h1 : args[i]? = some args[i] := List.getElem?_eq_getElem (by omega)
      have h2 : vs[i]? = some vs[i] := List.getElem?_eq_getElem hi
      have e1 : argEnv args i = args[i] := by simp [argEnv, List.getD_eq_getElem?_getD, h1]
      have e2 : (vs.toArray ++ Array.replicate (fn.ntmps - vs.toArray.size) undef).getD i undef = vs[i] := by
        rw [Array.getD_eq_getD_getElem?, Array.getElem?_append_left (by simpa using hi)]; simp [hi]
      rw [e1, e2]
      exact (hrs.2 i _ _ h1 h2).re
    · have e1 : argEnv args i = .any := by
        simp [argEnv, List.getD_eq_getElem?_getD, List.getElem?_eq_none (by omega : args.length ≤ i)]
      rw [e1]; exact (R.any _).re
  rw [← callsIn_wide (n := 0)]
  refine callsIn_of_wp_marks (F := Fence.wide) hf hb trivial ?_
  have hw := h hdst 0 w.heap.size K id w { tmps := vs.toArray ++ Array.replicate (fn.ntmps - vs.toArray.size) undef, defers := [] } g te (Dok.nil _ _ _)
  rw [← Fw_none]
  refine wpIn_mono hw ?_
  rintro ex a' w' ⟨x, K', jj', e', B', H', rfl, g', t', ⟨bs, hds, hnd, hbs⟩, fr, hq⟩
  have fin : (∃ r, resL T fn.results.toList e' B' H' = some r ∧ Ends Q r H') → LeavesInM (Fw none) 0 P fn a'.tmps (fun en w'' => ∃ v x K'' H'', en = .returned v ∧ Good K'' id nobox H'' w'' ∧ R K'' x v ∧ Fr (dom H nobox id) w K (dom H'' nobox id) w'' K'' ∧ Q x H'') a'.defers .returning w' := by
    rintro ⟨r, hr, r', H'', hwk, hQ⟩
    rw [hds]
    refine leaves_marks hT bs w' K' jj' hnd (fun b hb => (hbs b hb).2) g' t' hr ?_
    intro w'' v gw hv hold hsz h1 h2 h3
    obtain ⟨K'', g'', hv'', f''⟩ := hwk K' w'' v gw.nobox hv
    refine ⟨v, r', K'', H'', rfl, g'', hv'', ?_, hQ⟩
    have f1 : Fr (dom H nobox id) w K (dom H' nobox id) w'' K' := by
      refine ⟨h1.trans fr.os, h2.trans fr.tape, h3.trans fr.output, by rw [hsz]; exact fr.size, fun b hlt hd => ?_, fr.le, fr.newK, fun b hb => fr.newD b (.inl (dom_nobox.1 hb))⟩
      by_cases hbm : b ∈ bs
      · exact absurd (hbs b hbm).1 (by omega)
      · rw [hold b hbm, fr.old b hlt hd]
    exact f1.trans f''
  cases x with
  | norm => exact fin hq
  | exit i => exact hq.elim
  | ret => exact fin hq

end
end Go.Lv
