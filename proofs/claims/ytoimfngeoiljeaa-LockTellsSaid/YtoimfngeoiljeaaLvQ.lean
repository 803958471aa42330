/- Lv, part Q: a drawn region by one order. Over any program; no condition. -/
import Derived.Test.YtoimfngeoiljeaaLvP
namespace Go.Lv
open Go
set_option linter.unusedVariables false
set_option linter.unusedSimpArgs false

section
variable {P : Program} {ρ : Option Nat} {N : Nat} {T : Tab} {ops : Array Oper}

/-! ### What is checked of a region and of the order that is chosen -/
def isDep (D : List Nat) (k i : Nat) : Bool := (D.getD i 0).testBit k
def dstIs (ops : Array Oper) (j : Nat) (t : Tmp) : Bool := match ops[j]? with | some o => decide (o.dst = some t) | none => false
def kL (ops : Array Oper) (i : Nat) : Bool := match ops[i]? with | some o => isAlloc o | none => false
def bindsA (e : Edge) : Bool := Region.binds .any e

def okOp (T : Tab) (N : Nat) (ops : Array Oper) (D : List Nat) (pm : Nat) (i : Nat) : Bool := match ops[i]? with
  | none => false
  | some o =>
    o.after.toList.all (fun ed => !bindsA ed || decide (ed.on < i)) &&
    decide (D.getD i 0 = o.after.toList.foldl (fun m ed => if bindsA ed then m ||| (1 <<< ed.on) ||| D.getD ed.on 0 else m) 0) &&
    (if pm.testBit i then pureOp o else if isAlloc o then o.guard.isNone && o.dst.isSome && (match o.op with | .alloc t => (T t).isSome | _ => false) else !isBox o) &&
    (readsG ops o).all (fun t => (List.range ops.size).all fun j => !dstIs ops j t || isDep D j i || (isDep D i j && !pm.testBit j && !kL ops j)) &&
    (match o.dst with | some t => (List.range ops.size).all fun j => j == i || !dstIs ops j t | none => true)

def relP (ops : Array Oper) (D : List Nat) (pm : Nat) (a b : Nat × List Nat) : Bool :=
  !isDep D b.1 a.1 && !(b.1 == a.1) && (isDep D a.1 b.1 || kL ops b.1 || (pm.testBit a.1 && (pm.testBit b.1 || (match ops[a.1]? with | some o => memless o | none => false) || b.2.contains a.1)))

def pwB {α : Type} (r : α → α → Bool) : List α → Bool
  | [] => true
  | a :: l => l.all (r a) && pwB r l

theorem pwB_append {α : Type} {r : α → α → Bool} : ∀ {l l' : List α}, pwB r (l ++ l') = true → (∀ a ∈ l, ∀ b ∈ l', r a b = true) ∧ pwB r l' = true
  | [], l', h => ⟨fun a ha => (by cases ha), h⟩
  | x :: l, l', h => by
    simp only [List.cons_append, pwB, Bool.and_eq_true, List.all_eq_true] at h
    obtain ⟨h1, h2⟩ := pwB_append h.2
    refine ⟨fun a ha b hb => ?_, h2⟩
    rcases List.mem_cons.1 ha with rfl | ha
    · exact h.1 b (List.mem_append_right _ hb)
    · exact h1 a ha b hb

def drawOk (T : Tab) (N : Nat) (ops : Array Oper) (plan : List (Nat × List Nat)) (D : List Nat) (pm : Nat) : Bool :=
  (List.range ops.size).all (fun i => okOp T N ops D pm i && plan.any (fun a => a.1 == i)) && plan.all (fun a => decide (a.1 < ops.size)) && pwB (relP ops D pm) plan

/-! ### The condition of the order -/
def stab (T : Tab) (ops : Array Oper) (e : Env) (B : Box) (H : OHeap) (e' : Env) (B' : Box) (H' : OHeap) : List Nat → Prop
  | [] => True
  | k :: r => (match ops[k]? with | some o => pvG T ops o e' B' H' = pvG T ops o e B H | none => True) ∧ stab T ops e B H e' B' H' r

theorem stab_mem {e e' : Env} {B B' : Box} {H H' : OHeap} {l : List Nat} : stab T ops e B H e' B' H' l → ∀ k ∈ l, ∀ o, ops[k]? = some o → pvG T ops o e' B' H' = pvG T ops o e B H := by
  induction l with
  | nil => intro h k hk; cases hk
  | cons k r ih =>
    intro h k' hk o ho
    rcases List.mem_cons.1 hk with hh | hk
    · subst hh; have := h.1; rw [ho] at this; exact this
    · exact ih h.2 k' hk o ho

def vcD (P : Program) (T : Tab) (ops : Array Oper) : List (Nat × List Nat) → KPost → Env → Box → OHeap → Prop
  | [], Q, e, B, H => Q e B H
  | a :: r, Q, e, B, H => match ops[a.1]? with
    | none => False
    | some o => oneG P T ops o e B H fun x B' H' => stab T ops e B H (updo e o.dst x) B' H' a.2 ∧ vcD P T ops r Q (updo e o.dst x) B' H'

def aslot (o : Oper) : Option Nat := match o.op with | .alloc _ => o.dst | _ => none
def delBs (B : Box) : List Oper → Box
  | [] => B
  | o :: r => match aslot o with
    | some d => delBs (delB B d) r
    | none => delBs B r

theorem delBs_none : ∀ (l : List Oper) (B : Box) (d : Nat), (B d).2 = none → (delBs B l d).2 = none
  | [], B, d, h => h
  | o :: r, B, d, h => by
    unfold delBs
    cases hs : aslot o with
    | some d' =>
      refine delBs_none r _ d ?_
      by_cases hd : d = d' <;> simp [hd]
      simpa [hd] using h
    | none => exact delBs_none r B d h
theorem delBs_alloc (l : List Oper) : ∀ (B : Box) (o : Oper) (d : Nat), o ∈ l → aslot o = some d → (delBs B l d).2 = none := by
  induction l with
  | nil => intro B o d hm; cases hm
  | cons o' r ih =>
    intro B o d hm hs
    unfold delBs
    rcases List.mem_cons.1 hm with h | hm
    · subst h
      rw [hs]
      exact delBs_none r _ d (by simp)
    · cases hs' : aslot o' with
      | some d' => exact ih _ o d hm hs
      | none => exact ih _ o d hm hs

theorem delBs_good {K : Know} {jj : Nat → Nat} {H : OHeap} {w : World} : ∀ (l : List Oper) (B : Box), Good K jj B H w → Good K jj (delBs B l) H w ∧ (∀ x, dom H (delBs B l) jj x → dom H B jj x) ∧ ∀ e tmps, TE K jj B N e tmps → TE K jj (delBs B l) N e tmps
  | [], B, g => ⟨g, fun _ h => h, fun _ _ t => t⟩
  | o :: r, B, g => by
    unfold delBs
    cases hs : aslot o with
    | some d =>
      obtain ⟨h1, h2, h3⟩ := delBs_good r (delB B d) (g.delB d)
      exact ⟨h1, fun x hx => delB_dom g d x (h2 x hx), fun e tmps t => h3 e tmps ⟨t.size, fun i => (t.get i).delB⟩⟩
    | none => exact delBs_good r B g

/-! ### The proof -/
theorem foldl_testBit (D : List Nat) (k : Nat) : ∀ (l : List Edge) (m : Nat), (l.foldl (fun m ed => if bindsA ed then m ||| (1 <<< ed.on) ||| D.getD ed.on 0 else m) m).testBit k = true →
    m.testBit k = true ∨ ∃ ed ∈ l, bindsA ed = true ∧ (ed.on = k ∨ isDep D k ed.on = true)
  | [], m, h => .inl h
  | ed :: l, m, h => by
    simp only [List.foldl_cons] at h
    rcases foldl_testBit D k l _ h with h | ⟨ed', h1, h2, h3⟩
    · split at h
      · rename_i hb
        simp only [Nat.testBit_or, Bool.or_eq_true] at h
        rcases h with (h | h) | h
        · exact .inl h
        · refine .inr ⟨ed, List.mem_cons_self .., hb, .inl ?_⟩
          rw [Nat.shiftLeft_eq, Nat.one_mul, Nat.testBit_two_pow] at h
          simpa using h
        · exact .inr ⟨ed, List.mem_cons_self .., hb, .inr h⟩
      · exact .inl h
    · exact .inr ⟨ed', List.mem_cons_of_mem _ h1, h2, h3⟩

def lst (listed : Array Bool) (i : Nat) : Bool := listed.getD i false

/-- All that the listed ones hang on is listed. -/
def Down (ops : Array Oper) (listed : Array Bool) : Prop := ∀ i o, ops[i]? = some o → lst listed i = true → ∀ ed ∈ o.after.toList, bindsA ed = true → lst listed ed.on = true

structure Chk (T : Tab) (N : Nat) (ops : Array Oper) (D : List Nat) (pm : Nat) (i : Nat) (o : Oper) : Prop where
  low : ∀ ed ∈ o.after.toList, bindsA ed = true → ed.on < i
  dep : ∀ k, isDep D k i = true → ∃ ed ∈ o.after.toList, bindsA ed = true ∧ (ed.on = k ∨ isDep D k ed.on = true)
  pure : pm.testBit i = true → pureOp o = true
  alloc : pm.testBit i = false → isAlloc o = true → o.guard = none ∧ ∃ d t ti, o.dst = some d ∧ o.op = .alloc t ∧ T t = some ti
  box : pm.testBit i = false → isAlloc o = false → isBox o = false
  reads : ∀ t ∈ readsG ops o, ∀ j o', ops[j]? = some o' → o'.dst = some t → isDep D j i = true ∨ (isDep D i j = true ∧ pm.testBit j = false ∧ kL ops j = false)
  dst : ∀ t, o.dst = some t → ∀ j o', ops[j]? = some o' → o'.dst = some t → j = i

theorem lt_of_some {α : Type} {a : Array α} {i : Nat} {x : α} (h : a[i]? = some x) : i < a.size := (Array.getElem?_eq_some_iff.1 h).1

theorem Chk.of {D : List Nat} {pm i : Nat} {o : Oper} (hi : ops[i]? = some o) (h : okOp T N ops D pm i = true) : Chk T N ops D pm i o := by
  unfold okOp at h
  rw [hi] at h
  simp only [Bool.and_eq_true, List.all_eq_true, decide_eq_true_eq, Bool.or_eq_true, Bool.not_eq_true', List.mem_range] at h
  obtain ⟨⟨⟨⟨h1, h2⟩, h3⟩, h4⟩, h5⟩ := h
  refine ⟨fun ed he hb => ?_, fun k hk => ?_, fun hp => ?_, fun hp ha => ?_, fun hp ha => ?_, fun t ht j o' hj hd => ?_, fun t ht j o' hj hd => ?_⟩
  · rcases h1 ed he with h | h
    · rw [hb] at h; simp at h
    · exact h
  · unfold isDep at hk
    rw [h2] at hk
    rcases foldl_testBit D k _ _ hk with h | h
    · simp at h
    · exact h
  · rw [if_pos hp] at h3; exact h3
  · rw [if_neg (by simp [hp]), if_pos ha] at h3
    simp only [Bool.and_eq_true, Option.isNone_iff_eq_none] at h3
    obtain ⟨d, hd⟩ := Option.isSome_iff_exists.1 h3.1.2
    have h6 := h3.2
    split at h6
    · rename_i t ho
      obtain ⟨ti, hti⟩ := Option.isSome_iff_exists.1 h6
      exact ⟨h3.1.1, d, t, ti, hd, ho, hti⟩
    · simp at h6
  · rw [if_neg (by simp [hp]), if_neg (by simp [ha])] at h3
    simpa using h3
  · have := h4 t ht j (lt_of_some hj)
    simp only [dstIs, hj, hd] at this
    simpa [and_assoc] using this
  · rw [ht] at h5
    simp only [List.all_eq_true, List.mem_range, Bool.or_eq_true, beq_iff_eq, Bool.not_eq_true'] at h5
    rcases h5 j (lt_of_some hj) with h | h
    · exact h
    · simp [dstIs, hj, hd] at h

theorem down_dep {D : List Nat} {pm : Nat} {listed : Array Bool} (hok : ∀ i o, ops[i]? = some o → Chk T N ops D pm i o) (hd : Down ops listed) : ∀ (i : Nat) (o : Oper), ops[i]? = some o → (∀ ed ∈ o.after.toList, bindsA ed = true → lst listed ed.on = true) →
    ∀ k, isDep D k i = true → lst listed k = true := by
  intro i
  induction i using Nat.strongRecOn with
  | ind i ih =>
    intro o hi hr k hk
    obtain ⟨ed, he, hb, h⟩ := (hok i o hi).dep k hk
    have hl := hr ed he hb
    rcases h with rfl | h
    · exact hl
    · have hlt := (hok i o hi).low ed he hb
      have hsz : ed.on < ops.size := Nat.lt_trans hlt (lt_of_some hi)
      have ho' : ops[ed.on]? = some ops[ed.on] := Array.getElem?_eq_getElem hsz
      exact ih ed.on hlt _ ho' (fun ed' he' hb' => hd _ _ ho' hl ed' he' hb') k h

end
end Go.Lv
