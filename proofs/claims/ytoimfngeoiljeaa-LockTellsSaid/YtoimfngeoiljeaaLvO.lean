/- Lv, part O: what an operation hangs on: its operands, the boxes, the memory. Over any program; no condition. -/
import Derived.Test.YtoimfngeoiljeaaLvN
namespace Go.Lv
open Go
set_option linter.unusedVariables false
set_option linter.unusedSimpArgs false

section
variable {P : Program} {T : Tab} {o : Oper} {e e' : Env} {B B' : Box} {H H' : OHeap} {x : LV}

def tmpsOf : Operand → List Tmp | .tmp t => [t] | _ => []
theorem ev_congr {p : Operand} (h : ∀ t ∈ tmpsOf p, e t = e' t) : ev e p = ev e' p := by
  cases p <;> first | rfl | exact h _ (by simp [tmpsOf])

def readsOf (o : Oper) : List Tmp := o.op.operands.toList.flatMap tmpsOf

/-- The two environments are the same to the operation. -/
def SameE (o : Oper) (e e' : Env) : Prop := ∀ p ∈ o.op.operands.toList, ev e p = ev e' p
theorem SameE.of (h : ∀ t ∈ readsOf o, e t = e' t) : SameE o e e' := fun p hp => ev_congr fun t ht => h t (List.mem_flatMap.2 ⟨p, hp, ht⟩)

theorem evs_congr {l : Array Operand} (h : ∀ p ∈ l.toList, ev e p = ev e' p) : evs e l = evs e' l := List.map_congr_left h
theorem evParts_congr {l : Array (Nat × Operand)} (h : ∀ p ∈ l.toList, ev e p.2 = ev e' p.2) : evParts e l = evParts e' l := List.map_congr_left fun p hp => by rw [h p hp]

theorem pf_congr (h : SameE o e e') : pf T o e B H = pf T o e' B H := by
  unfold SameE at h
  unfold pf
  cases ho : o.op <;> rw [ho] at h <;> simp only [Op.operands] at h <;> try rfl
  · rename_i p; simp only []; rw [h p (by simp)]
  · rename_i p; simp only []; rw [h p (by simp)]
  · rename_i c p q; simp only []; rw [h c (by simp), h p (by simp), h q (by simp)]
  · rename_i t ps
    have : evParts e ps = evParts e' ps := evParts_congr fun p hp => h p.2 (by simp; exact ⟨p.1, by simpa using hp⟩)
    simp only [pfBuild, this]
  · rename_i t n ps
    have : evParts e ps = evParts e' ps := evParts_congr fun p hp => h p.2 (by simp; exact ⟨p.1, by simpa using hp⟩)
    simp only [pfBuildSlice, this]
  · rename_i t p; simp only []; rw [h p (by simp)]
  · rename_i p; simp only []; rw [h p (by simp)]
  · rename_i op t p q yt; simp only []; rw [h p (by simp), h q (by simp)]
  · rename_i op t p; simp only []; rw [h p (by simp)]
  · rename_i s d p; simp only []; rw [h p (by simp)]
  · rename_i t p; simp only []; rw [h p (by simp)]
  · rename_i fn fst caps
    have h1 : evs e fst = evs e' fst := evs_congr fun p hp => h p (by simp at hp ⊢; exact .inl hp)
    have h2 : evs e caps = evs e' caps := evs_congr fun p hp => h p (by simp at hp ⊢; exact .inr hp)
    simp only [pfFunc, h1, h2]
  · rename_i t p lo hi mx
    have hp := h p (by simp)
    have hl : lo.map (ev e) = lo.map (ev e') := by cases lo with | none => rfl | some q => simp only [Option.map_some]; rw [h q (by simp)]
    have hh : hi.map (ev e) = hi.map (ev e') := by cases hi with | none => rfl | some q => simp only [Option.map_some]; rw [h q (by simp)]
    have hm : mx.map (ev e) = mx.map (ev e') := by cases mx with | none => rfl | some q => simp only [Option.map_some]; rw [h q (by simp)]
    simp only [hp, hl, hh, hm]
  · rename_i s p f; simp only []; rw [h p (by simp)]
  · rename_i s p f; simp only []; rw [h p (by simp)]
  · rename_i t p q; simp only []; rw [h p (by simp), h q (by simp)]
  · rename_i t p q; simp only []; rw [h p (by simp), h q (by simp)]
  · rename_i p i; simp only []; rw [h p (by simp)]
  · rename_i c
    have ha : ∀ p ∈ c.args.toList, ev e p = ev e' p := fun p hp => h p (by simp only [Call.operands, Array.toList_append, List.mem_append]; exact .inr hp)
    simp only []
    split
    · rename_i p t _ hl _; rw [ha p (by rw [hl]; simp)]
    · rename_i p t _ hl _; rw [ha p (by rw [hl]; simp)]
    · rename_i p q t u _ hl _; rw [ha p (by rw [hl]; simp), ha q (by rw [hl]; simp)]
    · rename_i p q t u _ hl _; rw [ha p (by rw [hl]; simp), ha q (by rw [hl]; simp)]
    · rfl

/-- An operation that looks at no memory. -/
def memless (o : Oper) : Bool := match o.op with
  | .move _ | .assign _ | .pick .. | .binOp .. | .unOp .. | .convert .. | .field .. | .index .. | .slice .. | .extract .. | .makeInterface .. | .makeFunc .. | .build .. | .buildSlice .. => true
  | _ => false
theorem pf_memless (h : memless o = true) : pf T o e B H = pf T o e B' H' := by
  unfold memless at h
  unfold pf
  cases ho : o.op <;> rw [ho] at h <;> first | rfl | simp at h

/-- More boxes. -/
def addB (B : Box) (E : Nat → Option (List LV)) : Box := fun d => match E d with | some z => ((B d).1 + 1, some z) | none => B d
def FreeE (B : Box) (E : Nat → Option (List LV)) : Prop := ∀ d, (E d).isSome = true → (B d).2 = none

theorem addB_none {E : Nat → Option (List LV)} {d : Nat} (h : E d = none) : addB B E d = B d := by simp [addB, h]
theorem addB_here {E : Nat → Option (List LV)} (hf : FreeE B E) {d : Nat} (h : (B d).2.isSome = true) : addB B E d = B d := by
  cases hE : E d with
  | none => exact addB_none hE
  | some z => have := hf d (by rw [hE]; rfl); rw [this] at h; simp at h

theorem cellsAt_mono {E : Nat → Option (List LV)} (hf : FreeE B E) {p : LV} {cs : List LV} (h : cellsAt B H p = some cs) : cellsAt (addB B E) H p = some cs := by
  cases p <;> try exact h
  rename_i d ver off
  simp only [cellsAt] at h ⊢
  split at h
  · rename_i hv
    obtain ⟨l, hl, hcs⟩ := Option.map_eq_some_iff.1 h
    have hh := addB_here hf (d := d) (by rw [hl]; rfl)
    rw [hh, if_pos hv, hl]; simp [hcs]
  · simp at h
theorem ptrAdd_mono {E : Nat → Option (List LV)} (hf : FreeE B E) {p : LV} {n : Nat} {y : LV} (h : ptrAdd B p n = some y) : ptrAdd (addB B E) p n = some y := by
  cases p <;> try exact h
  rename_i d ver off
  simp only [ptrAdd] at h ⊢
  split at h
  · rename_i hv
    rw [addB_here hf hv.2, if_pos hv]; exact h
  · simp at h

theorem pf_mono {E : Nat → Option (List LV)} (hf : FreeE B E) (h : pf T o e B H = some x) : pf T o e (addB B E) H = some x := by
  unfold pf at h ⊢
  cases ho : o.op <;> rw [ho] at h <;> simp only [] at h ⊢ <;> try exact h
  · -- load
    rename_i t p
    rw [pfLoad_eq] at h ⊢
    cases hT : T t with
    | none => simp [hT] at h
    | some ti =>
      simp only [hT, Option.bind_some] at h ⊢
      cases hc : cellsAt B H (ev e p) with
      | none => simp [hc] at h
      | some cs => rw [cellsAt_mono hf hc]; simpa [hc] using h
  · -- nilCheck
    rename_i p
    split at h
    · rename_i hc
      rw [if_pos]
      · exact h
      · simp only [Bool.or_eq_true] at hc ⊢
        rcases hc with hc | hc
        · exact .inl hc
        · refine .inr ?_
          generalize ev e p = q at hc
          cases q <;> try (simp [bpHere] at hc)
          rename_i d ver off
          simp only [bpHere, Bool.and_eq_true, decide_eq_true_eq]
          rw [addB_here hf hc.2]; exact hc
    · simp at h
  · -- fieldAddr
    rename_i s p f
    rw [pfFieldAddr_eq] at h ⊢
    cases hT : T s with
    | none => simp [hT] at h
    | some ti =>
      simp only [hT, Option.bind_some] at h ⊢
      cases hk : ti.kind.fields with
      | none => simp [hk] at h
      | some fs =>
        simp only [hk, Option.bind_some] at h ⊢
        cases hg : fs[f]? with
        | none => simp [hg] at h
        | some y =>
          simp only [hg, Option.bind_some] at h ⊢
          cases hT2 : T y.1 with
          | none => simp [hT2] at h
          | some fi =>
            simp only [hT2, Option.bind_some] at h ⊢
            split at h
            · simp at h
            · rename_i hz; rw [if_neg hz]; exact ptrAdd_mono hf h
  · -- indexAddr
    rename_i t p i
    rw [pfIndexAddr_eq] at h ⊢
    cases hT : T t with
    | none => simp [hT] at h
    | some ti =>
      simp only [hT, Option.bind_some] at h ⊢
      unfold idxK at h ⊢
      split at h
      · split at h
        · exact h
        · rename_i m el hk
          cases hT2 : T el with
          | none => simp [hT2] at h
          | some ei =>
            simp only [hT2, Option.bind_some] at h ⊢
            split at h
            · rename_i hz; rw [if_pos hz]; exact ptrAdd_mono hf h
            · simp at h
        · simp at h
      · simp at h

/-- An operation whose condition is its value. -/
def pureOp (o : Oper) : Bool := match o.op with
  | .move _ | .assign _ | .pick .. | .load .. | .nilCheck _ | .binOp .. | .unOp .. | .convert .. | .fieldAddr .. | .field .. | .indexAddr .. | .index .. | .slice .. | .extract .. | .makeInterface .. | .makeFunc .. | .build .. | .buildSlice .. => true
  | .call c => match c.callee with | .builtin .len | .builtin .cap | .builtin .min | .builtin .max => true | _ => false
  | _ => false
theorem oneS_pure (h : pureOp o = true) (Q : LV → Box → OHeap → Prop) : oneS P T o e B H Q = ob (pf T o e B H) fun x => Q x B H := by
  unfold pureOp at h
  unfold oneS
  cases ho : o.op <;> rw [ho] at h <;> first | (simp at h; done) | (simp only [opS, ho]; done) | skip
  rename_i c
  obtain ⟨cal, args, ats⟩ := c
  simp only [] at h ⊢
  cases cal with
  | builtin b => cases b <;> simp at h <;> simp [opS, ho]
  | _ => simp at h

theorem appL_congr' {n by_ : Nat} {s s' y y' : LV} {k : LV → OHeap → Prop} (h1 : s = s') (h2 : y = y') : appL H n by_ s y k = appL H n by_ s' y' k := by rw [h1, h2]

theorem opS_congr (h : SameE o e e') (Q : LV → Box → OHeap → Prop) : opS T o e B H Q = opS T o e' B H Q := by
  have hpf := pf_congr (T := T) (B := B) (H := H) h
  unfold SameE at h
  unfold opS
  cases ho : o.op <;> rw [ho] at h <;> simp only [Op.operands] at h <;> simp only [] <;> try (rw [hpf])
  · rename_i t p; rw [h p (by simp)]
  · rename_i t p q; rw [h p (by simp), h q (by simp)]
  · rename_i t p q; rw [h p (by simp), h q (by simp)]
  · rename_i c
    have ha : ∀ p ∈ c.args.toList, ev e p = ev e' p := fun p hp => h p (by simp only [Call.operands, Array.toList_append, List.mem_append]; exact .inr hp)
    split
    · rename_i s y t tx _ hl _; rw [ha s (by rw [hl]; simp), ha y (by rw [hl]; simp)]
    · rename_i s y t tx _ hl _; rw [ha s (by rw [hl]; simp), ha y (by rw [hl]; simp)]
    · rename_i s t _ hl _; rw [ha s (by rw [hl]; simp)]
    · rfl

theorem oneS_congr (h : SameE o e e') (Q : LV → Box → OHeap → Prop) : oneS P T o e B H Q = oneS P T o e' B H Q := by
  have hop := opS_congr (T := T) (B := B) (H := H) h Q
  unfold SameE at h
  unfold oneS
  cases ho : o.op <;> simp only [] <;> try (rw [hop])
  rename_i c
  rw [ho] at h
  split
  · rename_i f hc
    have hf : ev e f = ev e' f := h f (by simp [Op.operands, Call.operands, hc])
    have hargs : evs e c.args = evs e' c.args := evs_congr fun p hp => h p (by simp only [Op.operands, Call.operands, Array.toList_append, List.mem_append]; exact .inr hp)
    simp only [callee, hc, hf, hargs]
  · rfl

end
end Go.Lv
