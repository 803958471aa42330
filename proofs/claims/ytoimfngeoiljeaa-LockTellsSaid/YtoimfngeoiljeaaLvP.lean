/- Lv, part P: regions whose order is drawn: the condition of one order, and what makes it every order's. Over any program; no condition. -/
import Derived.Test.YtoimfngeoiljeaaLvO
namespace Go.Lv
open Go
set_option linter.unusedVariables false
set_option linter.unusedSimpArgs false

section
variable {P : Program} {ρ : Option Nat} {N : Nat} {T : Tab} {o : Oper} {ops : Array Oper} {e e' : Env} {B B' : Box} {H H' : OHeap} {x : LV} {E : Nat → Option (List LV)} {F : Nat → Prop}

def isAlloc (o : Oper) : Bool := match o.op with | .alloc _ => true | _ => false
def isBox (o : Oper) : Bool := match o.op with | .alloc _ | .box .. => true | _ => false

/-- With more boxes, as with fewer; where there was none (F), there is none. -/
structure FF (B : Box) (E : Nat → Option (List LV)) (F : Nat → Prop) : Prop where
  sub : ∀ d, (E d).isSome = true → F d
  free : ∀ d, F d → (B d).2 = none
theorem FF.free' (h : FF B E F) : FreeE B E := fun d hd => h.free d (h.sub d hd)
def More (B : Box) (E : Nat → Option (List LV)) (F : Nat → Prop) (Q : LV → Box → OHeap → Prop) : LV → Box → OHeap → Prop := fun x B1 H1 => ∃ B0, B1 = addB B0 E ∧ (∀ d, F d → B0 d = B d) ∧ Q x B0 H1
theorem More.here {Q : LV → Box → OHeap → Prop} (h : Q x B H) : More B E F Q x (addB B E) H := ⟨B, rfl, fun _ _ => rfl, h⟩

theorem FF.setB (hf : FF B E F) {d : Nat} {cs : List LV} (h : (B d).2.isSome = true) : (∀ d', F d' → Lv.setB B d cs d' = B d') ∧ Lv.setB (addB B E) d cs = addB (Lv.setB B d cs) E := by
  have hE : E d = none := by
    cases hE : E d with
    | none => rfl
    | some z => have := hf.free' d (by rw [hE]; rfl); rw [this] at h; simp at h
  refine ⟨fun d' hd' => ?_, ?_⟩
  · have hne : d' ≠ d := fun x => by subst x; rw [hf.free d' hd'] at h; simp at h
    simp [hne]
  · funext i
    by_cases hi : i = d
    · subst hi; simp [addB, hE]
    · simp only [setB_apply, hi, if_false, addB]

theorem opS_add (hf : FF B E F) (hb : isBox o = false) {Q : LV → Box → OHeap → Prop} (h : opS T o e B H Q) : opS T o e (addB B E) H (More B E F Q) := by
  have hpf : (ob (pf T o e B H) fun x => Q x B H) → ob (pf T o e (addB B E) H) fun x => More B E F Q x (addB B E) H := fun h => by
    obtain ⟨x, hx, hq⟩ := ob_elim h
    rw [pf_mono hf.free' hx]; exact More.here hq
  unfold isBox at hb
  unfold opS at h ⊢
  cases ho : o.op <;> rw [ho] at h hb <;> simp only [] at h hb ⊢ <;> first | (simp at hb; done) | exact hpf h | skip
  · rename_i t p y
    split at h
    · rename_i ti ns hti hns
      refine ⟨h.1, ?_⟩
      have h := h.2
      unfold stL at h ⊢
      split at h
      · rename_i d ver off hev
        obtain ⟨hv, h⟩ := h
        split at h
        · rename_i cs hcs
          have hh := addB_here hf.free' (d := d) (by rw [hcs]; rfl)
          simp only [hh, hcs]
          obtain ⟨h1, h2⟩ := hf.setB (d := d) (cs := seg cs off ns) (by rw [hcs]; rfl)
          exact ⟨hv, h.1, _, h2, h1, h.2⟩
        · exact h.elim
      · split at h
        · rename_i hH
          simp only [hH]
          exact ⟨h.1, More.here h.2⟩
        · exact h.elim
      · exact h.elim
    · exact h.elim
  · rename_i t l c
    split at h
    · rename_i ti hti
      split at h
      · rename_i el hk
        split at h
        · rename_i h1 h2 h3
          exact ⟨h.1, fun b hb' => More.here (h.2 b hb')⟩
        · exact h.elim
      · exact h.elim
    · exact h.elim
  · rename_i c
    split at h
    · split at h
      · split at h
        · split at h
          · exact ⟨h.1, appL_mono (fun r H1 hq => More.here hq) h.2⟩
          · exact h.elim
        · exact h.elim
      · exact h.elim
    · split at h
      · split at h
        · split at h
          · refine ⟨h.1, ?_⟩
            have h := h.2
            split at h
            · exact ⟨h.1, More.here h.2⟩
            · exact h.elim
          · exact h.elim
        · exact h.elim
      · exact h.elim
    · split at h
      · split at h
        · split at h
          · split at h
            · exact ⟨h.1, More.here h.2⟩
            · exact h.elim
          · exact h.elim
        · exact h.elim
      · exact h.elim
    · exact hpf h

theorem oneS_add (hf : FF B E F) (hb : isBox o = false) {Q : LV → Box → OHeap → Prop} (h : oneS P T o e B H Q) : oneS P T o e (addB B E) H (More B E F Q) := by
  unfold oneS at h ⊢
  split at h
  · split at h
    · split at h
      · exact ⟨h.1, h.2.mono fun x H' hq => More.here hq⟩
      · exact h.elim
    · exact opS_add hf hb h
  · exact h.elim
  · exact opS_add hf hb h

theorem opS_mono {Q Q' : LV → Box → OHeap → Prop} (hq : ∀ x B H, Q x B H → Q' x B H) (h : opS T o e B H Q) : opS T o e B H Q' := by
  unfold opS at h ⊢
  split at h
  · split at h
    · exact hq _ _ _ h
    · exact h
  · split at h
    · exact hq _ _ _ h
    · exact h
  · split at h
    · refine ⟨h.1, ?_⟩
      have h := h.2
      unfold stL at h ⊢
      split at h
      · refine ⟨h.1, ?_⟩
        have h := h.2
        split at h
        · exact ⟨h.1, hq _ _ _ h.2⟩
        · exact h
      · split at h
        · exact ⟨h.1, hq _ _ _ h.2⟩
        · exact h
      · exact h
    · exact h
  · split at h
    · split at h
      · split at h
        · exact ⟨h.1, fun b hb => hq _ _ _ (h.2 b hb)⟩
        · exact h
      · exact h
    · exact h
  · split at h
    · split at h
      · split at h
        · split at h
          · exact ⟨h.1, appL_mono (fun r H1 h1 => hq _ _ _ h1) h.2⟩
          · exact h
        · exact h
      · exact h
    · split at h
      · split at h
        · split at h
          · refine ⟨h.1, ?_⟩
            have h := h.2
            split at h
            · exact ⟨h.1, hq _ _ _ h.2⟩
            · exact h
          · exact h
        · exact h
      · exact h
    · split at h
      · split at h
        · split at h
          · split at h
            · exact ⟨h.1, hq _ _ _ h.2⟩
            · exact h
          · exact h
        · exact h
      · exact h
    · exact ob_mono h fun x hx => hq _ _ _ hx
  · exact ob_mono h fun x hx => hq _ _ _ hx

theorem oneS_mono {Q Q' : LV → Box → OHeap → Prop} (hq : ∀ x B H, Q x B H → Q' x B H) (h : oneS P T o e B H Q) : oneS P T o e B H Q' := by
  unfold oneS at h ⊢
  split at h
  · split at h
    · split at h
      · exact ⟨h.1, h.2.mono fun x H' h1 => hq _ _ _ h1⟩
      · exact h
    · exact opS_mono hq h
  · exact h
  · exact opS_mono hq h

/-! ### With the guard -/
def gsl (ops : Array Oper) (j : Nat) : Option Tmp := (ops[j]?).bind (·.dst)

/-- Is it wanted? none: one cannot tell. -/
def gWant (ops : Array Oper) (o : Oper) (e : Env) : Option Bool := match o.guard with
  | none => some true
  | some (j, want) => match gsl ops j with
    | some t => match e t with
      | .bool b => some (b == want)
      | .tup [] => some false
      | _ => none
    | none => none

def pvG (T : Tab) (ops : Array Oper) (o : Oper) (e : Env) (B : Box) (H : OHeap) : Option LV := match gWant ops o e with
  | some true => pf T o e B H
  | some false => some (.tup [])
  | none => none

def oneG (P : Program) (T : Tab) (ops : Array Oper) (o : Oper) (e : Env) (B : Box) (H : OHeap) (Q : LV → Box → OHeap → Prop) : Prop := match gWant ops o e with
  | some true => oneS P T o e B H Q
  | some false => Q (.tup []) B H
  | none => False

def readsG (ops : Array Oper) (o : Oper) : List Tmp := readsOf o ++ (match o.guard with | some (j, _) => (match gsl ops j with | some t => [t] | none => []) | none => [])

theorem gWant_congr (h : ∀ t ∈ readsG ops o, e t = e' t) : gWant ops o e = gWant ops o e' := by
  unfold gWant
  cases hg : o.guard with
  | none => rfl
  | some g =>
    obtain ⟨j, want⟩ := g
    simp only []
    cases ht : gsl ops j with
    | none => rfl
    | some t =>
      simp only []
      rw [h t (by simp [readsG, hg, ht])]
theorem SameE.ofG (h : ∀ t ∈ readsG ops o, e t = e' t) : SameE o e e' := SameE.of fun t ht => h t (by simp [readsG, ht])
theorem pvG_congr (h : ∀ t ∈ readsG ops o, e t = e' t) : pvG T ops o e B H = pvG T ops o e' B H := by
  unfold pvG; rw [gWant_congr h, pf_congr (SameE.ofG h)]
theorem oneG_congr (h : ∀ t ∈ readsG ops o, e t = e' t) (Q : LV → Box → OHeap → Prop) : oneG P T ops o e B H Q = oneG P T ops o e' B H Q := by
  unfold oneG; rw [gWant_congr h, oneS_congr (SameE.ofG h)]
theorem pvG_memless (h : memless o = true) : pvG T ops o e B H = pvG T ops o e B' H' := by
  unfold pvG; rw [pf_memless h]
theorem pvG_add (hf : FreeE B E) (h : pvG T ops o e B H = some x) : pvG T ops o e (addB B E) H = some x := by
  unfold pvG at h ⊢
  split at h
  · exact pf_mono hf h
  · exact h
  · simp at h
theorem oneG_pure (h : pureOp o = true) (Q : LV → Box → OHeap → Prop) : oneG P T ops o e B H Q = ob (pvG T ops o e B H) fun x => Q x B H := by
  unfold oneG pvG; rw [oneS_pure h]
  cases gWant ops o e with
  | none => rfl
  | some b => cases b <;> rfl
theorem oneG_mono {Q Q' : LV → Box → OHeap → Prop} (hq : ∀ x B H, Q x B H → Q' x B H) (h : oneG P T ops o e B H Q) : oneG P T ops o e B H Q' := by
  unfold oneG at h ⊢
  split at h
  · exact oneS_mono hq h
  · exact hq _ _ _ h
  · exact h
theorem oneG_add (hf : FF B E F) (hb : isBox o = false) {Q : LV → Box → OHeap → Prop} (h : oneG P T ops o e B H Q) : oneG P T ops o e (addB B E) H (More B E F Q) := by
  unfold oneG at h ⊢
  split at h
  · exact oneS_add hf hb h
  · exact More.here h
  · exact h

/-- One operation of a region, whatever stands for its place in the order. -/
theorem oneG_wp (hT : TOK P T) {i : Nat} (hi : ops[i]? = some o) (hd : opDst N o = true) {Q : LV → Box → OHeap → Prop} (h : oneG P T ops o e B H Q) {n m : Nat} {K : Know} {jj : Nat → Nat} {w : World} {a : Act} (g : Good K jj B H w) (t : TE K jj B N e a.tmps) (d : Dok m (dom H B jj) w a.defers)
    {K' : Act → World → Prop} {Qx : Exit → Act → World → Prop}
    (hK : ∀ a' w' x K1 jj' B' H', Good K1 jj' B' H' w' → TE K1 jj' B' N (updo e o.dst x) a'.tmps → Dok m (dom H' B' jj') w' a'.defers → Fr (dom H B jj) w K (dom H' B' jj') w' K1 → Q x B' H' → K' a' w') :
    wpOpIn (Fw ρ) n P ops Qx i K' a w := by
  unfold wpOpIn
  rw [hi]
  simp only []
  have hdst : ∀ tt, o.dst = some tt → tt < N := fun tt ht => by simpa [opDst, ht] using hd
  have skip : Region.wanted o (yielded ops a.tmps) = false → Q (.tup []) B H → (if Region.wanted o (yielded ops a.tmps) = true then Oper.wpIn (Fw ρ) n P o a w K' Qx else (∀ f, o.about P w a.eval = some f → (Fw ρ).fn f) ∧ K' (a.put o.dst undef) w) := fun hw hq => by
    rw [hw]
    simp only [Bool.false_eq_true, if_false]
    refine ⟨fun _ _ => trivial, ?_⟩
    have hdef : (a.put o.dst undef).defers = a.defers := by cases o.dst <;> rfl
    exact hK _ _ (.tup []) K jj B H g (t.put hdst (R.tup [] [] rfl (fun i x v h => by simp at h)).re) (by rw [hdef]; exact d) (Fr.refl _ _ _) hq
  unfold oneG gWant at h
  cases hg : o.guard with
  | none =>
    simp only [hg] at h
    have hw : Region.wanted o (yielded ops a.tmps) = true := by simp [Region.wanted, hg]
    rw [hw]
    simp only [if_true]
    exact oneS_sound hT h hd n m K jj w a g t d K' Qx hK
  | some gg =>
    obtain ⟨j, want⟩ := gg
    simp only [hg] at h
    cases ht : gsl ops j with
    | none => simp [ht] at h
    | some tt =>
      simp only [ht] at h
      have hgs : (ops[j]?).bind (·.dst) = some tt := ht
      cases hv : e tt <;> simp only [hv] at h
      case bool b =>
        have hgv : gv ops e j = some b := by
          obtain ⟨o', ho', hd'⟩ := Option.bind_eq_some_iff.1 hgs
          simp [gv, ho', hd', hv]
        have hw := wanted_iff t hg hgv
        cases hbw : (b == want) with
        | true =>
          rw [hbw] at h hw
          rw [hw]
          simp only [if_true]
          exact oneS_sound hT h hd n m K jj w a g t d K' Qx hK
        | false =>
          rw [hbw] at h hw
          exact skip hw h
      case tup vs =>
        cases vs with
        | cons y ys => exact h.elim
        | nil =>
          refine skip ?_ h
          have r := t.get tt
          rw [hv] at r
          have r' : R K (.tup []) (a.tmps.getD tt undef) := r
          have hvv : a.tmps.getD tt undef = .tuple #[] := by
            generalize a.tmps.getD tt undef = u at r'
            cases r' with | tup _ vs hl hh =>
              have : vs = [] := by simpa using hl
              subst this; rfl
          have hy : yielded ops a.tmps j = none := by
            unfold yielded
            rw [hgs]
            simp only [Option.bind_some]
            cases hq : a.tmps[tt]? with
            | none => rfl
            | some v => simp [hq] at hvv; subst hvv; rfl
          simp [Region.wanted, hg, hy]
      all_goals exact h.elim

end
end Go.Lv
