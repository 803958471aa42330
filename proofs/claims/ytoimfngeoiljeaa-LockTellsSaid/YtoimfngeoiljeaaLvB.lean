/- Lv, part B: the predicate transformer WP over what a walk sees, and its rules for the forms of code. Over any program; no condition. -/
import Derived.Test.YtoimfngeoiljeaaLvA
import Derived.Deep.LoopGhost
namespace Go.Lv
open Go
set_option linter.unusedVariables false
set_option linter.unusedSimpArgs false

inductive Ex where
  | norm
  | exit (id : Nat)
  | ret

def Ex.of : Ex → Exit
  | .norm => .normal
  | .exit i => .exit i
  | .ret => .ret

abbrev Post := Ex → Env → Box → OHeap → Prop

/-- Every function, any depth; in a loop's round or not. -/
def Fw (ρ : Option Nat) : Fence := { fn := fun _ => True, depth := none, alive := false, round := ρ }
theorem Fw_none : Fw none = Fence.wide := rfl
@[simp] theorem Fw_round (ρ : Option Nat) : (Fw ρ).round = ρ := rfl
@[simp] theorem Fw_depth (ρ : Option Nat) : (Fw ρ).depth = none := rfl

def dmark (b : Nat) : Deferred := { target := .collected b, args := #[] }

/-- The deferred calls that stand are the marks of range-over-function loops that defer nothing. -/
def Dok (m : Nat) (D : Nat → Prop) (w : World) (ds : List Deferred) : Prop :=
  ∃ bs : List Nat, ds = bs.map dmark ∧ bs.Nodup ∧ ∀ b ∈ bs, m ≤ b ∧ ¬ D b ∧ w.heap[b]? = some (.deferred (some []))

theorem Dok.nil (m : Nat) (D : Nat → Prop) (w : World) : Dok m D w [] := ⟨[], rfl, List.nodup_nil, fun b h => by cases h⟩

theorem Dok.fr {D D' : Nat → Prop} {w w' : World} {K K' : Know} {m : Nat} {ds : List Deferred} (h : Dok m D w ds) (f : Fr D w K D' w' K') : Dok m D' w' ds := by
  obtain ⟨bs, h1, h2, h3⟩ := h
  refine ⟨bs, h1, h2, fun b hb => ?_⟩
  obtain ⟨h0, h4, h5⟩ := h3 b hb
  have hlt := (Array.getElem?_eq_some_iff.1 h5).1
  exact ⟨h0, fun x => (f.newD b x).elim h4 (fun y => by omega), by rw [f.old b hlt h4]; exact h5⟩

/-- What is known of the end of a piece. -/
def Lift (N m : Nat) (D : Nat → Prop) (w : World) (K : Know) (Q : Post) : Exit → Act → World → Prop := fun ex a' w' =>
  ∃ x K' jj' e' B' H', ex = Ex.of x ∧ Good K' jj' B' H' w' ∧ TE K' jj' B' N e' a'.tmps ∧ Dok m (dom H' B' jj') w' a'.defers ∧ Fr D w K (dom H' B' jj') w' K' ∧ Q x e' B' H'

/-- All slots that are written are slots. -/
def opDst (N : Nat) (o : Oper) : Bool := match o.dst with | some d => decide (d < N) | none => true
def dstOk (N : Nat) : Code → Bool
  | .region _ ops _ => ops.toList.all (opDst N)
  | .seq a b => dstOk N a && dstOk N b
  | .cond _ a b => dstOk N a && dstOk N b
  | .block _ b => dstOk N b
  | .loop b => dstOk N b
  | .scope b => dstOk N b
  | .rangeFunc _ ps a b => ps.toList.all (fun d => decide (d < N)) && dstOk N a && dstOk N b
  | _ => true

def WP (P : Program) (ρ : Option Nat) (N : Nat) (c : Code) (Q : Post) (e : Env) (B : Box) (H : OHeap) : Prop :=
  dstOk N c = true → ∀ n m K jj w a, Good K jj B H w → TE K jj B N e a.tmps → Dok m (dom H B jj) w a.defers → c.wpIn (Fw ρ) n P (Lift N m (dom H B jj) w K Q) a w

section
variable {P : Program} {ρ : Option Nat} {N m : Nat} {Q Q' : Post} {e : Env} {B : Box} {H : OHeap}

theorem Lift.mono {D : Nat → Prop} {w : World} {K : Know} {ex : Exit} {a' : Act} {w' : World} (hq : ∀ x e B H, Q x e B H → Q' x e B H) (h : Lift N m D w K Q ex a' w') : Lift N m D w K Q' ex a' w' := by
  obtain ⟨x, K', jj', e', B', H', h1, h2, h3, h4, h5, h6⟩ := h
  exact ⟨x, K', jj', e', B', H', h1, h2, h3, h4, h5, hq _ _ _ _ h6⟩

theorem Lift.fr {D D' : Nat → Prop} {w w₁ : World} {K K₁ : Know} {ex : Exit} {a' : Act} {w' : World} (f : Fr D w K D' w₁ K₁) (h : Lift N m D' w₁ K₁ Q ex a' w') : Lift N m D w K Q ex a' w' := by
  obtain ⟨x, K', jj', e', B', H', h1, h2, h3, h4, h5, h6⟩ := h
  exact ⟨x, K', jj', e', B', H', h1, h2, h3, h4, f.trans h5, h6⟩

theorem WP.mono {c : Code} (h : WP P ρ N c Q e B H) (hq : ∀ x e B H, Q x e B H → Q' x e B H) : WP P ρ N c Q' e B H :=
  fun hd n m K jj w a g t d => wpIn_mono (h hd n m K jj w a g t d) fun _ _ _ hl => hl.mono hq

/-- An end at once, with what there is. -/
theorem Lift.here {K : Know} {jj : Nat → Nat} {w : World} {a : Act} (x : Ex) (g : Good K jj B H w) (t : TE K jj B N e a.tmps) (d : Dok m (dom H B jj) w a.defers) (h : Q x e B H) :
    Lift N m (dom H B jj) w K Q (Ex.of x) a w := ⟨x, K, jj, e, B, H, rfl, g, t, d, Fr.refl _ _ _, h⟩

theorem WP.skip (h : Q .norm e B H) : WP P ρ N .skip Q e B H := fun _ _ _ _ _ _ _ g t d => wpIn_skip (Lift.here .norm g t d h)
theorem WP.label {l : Nat} (h : Q .norm e B H) : WP P ρ N (.label l) Q e B H := fun _ _ _ _ _ _ _ g t d => wpIn_label (Lift.here .norm g t d h)
theorem WP.exit {id : Nat} (h : Q (.exit id) e B H) : WP P ρ N (.exit id) Q e B H := fun _ _ _ _ _ _ _ g t d => wpIn_exit (Lift.here (.exit id) g t d h)
theorem WP.ret (h : Q .ret e B H) : WP P ρ N .ret Q e B H := fun _ _ _ _ _ _ _ g t d => wpIn_ret (Lift.here .ret g t d h)

/-- Behind a piece that ends normally comes another one. -/
def Then (P : Program) (ρ : Option Nat) (N : Nat) (y : Code) (Q : Post) : Post := fun x e B H =>
  match x with
  | .norm => WP P ρ N y Q e B H
  | .exit i => Q (.exit i) e B H
  | .ret => Q .ret e B H

theorem WP.seq {x y : Code} (h : WP P ρ N x (Then P ρ N y Q) e B H) : WP P ρ N (.seq x y) Q e B H := by
  intro hd n m K jj w a g t d
  simp only [dstOk, Bool.and_eq_true] at hd
  refine wpIn_seq (wpIn_mono (h hd.1 n m K jj w a g t d) ?_)
  rintro ex a' w' ⟨z, K', jj', e', B', H', rfl, g', t', d', f, hq⟩
  cases z with
  | norm => exact wpIn_mono (hq hd.2 n m K' jj' w' a' g' t' d') fun _ _ _ hl => hl.fr f
  | exit i => exact ⟨.exit i, K', jj', e', B', H', rfl, g', t', d', f, hq⟩
  | ret => exact ⟨.ret, K', jj', e', B', H', rfl, g', t', d', f, hq⟩

/-- What a constant is. -/
def ofV1 : Value → LV
  | .bool b => .bool b
  | .int k n => .int k n
  | .string s => .str s
  | .pointer none => .nilp
  | .slice none 0 0 => .nilsl
  | .map none => .nilm
  | .nilFunc => .nilf
  | .nilIface => .nilif
  | .func (.func f) ⟨[]⟩ ⟨[]⟩ => .fn f [] []
  | _ => .any
def ofV : Value → LV
  | .agg ⟨l⟩ => .agg (l.map ofV1)
  | .tuple ⟨[]⟩ => .tup []
  | v => ofV1 v

theorem R.ofV1 (K : Know) (v : Value) : R K (ofV1 v) v := by
  unfold Lv.ofV1
  split
  · exact .bool _
  · exact .int _ _
  · exact .str _
  · exact .nilp
  · exact .nilsl
  · exact .nilm
  · exact .nilf
  · exact .nilif
  · exact .fn _ [] [] [] [] rfl rfl (fun i x v h => by simp at h) (fun i x v h => by simp at h)
  · exact .any _

theorem R.ofV (K : Know) (v : Value) : R K (ofV v) v := by
  unfold Lv.ofV
  split
  · rename_i l
    refine .agg _ l (by simp) ?_
    intro i x v hx hv
    rw [List.getElem?_map, hv] at hx
    simp at hx; subst hx
    exact R.ofV1 K v
  · exact .tup [] [] rfl (fun i x v h => by simp at h)
  · exact R.ofV1 K _

def ev (e : Env) : Operand → LV
  | .tmp t => e t
  | .const v => ofV v
  | .global g => .ptr g 0
  | .func f => .fn f [] []

theorem TE.ev {K : Know} {jj : Nat → Nat} {a : Act} (t : TE K jj B N e a.tmps) (x : Operand) : RE K jj B (ev e x) (a.eval x) := by
  cases x with
  | tmp i => exact t.get i
  | const v => exact (R.ofV K v).re
  | global g => exact R.re (.ptr g 0)
  | func f => exact R.re (.fn f [] [] [] [] rfl rfl (fun i x v h => by simp at h) (fun i x v h => by simp at h))

theorem RE.bool {K : Know} {jj : Nat → Nat} {v : Value} {b : Bool} (h : RE K jj B (.bool b) v) : v = .bool b := by cases h; rfl
theorem RE.str {K : Know} {jj : Nat → Nat} {v : Value} {s : ByteArray} (h : RE K jj B (.str s) v) : v = .string s := by cases h; rfl
theorem RE.int {K : Know} {jj : Nat → Nat} {v : Value} {k : IntKind} {n : Int} (h : RE K jj B (.int k n) v) : v = .int k n := by cases h; rfl

theorem WP.cond {c : Operand} {x y : Code} {b : Bool} (hc : ev e c = .bool b) (ht : b = true → WP P ρ N x Q e B H) (hf : b = false → WP P ρ N y Q e B H) :
    WP P ρ N (.cond c x y) Q e B H := by
  intro hd n m K jj w a g t d
  simp only [dstOk, Bool.and_eq_true] at hd
  have h := t.ev c
  rw [hc] at h
  cases b with
  | true => exact wpIn_cond_true h.bool (ht rfl hd.1 n m K jj w a g t d)
  | false => exact wpIn_cond_false h.bool (hf rfl hd.2 n m K jj w a g t d)

/-- A block's end is reached by its exit, too. -/
def InBlock (id : Nat) (Q : Post) : Post := fun x e B H =>
  match x with
  | .norm => Q .norm e B H
  | .exit i => if i = id then Q .norm e B H else Q (.exit i) e B H
  | .ret => Q .ret e B H

theorem WP.block {id : Nat} {c : Code} (h : WP P ρ N c (InBlock id Q) e B H) : WP P ρ N (.block id c) Q e B H := by
  intro hd n m K jj w a g t d
  refine wpIn_block (wpIn_mono (h hd n m K jj w a g t d) ?_)
  rintro ex a' w' ⟨z, K', jj', e', B', H', rfl, g', t', d', f, hq⟩
  cases z with
  | norm => exact ⟨.norm, K', jj', e', B', H', rfl, g', t', d', f, hq⟩
  | exit i =>
    simp only [Ex.of, Exit.inBlock]
    by_cases hi : i = id
    · simp only [InBlock, hi, if_true] at hq ⊢
      exact ⟨.norm, K', jj', e', B', H', rfl, g', t', d', f, hq⟩
    · simp only [InBlock, hi, if_false] at hq ⊢
      exact ⟨.exit i, K', jj', e', B', H', rfl, g', t', d', f, hq⟩
  | ret => exact ⟨.ret, K', jj', e', B', H', rfl, g', t', d', f, hq⟩

/-- A loop: a relation that bears a number, which every round lowers. -/
def Again (I : Nat → Env → Box → OHeap → Prop) (m : Nat) (Q : Post) : Post := fun x e B H =>
  match x with
  | .norm => ∃ m', m' < m ∧ I m' e B H
  | .exit i => Q (.exit i) e B H
  | .ret => Q .ret e B H

theorem WP.loop {c : Code} (I : Nat → Env → Box → OHeap → Prop) (m₀ : Nat) (h₀ : I m₀ e B H) (round : ∀ m e B H, I m e B H → WP P ρ N c (Again I m Q) e B H) :
    WP P ρ N (.loop c) Q e B H := by
  intro hd n m K jj w a g t d
  let J : Nat → Act → World → Prop := fun k a' w' => ∃ K' jj' e' B' H', Good K' jj' B' H' w' ∧ TE K' jj' B' N e' a'.tmps ∧ Dok m (dom H' B' jj') w' a'.defers ∧ Fr (dom H B jj) w K (dom H' B' jj') w' K' ∧ I k e' B' H'
  refine wpIn_loop (fun a' w' => ∃ k, J k a' w') (fun a' w' => leastOf (fun k => J k a' w')) ⟨m₀, K, jj, e, B, H, g, t, d, Fr.refl _ _ _, h₀⟩ ?_
  intro a' w' hJ
  obtain ⟨hl, hmin⟩ := leastOf_spec hJ
  generalize leastOf (fun k => J k a' w') = k at hl hmin
  obtain ⟨K', jj', e', B', H', g', t', d', f, hI⟩ := hl
  refine wpIn_mono (round k e' B' H' hI hd n m K' jj' w' a' g' t' d') ?_
  rintro ex a'' w'' ⟨z, K'', jj'', e'', B'', H'', rfl, g'', t'', d'', f', hq⟩
  cases z with
  | norm =>
    obtain ⟨m', hm, hI'⟩ := hq
    have hJ' : J m' a'' w'' := ⟨K'', jj'', e'', B'', H'', g'', t'', d'', f.trans f', hI'⟩
    exact ⟨⟨m', hJ'⟩, Nat.lt_of_le_of_lt ((leastOf_spec ⟨m', hJ'⟩).2 m' hJ') hm⟩
  | exit i => exact ⟨.exit i, K'', jj'', e'', B'', H'', rfl, g'', t'', d'', f.trans f', hq⟩
  | ret => exact ⟨.ret, K'', jj'', e'', B'', H'', rfl, g'', t'', d'', f.trans f', hq⟩

/-! ### A scope whose labels nobody jumps to -/
theorem stepR_scope {b : Frame} {a : Act} {k : List Item} {cs : List Frame} {w : World} {c : Code} : step P (lone (b.atR a (.code (.scope c) :: k)) cs w) = .next (lone (b.atR a (.code c :: .inScope c :: k)) cs w) :=
  step_lone_go (by simp [stepG, stepG.exec, Frame.atR])
theorem stepR_inScope {b : Frame} {a : Act} {k : List Item} {cs : List Frame} {w : World} {c : Code} : step P (lone (b.atR a (.inScope c :: k)) cs w) = .next (lone (b.atR a k) cs w) :=
  step_lone_go (by simp [stepG, stepG.exec, Frame.atR])

theorem WP.scope {c : Code} (h : WP P ρ N c Q e B H) : WP P ρ N (.scope c) Q e B H := by
  intro hd n m K jj w a g t d b k cs hro hb hr
  have h0 : (lone (b.atR a (.code (.scope c) :: k)) cs w).fenced P (Fw ρ) := fenced_calm hb hr rfl
  obtain ⟨ex, a', w', hq, harr⟩ := h hd n m K jj w a g t d b (.inScope c :: k) cs hro hb hr
  refine ⟨ex, a', w', hq, ?_⟩
  obtain ⟨z, K', jj', e', B', H', rfl, _⟩ := hq
  cases z with
  | norm => exact .head h0 stepR_scope (StepsIn.trans harr (.one (fenced_calm hb hr rfl) stepR_inScope))
  | exit i =>
    have hx : exitTo i (.inScope c :: k) = exitTo i k := by simp [exitTo]
    exact ⟨fun k' hk => .head h0 stepR_scope (harr.1 k' (by rw [hx]; exact hk)), fun hr' hk => let ⟨k₁, h1, h2⟩ := harr.2 hr' (by rw [hx]; exact hk); ⟨k₁, h1, .head h0 stepR_scope h2⟩⟩
  | ret => exact .of_steps (.one h0 stepR_scope) harr

/-- Less is said. -/
def Below (e e' : Env) (B B' : Box) (H H' : OHeap) : Prop :=
  ∀ K jj w tmps, Good K jj B H w → TE K jj B N e tmps → ∃ K' jj', Good K' jj' B' H' w ∧ TE K' jj' B' N e' tmps ∧ Fr (dom H B jj) w K (dom H' B' jj') w K'

theorem WP.below {c : Code} {e' : Env} {B' : Box} {H' : OHeap} (hb : Below (N := N) e e' B B' H H') (h : WP P ρ N c Q e' B' H') : WP P ρ N c Q e B H := by
  intro hd n m K jj w a g t d
  obtain ⟨K', jj', g', t', f⟩ := hb K jj w a.tmps g t
  exact wpIn_mono (h hd n m K' jj' w a g' t' (d.fr f)) fun _ _ _ hl => hl.fr f

theorem Below.refl : Below (N := N) e e B B H H := fun K jj _ _ g t => ⟨K, jj, g, t, Fr.refl _ _ _⟩
end
end Go.Lv
