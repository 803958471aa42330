/- Lv, part W: loops with a ghost state; small laws for the walks. Over any program; no condition. -/
import Derived.Test.YtoimfngeoiljeaaLvV
namespace Go.Lv
open Go
set_option linter.unusedVariables false
set_option linter.unusedSimpArgs false

section
variable {P : Program} {ρ : Option Nat} {N : Nat} {T : Tab} {e : Env} {B : Box} {H : OHeap}

/-- Round again: a smaller state whose relation holds (less may be said). -/
def Next {σ : Type} (N : Nat) (I : σ → Env → Box → OHeap → Prop) (μ : σ → Nat) (s : σ) (Q : Post) : Post := fun x e B H =>
  match x with
  | .norm => ∃ s' e' B' H', μ s' < μ s ∧ Below (N := N) e e' B B' H H' ∧ I s' e' B' H'
  | .exit i => Q (.exit i) e B H
  | .ret => Q .ret e B H
@[simp↓] theorem Next_exit {σ : Type} (I : σ → Env → Box → OHeap → Prop) (μ : σ → Nat) (s : σ) (Q : Post) (i : Nat) : Next N I μ s Q (.exit i) e B H = Q (.exit i) e B H := rfl
@[simp↓] theorem Next_ret {σ : Type} (I : σ → Env → Box → OHeap → Prop) (μ : σ → Nat) (s : σ) (Q : Post) : Next N I μ s Q .ret e B H = Q .ret e B H := rfl
theorem Next.of {σ : Type} {I : σ → Env → Box → OHeap → Prop} {μ : σ → Nat} {s : σ} {Q : Post} (s' : σ) (hm : μ s' < μ s) (h : I s' e B H) : Next N I μ s Q .norm e B H := ⟨s', e, B, H, hm, Below.refl, h⟩
theorem Below.trans {e' e'' : Env} {B' B'' : Box} {H' H'' : OHeap} (h : Below (N := N) e e' B B' H H') (h' : Below (N := N) e' e'' B' B'' H' H'') : Below (N := N) e e'' B B'' H H'' := fun K jj w tmps g t => by
  obtain ⟨K', jj', g', t', f⟩ := h K jj w tmps g t
  obtain ⟨K'', jj'', g'', t'', f'⟩ := h' K' jj' w tmps g' t'
  exact ⟨K'', jj'', g'', t'', f.trans f'⟩
theorem Next.below {σ : Type} {I : σ → Env → Box → OHeap → Prop} {μ : σ → Nat} {s : σ} {Q : Post} {e' : Env} {B' : Box} {H' : OHeap} (hb : Below (N := N) e e' B B' H H') (h : Next N I μ s Q .norm e' B' H') : Next N I μ s Q .norm e B H := by
  obtain ⟨s', e'', B'', H'', h1, h2, h3⟩ := h
  exact ⟨s', e'', B'', H'', h1, hb.trans h2, h3⟩

theorem Lift.below {N m : Nat} {D : Nat → Prop} {w : World} {K : Know} {Q Q' : Post} {ex : Exit} {a' : Act} {w' : World} (hq : ∀ x e B H, Q x e B H → ∃ e' B' H', Below (N := N) e e' B B' H H' ∧ Q' x e' B' H') (h : Lift N m D w K Q ex a' w') : Lift N m D w K Q' ex a' w' := by
  obtain ⟨x, K', jj', e', B', H', h1, h2, h3, h4, h5, h6⟩ := h
  obtain ⟨e'', B'', H'', hb, hq'⟩ := hq _ _ _ _ h6
  obtain ⟨K'', jj'', g'', t'', f''⟩ := hb K' jj' w' a'.tmps h2 h3
  exact ⟨x, K'', jj'', e'', B'', H'', h1, g'', t'', h4.fr f'', h5.trans f'', hq'⟩

/-- A LOOP, with a ghost state and a measure of it. -/
theorem WP.loopG {σ : Type} {c : Code} {Q : Post} (I : σ → Env → Box → OHeap → Prop) (μ : σ → Nat) (s₀ : σ) (h₀ : I s₀ e B H) (round : ∀ s e B H, I s e B H → WP P ρ N c (Next N I μ s Q) e B H) : WP P ρ N (.loop c) Q e B H := by
  refine WP.loop (fun m e B H => ∃ s, μ s = m ∧ I s e B H) (μ s₀) ⟨s₀, rfl, h₀⟩ ?_
  rintro m e B H ⟨s, rfl, hI⟩
  intro hd n m K jj w a g t d
  refine wpIn_mono (round s e B H hI hd n m K jj w a g t d) fun ex a' w' hl => hl.below fun x e B H hx => ?_
  cases x with
  | norm =>
    obtain ⟨s', e', B', H', h1, h2, h3⟩ := hx
    exact ⟨e', B', H', h2, μ s', h1, s', rfl, h3⟩
  | exit i => exact ⟨e, B, H, Below.refl, hx⟩
  | ret => exact ⟨e, B, H, Below.refl, hx⟩

/-- The contract from the body, piece by piece. -/
theorem CallL.of_wp (hT : TOK P T) {f : FuncId} {fn : Func} {c : Code} {args : List LV} {n : Nat} {Q : LV → OHeap → Prop} (hf : P.funcs[f]? = some fn) (hb : fn.body = some c) (hok : fnOk fn n = true) (hn : args.length = n)
    (h : WP P none fn.ntmps c (RetQ T fn Q) (argEnv args) nobox H) : CallL P f args H Q := by
  simp only [fnOk, hb, Bool.and_eq_true, decide_eq_true_eq, Bool.not_eq_true'] at hok
  exact CallL.of_WP hT hf hb hok.1.1 hok.2 (by rw [hn]; exact hok.1.2) h
/-- The first piece alone. -/
theorem WP.cut (hT : TOK P T) {x y : Code} {Q : Post} (h : vc P T ρ N x (Then P ρ N y Q) e B H) : WP P ρ N (.seq x y) Q e B H := WP.seq (vc_sound hT _ _ _ _ _ h)
theorem Then.go (hT : TOK P T) {y : Code} {Q : Post} (h : vc P T ρ N y Q e B H) : Then P ρ N y Q .norm e B H := vc_sound hT _ _ _ _ _ h
theorem Then.below {y : Code} {Q : Post} {e' : Env} {B' : Box} {H' : OHeap} (hb : Below (N := N) e e' B B' H H') (h : Then P ρ N y Q .norm e' B' H') : Then P ρ N y Q .norm e B H := WP.below hb h

@[simp↓] theorem Then_ret (y : Code) (Q : Post) : Then P ρ N y Q .ret e B H = Q .ret e B H := rfl
@[simp↓] theorem Then_exit (y : Code) (Q : Post) (i : Nat) : Then P ρ N y Q (.exit i) e B H = Q (.exit i) e B H := rfl

/-- An empty slice is nil, or it is not. -/
theorem R.empty {K : Know} {f : Bool} {es : Nat} {v : Value} (h : R K (.isl f es []) v) : R K .nilsl v ∨ ∃ b o c, R K (.sl b o 0 c) v ∧ (f = true → c = 0) := by
  cases h with
  | isln => exact .inl .nilsl
  | isl _ _ _ b o c us hc hf => exact .inr ⟨b, o, c, .sl _ _ _ _, fun h => hf h⟩
theorem Rs.empty {K : Know} {pre post : List LV} {f : Bool} {es : Nat} {vs : List Value} (h : Rs K (pre ++ .isl f es [] :: post) vs) : Rs K (pre ++ .nilsl :: post) vs ∨ ∃ b o c, Rs K (pre ++ .sl b o 0 c :: post) vs ∧ (f = true → c = 0) := by
  have key : ∀ y, (∀ v, vs[pre.length]? = some v → R K y v) → Rs K (pre ++ y :: post) vs := fun y hy => by
    refine ⟨by rw [h.1]; simp, fun i x v hx hv => ?_⟩
    rcases Nat.lt_trichotomy i pre.length with hi | hi | hi
    · rw [List.getElem?_append_left hi] at hx
      exact h.2 i x v (by rw [List.getElem?_append_left hi]; exact hx) hv
    · subst hi
      simp at hx; subst hx
      exact hy v hv
    · rw [List.getElem?_append_right (by omega)] at hx
      obtain ⟨k, hk⟩ : ∃ k, i - pre.length = k + 1 := ⟨i - pre.length - 1, by omega⟩
      rw [hk] at hx
      exact h.2 i x v (by rw [List.getElem?_append_right (by omega), hk]; simpa using hx) hv
  obtain ⟨v, hv, hr⟩ := h.get (i := pre.length) (x := .isl f es []) (by simp)
  rcases hr.empty with hr | ⟨b, o, c, hr, hc⟩
  · exact .inl (key _ fun v' hv' => by rw [hv] at hv'; simp at hv'; subst hv'; exact hr)
  · exact .inr ⟨b, o, c, key _ fun v' hv' => by rw [hv] at hv'; simp at hv'; subst hv'; exact hr, hc⟩
theorem CallL.empty {f : FuncId} (pre : List LV) {post : List LV} {fl : Bool} {es : Nat} {Q : LV → OHeap → Prop} (h1 : CallL P f (pre ++ .nilsl :: post) H Q) (h2 : ∀ b o c, (fl = true → c = 0) → CallL P f (pre ++ .sl b o 0 c :: post) H Q) : CallL P f (pre ++ .isl fl es [] :: post) H Q := by
  refine ⟨h1.1, fun K w vs g hr => ?_⟩
  rcases hr.empty with hr | ⟨b, o, c, hr, hc⟩
  · exact h1.2 K w vs g hr
  · exact (h2 b o c hc).2 K w vs g hr
/-- Less is said of a result. -/
theorem Wk.of {r r' : LV} (h : ∀ K v, R K r v → R K r' v) : Wk r H r' H := fun K w v g hr => ⟨K, g, h K v hr, Fr.refl _ _ _⟩
theorem Wk.nilsl (f : Bool) (es : Nat) : Wk .nilsl H (.isl f es []) H := Wk.of fun K v h => by cases h; exact .isln _ _

theorem wrap64 {n : Int} (h1 : -9223372036854775808 ≤ n) (h2 : n ≤ 9223372036854775807) : IntKind.i64.wrap n = n := by rw [IntKind.wrap_i64]; omega

/-- How a call goes in: by its contract. -/
theorem CallL.then {f : FuncId} {args : List LV} {Q Q' : LV → OHeap → Prop} (h : CallL P f args H Q) (hq : ∀ x H', Q x H' → Q' x H') : CallL P f args H Q' := h.mono hq
/-- A call that hands back one value and turns nothing. -/
theorem CallL.ret {f : FuncId} {args : List LV} {x : LV} {Q : LV → OHeap → Prop} (h : CallL P f args H fun y H' => y = x ∧ H' = H) (hq : Q x H) : CallL P f args H Q := h.mono fun y H' hh => by obtain ⟨rfl, rfl⟩ := hh; exact hq
end
end Go.Lv
