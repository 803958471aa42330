/- Texts of this proof, put together: XeL, XeM, XeN, XeO. No condition. -/
import Derived.Test.YtllfbhmggfldoaaGreatDoorM5
/- Xe, part L: what the machine does is so: operations in a row, drawn regions. Over any program; no condition. -/
namespace Go.Xv
open Go Go.Lv
set_option linter.unusedVariables false
set_option linter.unusedSimpArgs false
set_option maxRecDepth 4000
section
variable {bs : LP} {m : VM} {s s' : XS} {B : Box} {H : OHeap} {e e' : ET} {E : Env} {T : Tab} {x y v : LV} {P : Program} {o : Oper} {Q : LV → Box → OHeap → Prop} {dr : Bool} {ρ : Option Nat} {N : Nat}
/-- What a call of yield does is what the machine says. -/
def YhOK (P : Program) (yh : Yh) (bs : LP) (m : VM) : Prop := ∀ i h, yh i = some h → ∃ j, m i = some j ∧ ∀ m' s H xs ys b s', Mle m m' → Rel bs m' s nobox H → s.bx = [] → Tvs m' xs ys → h xs s = some (b, s') →
  YieldL P j.b ys H fun r H' => r = .bool b ∧ ∃ m'', Mle m' m'' ∧ s'.bx = [] ∧ Rel bs m'' s' nobox H'
theorem YhOK.mono {yh : Yh} {m' : VM} (h : YhOK P yh bs m) (hle : Mle m m') : YhOK P yh bs m' := fun i h0 hi => by
  obtain ⟨j, h1, h2⟩ := h i h0 hi
  exact ⟨j, hle _ _ h1, fun m'' s H xs ys b s' hle' => h2 m'' s H xs ys b s' (hle.trans hle')⟩
/-- What a call does is what the machine says. -/
def CallOK (P : Program) (call : Cl) : Prop := ∀ yh f args v s s', call yh f args s = some (v, s') → ∀ bs m H args', YhOK P yh bs m → Rel bs m s nobox H → s.bx = [] → Tvs m args args' →
  CallL P f args' H fun x H' => ∃ m', Mle m m' ∧ Tv m' v x ∧ s'.bx = [] ∧ Rel bs m' s' nobox H'
theorem Rel.noB (r : Rel bs m s B H) : Rel bs m { s with bx := [] } nobox H := ⟨r.obj, r.lt, r.inj, r.loop, fun d _ => rfl, fun d cs h => (by cases h), r.glob⟩
theorem Rel.reB {m' : VM} {H' : OHeap} {B' : Box} (r : Rel bs m s B H) (hle : Mle m m') (r' : Rel bs m' s' B' H') : Rel bs m' { s' with bx := s.bx } B H' :=
  ⟨r'.obj, r'.lt, r'.inj, r'.loop, r.box0, fun d cs h => (by obtain ⟨h1, c, h2, h3⟩ := r.box1 d cs h; exact ⟨h1, c, h2, h3.mono hle⟩), r'.glob⟩
/-- What is owed of an operation, whatever it is. -/
def FnO (P : Program) (T : Tab) (ρ : Option Nat) (N : Nat) (dr : Bool) (o : Oper) (E : Env) (B : Box) (H : OHeap) (Q : LV → Box → OHeap → Prop) : Prop := match dr with
  | true => oneS P T o E B H Q
  | false => One P ρ N o E B H Q
theorem FnO.one (hT : TOK P T) (h : oneS P T o E B H Q) : FnO P T ρ N dr o E B H Q := by
  cases dr
  · exact oneS_sound hT h
  · exact h
theorem FnO.fn (hd : ∀ c, o.op ≠ .defer c) (h : Fn P T dr o E B H Q) : FnO P T ρ N dr o E B H Q := by
  cases dr
  · exact One.of_step hd h
  · exact h
theorem append_hand {a b : List LV} (h : (a ++ b).all hand = true) : a.all hand = true ∧ b.all hand = true := by simpa [List.all_append] using h
theorem oneR {call : Cl} {yh : Yh} (hT : TOK P T) (hc : CallOK P call) (hy : YhOK P yh bs m) (r : Rel bs m s B H) (he : EnvR m B e E) (hx : exOne T call yh dr o e s = some (v, s')) (hq : Got bs m B v s' Q) : FnO P T ρ N dr o E B H Q := by
  have rest : xop T dr o.op o.dst e s = some (v, s') → FnO P T ρ N dr o E B H Q := fun h => FnO.fn (fun c hd => by rw [hd] at h; cases h) (opR hT r he h hq)
  unfold exOne at hx
  split at hx
  · rename_i c ho
    split at hx
    · rename_i f hf
      have hfv := evR r he f
      split at hx
      · rename_i g fst caps hg
        split at hx <;> try cases hx
        rename_i hh
        split at hx <;> cases hx
        rename_i w s1 hcall
        rw [hg] at hfv
        obtain ⟨hh1, hh3⟩ := append_hand hh
        obtain ⟨hh1, hh2⟩ := append_hand hh1
        rcases hfv with h | h | ⟨d', ver, off', h1, h2, h3, h4⟩
        · generalize hev : ev E f = fv at h
          cases h with
          | base _ hb => simp [Xv.base] at hb
          | fn _ _ _ fst' caps' hl hm h h' =>
            have ha := (Tvs.append (Tvs.append (show Tvs m fst fst' from ⟨hl, h⟩) (xevsR r he c.args hh2)) (show Tvs m caps caps' from ⟨hm, h'⟩))
            have hcl : callee E c = some (g, fst' ++ evs E c.args ++ caps') := by simp only [callee, hf, hev]
            refine FnO.one hT ?_
            simp only [oneS, ho, hf, hev, hcl]
            refine ⟨ha.all_glob, (hc yh g _ _ _ _ hcall bs m H _ hy r.noB rfl ha).mono ?_⟩
            rintro x H' ⟨m', h1, h2, h3, h4⟩
            exact hq m' x B H' h1 (BLe.refl B) (.inl h2) (r.reB h1 h4)
        · cases h
        · cases h1
      · rename_i l hl
        split at hx <;> try cases hx
        rename_i hh
        split at hx <;> try cases hx
        rename_i hd hyl
        split at hx <;> cases hx
        rename_i b s1 hcall
        rw [hl] at hfv
        rcases hfv with h | h | ⟨d', ver, off', h1, h2, h3, h4⟩
        · generalize hev : ev E f = fv at h
          cases h with
          | base _ hb => simp [Xv.base] at hb
          | yld _ i hm =>
            have ha := xevsR r he c.args hh
            obtain ⟨j, g1, g2⟩ := hy l hd hyl
            rw [hm] at g1; cases g1
            refine FnO.one hT ?_
            simp only [oneS, ho, hf, hev]
            refine ⟨ha.all_glob, (g2 m _ H _ _ b s1 (Mle.refl m) r.noB rfl ha hcall).mono ?_⟩
            rintro x H' ⟨rfl, m'', h1, h2, h3⟩
            exact hq m'' _ B H' h1 (BLe.refl B) (.inl (.base _ rfl)) (r.reB h1 h3)
        · cases h
        · cases h1
      · cases hx
    · exact rest hx
  · exact rest hx
/-! ### Guards -/
theorem gslL (ops : Array Oper) (j : Nat) : (ops.toList[j]?).bind (·.dst) = (ops[j]?).bind (·.dst) := by rw [Array.getElem?_toList]
theorem xwR {ops : Array Oper} (he : EnvR m B e E) {w : Bool} (h : xw ops.toList o e = some w) : gWant ops o E = some w := by
  unfold xw at h
  unfold gWant
  split at h
  · rename_i hg; rw [hg]; exact h
  · rename_i j want hg
    rw [hg]
    simp only []
    rw [gslL] at h
    unfold gsl
    split at h
    · rename_i t ht
      rw [ht]
      simp only []
      have hv := he t
      split at h
      · rename_i b hb
        rw [hb] at hv; rw [hv.base_inv rfl]; exact h
      · rename_i hb
        rw [hb] at hv
        have : E t = .tup [] := by
          rcases hv with h | h | ⟨d', ver, off', h1, h2, h3, h4⟩
          · generalize E t = y at h
            cases h with
            | base _ hb => simp [Xv.base] at hb
            | tup _ ds hl _ => cases ds with | nil => rfl | cons => simp at hl
          · cases h
          · cases h1
        rw [this]; exact h
      · cases h
    · cases h
theorem tupR : TvE m B (.tup []) (.tup []) := .inl (.tup [] [] rfl (by simp))
/-- What is known behind a list of operations. -/
def GotE (bs : LP) (m : VM) (B : Box) (e' : ET) (s' : XS) (Q : KPost) : Prop := ∀ m' E' B' H', Mle m m' → BLe B B' → EnvR m' B' e' E' → Rel bs m' s' B' H' → Q E' B' H'
theorem BLe.trans {B' B'' : Box} (h : BLe B B') (h' : BLe B' B'') : BLe B B'' := fun d hd => ⟨by rw [(h' d (h d hd).2).1, (h d hd).1], (h' d (h d hd).2).2⟩
theorem osR {call : Cl} {yh : Yh} (hT : TOK P T) (hc : CallOK P call) {ops : Array Oper} : ∀ (rest : List Oper) (m : VM) (e : ET) (E : Env) (s : XS) (B : Box) (H : OHeap) (Q : KPost), YhOK P yh bs m → Rel bs m s B H → EnvR m B e E →
    exOs T call yh false ops.toList rest e s = some (e', s') → GotE bs m B e' s' Q → WPO P ρ N ops rest Q E B H
  | [], m, e, E, s, B, H, Q, hy, r, he, hx, hq => by
    simp only [exOs, Option.some.injEq, Prod.mk.injEq] at hx
    obtain ⟨rfl, rfl⟩ := hx
    exact WPO.nil (hq m E B H (Mle.refl m) (BLe.refl B) he r)
  | o :: rest, m, e, E, s, B, H, Q, hy, r, he, hx, hq => by
    unfold exOs at hx
    have run : ∀ o' : Oper, o'.op = o.op → o'.dst = o.dst → o'.guard = none → ∀ v s1, exOne T call yh false o e s = some (v, s1) → exOs T call yh false ops.toList rest (setE e o.dst v) s1 = some (e', s') → WPO P ρ N ops (o' :: rest) Q E B H := fun o' h1 h2 h3 v s1 hx1 hx2 => by
      have hx1' : exOne T call yh false o' e s = some (v, s1) := by rw [← hx1]; unfold exOne; rw [h1, h2]
      refine WPO.one h3 (oneR (dr := false) hT hc hy r he hx1' ?_)
      intro m' x B' H' hle hB hv hr
      refine osR hT hc rest m' _ _ s1 B' H' Q (hy.mono hle) hr ?_ hx2 fun m'' E' B'' H'' h4 h5 h6 h7 => hq m'' E' B'' H'' (hle.trans h4) (hB.trans h5) h6 h7
      rw [h2]
      exact (he.mono hle hB).put hv o.dst
    have idle : exOs T call yh false ops.toList rest (setE e o.dst (.tup [])) s = some (e', s') → WPO P ρ N ops rest Q (updo E o.dst (.tup [])) B H := fun hx2 =>
      osR hT hc rest m _ _ s B H Q hy r (he.put tupR o.dst) hx2 hq
    split at hx
    · rename_i hw
      split at hx <;> try cases hx
      rename_i v s1 hx1
      have hgw := xwR he hw
      cases hg : o.guard with
      | none => exact run o rfl rfl hg v s1 hx1 hx
      | some jw =>
        obtain ⟨j, want⟩ := jw
        unfold gWant at hgw
        rw [hg] at hgw
        simp only [] at hgw
        split at hgw
        · rename_i t ht
          split at hgw
          · rename_i b hb
            simp only [Option.some.injEq, beq_iff_eq] at hgw
            have hgv : gv ops E j = some b := by
              unfold gsl at ht
              unfold gv
              cases ho : ops[j]? with
              | none => rw [ho] at ht; cases ht
              | some oj => rw [ho] at ht; simp only [Option.bind_some] at ht; simp only [ht, hb]
            exact WPO.guard hg hgv (fun _ => run { o with guard := none } rfl rfl rfl v s1 hx1 hx) fun h => absurd hgw h
          · cases hgw
          · cases hgw
        · cases hgw
    · rename_i hw
      have hgw := xwR he hw
      cases hg : o.guard with
      | none => unfold gWant at hgw; rw [hg] at hgw; cases hgw
      | some jw =>
        obtain ⟨j, want⟩ := jw
        unfold gWant at hgw
        rw [hg] at hgw
        simp only [] at hgw
        split at hgw
        · rename_i t ht
          split at hgw
          · rename_i b hb
            simp only [Option.some.injEq, beq_eq_false_iff_ne, ne_eq] at hgw
            have hgv : gv ops E j = some b := by
              unfold gsl at ht
              unfold gv
              cases ho : ops[j]? with
              | none => rw [ho] at ht; cases ht
              | some oj => rw [ho] at ht; simp only [Option.bind_some] at ht; simp only [ht, hb]
            exact WPO.guard hg hgv (fun h => absurd h hgw) fun _ => idle hx
          · rename_i hb
            exact WPO.unguarded hg ht hb (idle hx)
          · cases hgw
        · cases hgw
    · cases hx
end
end Go.Xv
/- Xe, part M: what the machine does is so: drawn regions. Over any program; no condition. -/
namespace Go.Xv
open Go Go.Lv
set_option linter.unusedVariables false
set_option linter.unusedSimpArgs false
set_option maxRecDepth 4000
section
variable {bs : LP} {m m' : VM} {s s' : XS} {B B' : Box} {H H' : OHeap} {e e' : ET} {E E' : Env} {T : Tab} {x y v a b : LV} {P : Program} {o : Oper} {ρ : Option Nat} {N : Nat}
theorem beqs_base : ∀ {xs ys zs : List LV}, LV.beqs xs ys = true → Tvs m ys zs → zs = ys
  | [], ys, zs, h, ht => by cases ys with | nil => exact ht.nil_inv | cons => simp [LV.beqs] at h
  | x :: xs, [], zs, h, ht => by simp [LV.beqs] at h
  | x :: xs, y :: ys, zs, h, ht => by
    simp only [LV.beqs, Bool.and_eq_true] at h
    obtain ⟨z, zs', rfl, h1, h2⟩ := ht.cons_inv
    have : base y = true := by
      have h := h.1
      unfold LV.beq1 at h
      split at h <;> first | rfl | cases h
    rw [h1.base_inv this, beqs_base h.2 h2]
theorem beqss_eq : ∀ {xs ys zs : List (List LV)}, beqss xs ys = true → zs.length = ys.length → (∀ (i : Nat) x y, ys[i]? = some x → zs[i]? = some y → y.length = x.length) →
    (∀ (i j : Nat) x y a b, ys[i]? = some x → zs[i]? = some y → x[j]? = some a → y[j]? = some b → Tv m a b) → xs = ys ∧ zs = ys
  | [], ys, zs, h, hl, _, _ => by
    cases ys with
    | nil => exact ⟨rfl, List.eq_nil_of_length_eq_zero hl⟩
    | cons => simp [beqss] at h
  | x :: xs, [], zs, h, _, _, _ => by simp [beqss] at h
  | x :: xs, y :: ys, [], h, hl, _, _ => by simp at hl
  | x :: xs, y :: ys, z :: zs, h, hl, he, ht => by
    simp only [beqss, Bool.and_eq_true] at h
    obtain ⟨h1, h2⟩ := beqss_eq h.2 (zs := zs) (by simpa using hl) (fun i a b ha hb => he (i + 1) a b (by simpa using ha) (by simpa using hb)) fun i j a b u w ha hb => ht (i + 1) j a b u w (by simpa using ha) (by simpa using hb)
    have h3 := LV.beqs_eq h.1
    have h4 : z = y := beqs_base h.1 ⟨he 0 y z rfl rfl, fun j a b ha hb => ht 0 j y z a b rfl rfl ha hb⟩
    exact ⟨by rw [h3, h1], by rw [h4, h2]⟩
theorem beq1_base (h : x.beq1 y = true) : x = y ∧ base x = true := by
  refine ⟨LV.beq1_eq h, ?_⟩
  unfold LV.beq1 at h
  split at h <;> first | rfl | cases h
/-- The same number's value is the same. -/
theorem same1R (h : same1 x y = true) (ha : TvE m B x a) (hb : TvE m B y b) : a = b := by
  unfold same1 at h
  split at h
  · simp only [Bool.and_eq_true, beq_iff_eq] at h
    obtain ⟨rfl, rfl⟩ := h
    have ha := ha.hand rfl
    have hb := hb.hand rfl
    cases ha with
    | base _ h => simp [Xv.base] at h
    | ptr _ _ i hi => cases hb with
      | base _ h => simp [Xv.base] at h
      | ptr _ _ j hj => rw [hi] at hj; cases hj; rfl
  · simp only [Bool.and_eq_true, Bool.or_eq_true, beq_iff_eq, bne_iff_ne, ne_eq] at h
    obtain ⟨⟨⟨⟨rfl, rfl⟩, rfl⟩, rfl⟩, hk⟩ := h
    have ha := ha.hand rfl
    have hb := hb.hand rfl
    cases ha with
    | base _ h => simp [Xv.base] at h
    | sl _ _ _ _ o1 c1 i hi hl1 hk1 => cases hb with
      | base _ h => simp [Xv.base] at h
      | sl _ _ _ _ o2 c2 j hj hl2 hk2 =>
        rw [hi] at hj; cases hj
        have : o1 = o2 ∧ c1 = c2 := by
          rcases hk1 with ⟨e1, e2, e3⟩ | ⟨e1, e2, e3, e4, e5, e6⟩
          · rcases hk2 with ⟨f1, f2, f3⟩ | ⟨f1, _⟩
            · exact ⟨by omega, by omega⟩
            · omega
          · rcases hk2 with ⟨f1, _⟩ | ⟨f1, f2, f3, f4, f5, f6⟩
            · omega
            · refine ⟨by omega, ?_⟩
              have : c1 * i.es = c2 * i.es := by omega
              exact Nat.eq_of_mul_eq_mul_right e5 this
        obtain ⟨rfl, rfl⟩ := this
        rfl
  · simp only [Bool.and_eq_true, beq_iff_eq] at h
    obtain ⟨⟨rfl, rfl⟩, h⟩ := h
    have ha := ha.hand rfl
    have hb := hb.hand rfl
    cases hb with
    | base _ h => simp [Xv.base] at h
    | isl _ _ _ zs hl he hh =>
      obtain ⟨h1, h2⟩ := beqss_eq h hl he hh
      subst h1; subst h2
      cases ha with
      | base _ h => simp [Xv.base] at h
      | isl _ _ _ zs' hl' he' hh' => rw [(beqss_eq h hl' he' hh').2]
  · simp only [Bool.and_eq_true, beq_iff_eq] at h
    obtain ⟨⟨⟨rfl, rfl⟩, rfl⟩, rfl⟩ := h
    rcases ha with ha | ha | ⟨d1, v1, o1, h1, rfl, h3, _⟩
    · cases ha; rename_i hb; simp [Xv.base] at hb
    · cases ha
    · rcases hb with hb | hb | ⟨d2, v2, o2, g1, rfl, g3, _⟩
      · cases hb; rename_i hb; simp [Xv.base] at hb
      · cases hb
      · cases h1; cases g1; rw [← h3, ← g3]
  · simp only [beq_iff_eq] at h
    subst h
    have ha := ha.hand rfl
    have hb := hb.hand rfl
    cases ha with
    | base _ h => simp [Xv.base] at h
    | mp _ i hi => cases hb with
      | base _ h => simp [Xv.base] at h
      | mp _ j hj => rw [hi] at hj; cases hj; rfl
  · obtain ⟨rfl, h2⟩ := beq1_base h
    rw [ha.base_inv h2, hb.base_inv h2]
theorem samesR : ∀ {xs ys us ws : List LV}, sames xs ys = true → Tvs m xs us → Tvs m ys ws → us = ws
  | [], ys, us, ws, h, h1, h2 => by
    cases ys with
    | nil => rw [h1.nil_inv, h2.nil_inv]
    | cons => simp [sames] at h
  | x :: xs, [], us, ws, h, h1, h2 => by simp [sames] at h
  | x :: xs, y :: ys, us, ws, h, h1, h2 => by
    simp only [sames, Bool.and_eq_true] at h
    obtain ⟨u, us', rfl, a1, a2⟩ := h1.cons_inv
    obtain ⟨w, ws', rfl, b1, b2⟩ := h2.cons_inv
    rw [same1R (B := nobox) h.1 (.inl a1) (.inl b1), samesR h.2 a2 b2]
theorem sameR (h : same x y = true) (ha : TvE m B x a) (hb : TvE m B y b) : a = b := by
  unfold same at h
  split at h
  · have ha := ha.hand rfl
    have hb := hb.hand rfl
    cases ha with
    | base _ h => simp [Xv.base] at h
    | tup _ us hl hh => cases hb with
      | base _ h => simp [Xv.base] at h
      | tup _ ws hl' hh' => rw [samesR h (show Tvs m _ us from ⟨hl, hh⟩) (show Tvs m _ ws from ⟨hl', hh'⟩)]
  · have ha := ha.hand rfl
    have hb := hb.hand rfl
    cases ha with
    | base _ h => simp [Xv.base] at h
    | agg _ us hl hh => cases hb with
      | base _ h => simp [Xv.base] at h
      | agg _ ws hl' hh' => rw [samesR h (show Tvs m _ us from ⟨hl, hh⟩) (show Tvs m _ ws from ⟨hl', hh'⟩)]
  · exact same1R h ha hb
theorem pvR (hT : TOK P T) {ops : Array Oper} (r : Rel bs m s B H) (he : EnvR m B e E) (hx : pvX T ops.toList o e s = some v) : ∃ y, pvG T ops o E B H = some y ∧ TvE m B v y := by
  unfold pvX at hx
  unfold pvG
  split at hx
  · rename_i hw
    rw [xwR he hw]
    split at hx <;> try cases hx
    rename_i hp
    split at hx <;> cases hx
    rename_i s1 h1
    obtain ⟨_, y, h2, h3⟩ := pureR hT r he hp h1
    exact ⟨y, h2, h3⟩
  · rename_i hw
    rw [xwR he hw]
    cases hx
    exact ⟨.tup [], rfl, tupR⟩
  · cases hx
theorem stabR (hT : TOK P T) {ops : Array Oper} (r : Rel bs m s B H) (he : EnvR m B e E) (hle : Mle m m') (hB : BLe B B') (r' : Rel bs m' s' B' H') (he' : EnvR m' B' e' E') : ∀ (l : List Nat), stabX T ops.toList e s e' s' l = true → stab T ops E B H E' B' H' l
  | [], h => trivial
  | k :: l, h => by
    unfold stabX at h
    unfold stab
    rw [Array.getElem?_toList] at h
    cases ho : ops[k]? with
    | none => rw [ho] at h; exact ⟨trivial, stabR hT r he hle hB r' he' l h⟩
    | some o =>
      rw [ho] at h
      simp only [] at h ⊢
      split at h
      · rename_i x y hx hy
        split at h
        · rename_i hs
          obtain ⟨a, a1, a2⟩ := pvR hT r he hx
          obtain ⟨b, b1, b2⟩ := pvR hT r' he' hy
          exact ⟨by rw [a1, b1, sameR hs (a2.mono hle hB) b2], stabR hT r he hle hB r' he' l h⟩
        · cases h
      · cases h
theorem drR {call : Cl} {yh : Yh} (hT : TOK P T) (hc : CallOK P call) {ops : Array Oper} : ∀ (plan : Plan) (m : VM) (e : ET) (E : Env) (s : XS) (B : Box) (H : OHeap) (Q : KPost), YhOK P yh bs m → Rel bs m s B H → EnvR m B e E →
    exDr T call yh ops.toList plan e s = some (e', s') → GotE bs m B e' s' Q → vcD P T ops plan Q E B H
  | [], m, e, E, s, B, H, Q, hy, r, he, hx, hq => by
    simp only [exDr, Option.some.injEq, Prod.mk.injEq] at hx
    obtain ⟨rfl, rfl⟩ := hx
    exact hq m E B H (Mle.refl m) (BLe.refl B) he r
  | a :: plan, m, e, E, s, B, H, Q, hy, r, he, hx, hq => by
    unfold exDr at hx
    unfold vcD
    rw [Array.getElem?_toList] at hx
    cases ho : ops[a.1]? with
    | none => rw [ho] at hx; cases hx
    | some o =>
      rw [ho] at hx
      simp only [] at hx ⊢
      split at hx <;> try cases hx
      rename_i e1 s1 h1
      split at hx <;> try cases hx
      rename_i hst
      have fin : ∀ v x m1 B1 H1, e1 = setE e o.dst v → Mle m m1 → BLe B B1 → TvE m1 B1 v x → Rel bs m1 s1 B1 H1 → stab T ops E B H (updo E o.dst x) B1 H1 a.2 ∧ vcD P T ops plan Q (updo E o.dst x) B1 H1 := fun v x m1 B1 H1 h2 h3 h4 h5 h6 => by
        have he1 : EnvR m1 B1 e1 (updo E o.dst x) := by rw [h2]; exact (he.mono h3 h4).put h5 o.dst
        exact ⟨stabR hT r he h3 h4 h6 he1 a.2 hst, drR hT hc plan m1 e1 _ s1 B1 H1 Q (hy.mono h3) h6 he1 hx fun m'' E' B'' H'' g1 g2 g3 g4 => hq m'' E' B'' H'' (h3.trans g1) (h4.trans g2) g3 g4⟩
      unfold exOs at h1
      unfold oneG
      split at h1
      · rename_i hw
        rw [xwR he hw]
        split at h1 <;> try cases h1
        rename_i v h2
        exact oneR (ρ := none) (N := 0) (dr := true) hT hc hy r he h2 fun m1 x B1 H1 g1 g2 g3 g4 => fin v x m1 B1 H1 rfl g1 g2 g3 g4
      · rename_i hw
        rw [xwR he hw]
        simp only [exOs, Option.some.injEq, Prod.mk.injEq] at h1
        obtain ⟨rfl, rfl⟩ := h1
        exact fin (.tup []) (.tup []) m B H rfl (Mle.refl m) (BLe.refl B) tupR r
      · cases h1
theorem no_bp {d k off : Nat} : ¬ Tv m (.bp d k off) y := fun h => by cases h; rename_i hb; simp [Xv.base] at hb
/-! ### Boxes become blocks -/
theorem get_map {α : Type} (f : α → α) : ∀ (t : Tr α) (k : Nat), (t.map f).get k = (t.get k).map f
  | .em, k => rfl
  | .nd v l r, 0 => rfl
  | .nd v l r, k + 1 => by
    show (Tr.nd (v.map f) (l.map f) (r.map f)).get (k + 1) = _
    rw [Tr.get_nd, Tr.get_nd]
    split
    · exact get_map f l _
    · exact get_map f r _
theorem eget_map (d v : Nat) (i : Nat) : eget (e.map (nbx d v)) i = nbx d v (eget e i) := by
  unfold eget
  rw [get_map]
  cases e.get i <;> rfl
theorem WP.post {c : Code} {Q Q' : Post} (h : WP P ρ N c Q E B H) (hq : ∀ (x : Ex) (E : Env) (B : Box) (H : OHeap) (K : Know) (jj : Nat → Nat) (w : World) (tmps : Array Value), Q x E B H → Lv.Good K jj B H w → TE K jj B N E tmps → ∃ (E' : Env) (B' : Box) (H' : OHeap) (K' : Know) (jj' : Nat → Nat), Lv.Good K' jj' B' H' w ∧ TE K' jj' B' N E' tmps ∧ Fr (dom H B jj) w K (dom H' B' jj') w K' ∧ Q' x E' B' H') : WP P ρ N c Q' E B H := by
  intro hd n m K jj w a g t d
  refine wpIn_mono (h hd n m K jj w a g t d) ?_
  rintro ex a' w' ⟨x, K1, jj1, E1, B1, H1, h1, h2, h3, h4, h5, h6⟩
  obtain ⟨E2, B2, H2, K2, jj2, g1, g2, g3, g4⟩ := hq _ _ _ _ _ _ _ _ h6 h2 h3
  exact ⟨x, K2, jj2, E2, B2, H2, h1, g1, g2, h4.fr g3, h5.trans g3, g4⟩
theorem boxR' : ∀ (l : List (Nat × List LV)) (m : VM) (e : ET) (E : Env) (s : XS) (B : Box) (H : OHeap) (K : Know) (jj : Nat → Nat) (w : World) (tmps : Array Value), s.bx = l → Rel bs m s B H → EnvR m B e E → boxOut l e s = some (e', s') → Lv.Good K jj B H w → TE K jj B N E tmps →
    ∃ (E' : Env) (B' : Box) (H' : OHeap) (K' : Know) (jj' : Nat → Nat), Lv.Good K' jj' B' H' w ∧ TE K' jj' B' N E' tmps ∧ Fr (dom H B jj) w K (dom H' B' jj') w K' ∧ ∃ m', Mle m m' ∧ EnvR m' B' e' E' ∧ Rel bs m' s' B' H' ∧ s'.bx = []
  | [], m, e, E, s, B, H, K, jj, w, tmps, hl, r, he, hx, g, t => by
    simp only [boxOut, Option.some.injEq, Prod.mk.injEq] at hx
    obtain ⟨rfl, rfl⟩ := hx
    exact ⟨E, B, H, K, jj, g, t, Fr.refl _ _ _, m, Mle.refl m, he, r, hl⟩
  | (d, cs) :: l, m, e, E, s, B, H, K, jj, w, tmps, hl, r, he, hx, g, t => by
    unfold boxOut at hx
    split at hx <;> try cases hx
    rename_i hn
    obtain ⟨h1, cs', h2, h3⟩ := r.box1 d cs (by rw [hl]; simp [lkb])
    have hsome : (B d).2.isSome = true := by rw [h2]; rfl
    have hBd : B d = ((B d).1, some cs') := by rw [← h2]
    obtain ⟨g', hnb, f⟩ := g.nbox hBd
    have r0 : Rel bs m { s with bx := l } (delB B d) H := ⟨r.obj, r.lt, r.inj, r.loop, fun d' h => by
        rw [delB_apply]
        split
        · rfl
        · rename_i hne
          refine r.box0 d' ?_
          rw [hl]; unfold lkb; rw [if_neg (fun e => hne e.symm)]; exact h, fun d' c h => by
        have hne : d' ≠ d := fun e => by subst e; rw [hn] at h; cases h
        have := r.box1 d' c (by rw [hl]; unfold lkb; rw [if_neg (fun e => hne e.symm)]; exact h)
        rw [delB_apply, if_neg hne]; exact this, r.glob⟩
    have r1 := new_cells r0 (b := jj d) (n := cs'.length) (es := cs.length) hnb h3 h1 (by rw [h3.1]; exact Nat.le_refl _) (kn := cs.length + 1) (by rw [h3.1]; omega)
    have hmle := r0.mle ⟨jj d, 0, cs'.length, cs.length⟩
    have he1 : EnvR (setM m s.nx ⟨jj d, 0, cs'.length, cs.length⟩) (delB B d) (e.map (nbx d s.nx)) (nboxE d (B d).1 (jj d) E) := fun i => by
      rw [eget_map]
      simp only [nboxE]
      rcases he i with h | h | ⟨d', ver, off, h4, h5, h6, h7⟩
      · have hg := h.glob
        have e2 : nboxV d (B d).1 (jj d) (E i) = E i := by generalize E i = y at hg; cases y <;> first | rfl | simp [LV.glob] at hg
        rw [e2]
        by_cases hb : ∃ d' k off, eget e i = .bp d' k off
        · obtain ⟨d', k, off, hb⟩ := hb
          rw [hb] at h; exact absurd h no_bp
        · have e3 : nbx d s.nx (eget e i) = eget e i := by
            generalize eget e i = y at hb
            cases y <;> first | rfl | exact absurd ⟨_, _, _, rfl⟩ hb
          rw [e3]; exact .inl (h.mono hmle)
      · rw [h]; exact .inr (.inl rfl)
      · rw [h4, h5]
        simp only [nbx, nboxV]
        by_cases hd : d' = d
        · subst hd
          rw [if_pos rfl, if_pos ⟨rfl, h6.symm⟩]
          have := Tv.ptr (m := setM m s.nx ⟨jj d', 0, cs'.length, cs.length⟩) s.nx off ⟨jj d', 0, cs'.length, cs.length⟩ (setM_here _ _)
          simp only [Nat.zero_add] at this
          exact .inl this
        · rw [if_neg hd, if_neg (fun h => hd h.1)]
          exact .inr (.inr ⟨d', ver, off, rfl, rfl, by rw [delB_apply, if_neg hd]; exact h6, by rw [delB_apply, if_neg hd]; exact h7⟩)
    have t1 : TE K jj (delB B d) N (nboxE d (B d).1 (jj d) E) tmps := ⟨t.size, fun i => by
      have h1 := t.get i
      simp only [nboxE]
      cases he : E i with
      | bp d' ver' off =>
        rw [he] at h1
        simp only [nboxV]
        split
        · rename_i hc
          obtain ⟨rfl, rfl⟩ := hc
          rw [h1.2 rfl hsome]
          exact (R.ptr _ _).re
        · exact RE.delB h1
      | _ => rw [he] at h1; exact (h1.r (by simp)).re⟩
    obtain ⟨E', B', H', K', jj', g1, t2, f2, m', k1, k2, k3, k4⟩ := boxR' l _ _ _ _ _ _ K jj w tmps rfl r1 he1 hx g' t1
    exact ⟨E', B', H', K', jj', g1, t2, f.trans f2, m', hmle.trans k1, k2, k3, k4⟩
end
end Go.Xv
/- Xe, part N: what the machine does is so: code, functions. Over any program; no condition. -/
namespace Go.Xv
open Go Go.Lv
set_option linter.unusedVariables false
set_option linter.unusedSimpArgs false
set_option maxRecDepth 4000
/-- The plans of a body's drawn regions are sound. -/
def dokC (T : Tab) (N : Nat) (dt : Nat → Option DR) : Code → Bool
  | .region id ops true => match dt id with
    | some d => drawOk T N ops d.plan d.D d.pm
    | none => true
  | .seq a b => dokC T N dt a && dokC T N dt b
  | .cond _ a b => dokC T N dt a && dokC T N dt b
  | .block _ b => dokC T N dt b
  | .loop b => dokC T N dt b
  | .scope b => dokC T N dt b
  | .rangeFunc _ _ a b => dokC T N dt a && dokC T N dt b
  | _ => true
section
variable {bs : LP} {m m' : VM} {s s' : XS} {B B' : Box} {H H' : OHeap} {e e' : ET} {E E' : Env} {T : Tab} {x y v a b : LV} {P : Program} {o : Oper} {ρ : Option Nat} {N : Nat}
/-- Where the machine has come to. -/
def PostX (bs : LP) (m : VM) (z : Ex) (e' : ET) (s' : XS) : Post := fun x E' B' H' => x = z ∧ ∃ m', Mle m m' ∧ EnvR m' B' e' E' ∧ Rel bs m' s' B' H' ∧ s'.bx = []
theorem PostX.up {z : Ex} {x : Ex} (hle : Mle m m') (h : PostX bs m' z e' s' x E' B' H') : PostX bs m z e' s' x E' B' H' := by
  obtain ⟨h1, m'', h2, h3⟩ := h
  exact ⟨h1, m'', hle.trans h2, h3⟩
theorem Rel.b0 (r : Rel bs m s B H) (hb : s.bx = []) (d : Nat) : (B d).2 = none := r.box0 d (by rw [hb]; rfl)
theorem delBs_same : ∀ (l : List Oper) (B : Box), (∀ d, (B d).2 = none) → delBs B l = B
  | [], B, h => rfl
  | o :: r, B, h => by
    unfold delBs
    cases aslot o with
    | none => exact delBs_same r B h
    | some d =>
      have : delB B d = B := by
        funext i
        rw [delB_apply]
        split
        · rename_i e; subst e
          have := h i
          generalize hb : B i = p at this
          obtain ⟨p1, p2⟩ := p
          simp only [] at this ⊢; rw [this]
        · rfl
      simp only [this]
      exact delBs_same r B h
theorem setpsR : ∀ (ps : List Tmp) (xs ys : List LV) (e : ET) (E : Env), EnvR m B e E → Tvs m xs ys → EnvR m B (setpsX e ps xs) (setps E ps ys)
  | [], xs, ys, e, E, he, h => by simpa [setpsX] using he
  | p :: ps, [], ys, e, E, he, h => by rw [h.nil_inv]; exact he
  | p :: ps, x :: xs, ys, e, E, he, h => by
    obtain ⟨y, ys', rfl, h1, h2⟩ := h.cons_inv
    exact setpsR ps xs ys' _ _ (he.put (.inl h1) (some p)) h2
/-! ### Loops over functions: their records -/
def addL (bs : LP) (i : Nat) (o : LO) (od : Ex → LO) : LP := fun u => if u = i then some (o, od) else bs u
theorem Rel.newLoop (r : Rel bs m s B H) {l : Nat} (hl : H l = none) (hbr : s.br = none) {o : LO} {od : Ex → LO} : Rel (addL bs s.nx o od) (setM m s.nx ⟨l, 0, 0, 0⟩) { s with nx := s.nx + 1 } B (setH H l o) := by
  have hle := r.mle ⟨l, 0, 0, 0⟩
  have nm : m s.nx = none := r.lt _ (Nat.le_refl _)
  have nt : s.t.get s.nx = none := by
    cases h : s.t.get s.nx with
    | none => rfl
    | some o => obtain ⟨j, lo, h1, _⟩ := r.obj _ o h; rw [nm] at h1; cases h1
  have nbs : bs s.nx = none := by
    cases h : bs s.nx with
    | none => rfl
    | some p => obtain ⟨_, j, h1, _⟩ := r.loop _ p.1 p.2 h; rw [nm] at h1; cases h1
  have al : ∀ v, v ≠ s.nx → ((s.t.get v).isSome = true ∨ (addL bs s.nx o od v).isSome = true) → ((s.t.get v).isSome = true ∨ (bs v).isSome = true) := fun v hv h => by simpa [addL, hv] using h
  refine ⟨fun v o' h => ?_, fun v h => ?_, fun u v a b hu hv ha hb hab => ?_, fun v o' od' h => ?_, r.box0, fun d cs h => ?_, fun g hg => ?_⟩
  · obtain ⟨j, lo, h1, h2, h3⟩ := r.obj v o' h
    exact ⟨j, lo, hle _ _ h1, by rw [setH_apply, if_neg (r.ne hl (.inl (by simp [h])) h1)]; exact h2, h3.mono hle⟩
  · have h' : s.nx + 1 ≤ v := h
    simp only [setM]; rw [if_neg (by omega)]; exact r.lt v (by omega)
  · unfold setM at ha hb
    split at ha
    · split at hb
      · rename_i e1 e2; rw [e1, e2]
      · rename_i e1 e2; cases ha
        exact absurd hab.symm (r.ne hl (al v e2 hv) hb)
    · split at hb
      · rename_i e1 e2; cases hb
        exact absurd hab (r.ne hl (al u e1 hu) ha)
      · rename_i e1 e2
        exact r.inj u v a b (al u e1 hu) (al v e2 hv) ha hb hab
  · by_cases hv : v = s.nx
    · subst hv
      simp only [addL, if_true, Option.some.injEq, Prod.mk.injEq] at h
      obtain ⟨rfl, rfl⟩ := h
      exact ⟨nt, ⟨l, 0, 0, 0⟩, setM_here _ _, by simp [recOf, hbr]⟩
    · have hb : bs v = some (o', od') := by simpa [addL, hv] using h
      obtain ⟨h1, j, h2, h3⟩ := r.loop v o' od' hb
      exact ⟨h1, j, hle _ _ h2, by rw [setH_apply, if_neg (r.ne hl (.inr (by simp [hb])) h2)]; exact h3⟩
  · obtain ⟨h1, c, h2, h3⟩ := r.box1 d cs h
    exact ⟨h1, c, h2, h3.mono hle⟩
  · obtain ⟨j, h1, h2⟩ := r.glob g hg
    exact ⟨j, hle _ _ h1, h2⟩
/-- The record is taken out. -/
theorem Rel.outLoop {i l : Nat} {o : LO} {od : Ex → LO} (hi : bs i = none) (r : Rel (addL bs i o od) m s B H) (hm : m i = some ⟨l, 0, 0, 0⟩) {br : Option (Nat × Ex)} (hbr : br = none) (hs : s.br = none ∨ ∃ z, s.br = some (i, z)) : Rel bs m { s with br := br } B (delH H l) ∧ H l = some (recOf s.br i o od) := by
  subst hbr
  have up : ∀ v, ((s.t.get v).isSome = true ∨ (bs v).isSome = true) → ((s.t.get v).isSome = true ∨ (addL bs i o od v).isSome = true) := fun v h => by
    rcases h with h | h
    · exact .inl h
    · right; unfold addL; split
      · rfl
      · exact h
  have hself : (addL bs i o od i).isSome = true := by simp [addL]
  obtain ⟨h1, j, h2, h3⟩ := r.loop i o od (by simp [addL])
  rw [hm] at h2; cases h2
  have ne : ∀ v j, v ≠ i → ((s.t.get v).isSome = true ∨ (bs v).isSome = true) → m v = some j → j.b ≠ l := fun v j hv ha hj e => hv (r.inj v i j ⟨l, 0, 0, 0⟩ (up v ha) (.inr hself) hj hm e)
  refine ⟨⟨fun v o' h => ?_, r.lt, fun u v a b hu hv ha hb hab => r.inj u v a b (up u hu) (up v hv) ha hb hab, fun v o' od' h => ?_, r.box0, r.box1, r.glob⟩, h3⟩
  · obtain ⟨j, lo, g1, g2, g3⟩ := r.obj v o' h
    have hv : v ≠ i := fun e => by subst e; rw [h1] at h; cases h
    exact ⟨j, lo, g1, by rw [delH_apply, if_neg (ne v j hv (.inl (by simp [h])) g1)]; exact g2, g3⟩
  · have hv : v ≠ i := fun e => by subst e; rw [hi] at h; cases h
    obtain ⟨g1, j, g2, g3⟩ := r.loop v o' od' (by simp [addL, hv, h])
    refine ⟨g1, j, g2, ?_⟩
    rw [delH_apply, if_neg (ne v j hv (.inr (by simp [h])) g2), g3]
    rcases hs with hs | ⟨z, hs⟩
    · rw [hs]
    · rw [hs]; simp only [recOf]; rw [if_neg (fun e => hv e.symm)]
/-- .. and put in again. -/
theorem Rel.inLoop {i l : Nat} {o : LO} {od : Ex → LO} (r : Rel bs m s B H) (hm : m i = some ⟨l, 0, 0, 0⟩) (hl : H l = none) (hs : s.br = none) {br : Option (Nat × Ex)} (hbr : br = none ∨ ∃ z, br = some (i, z)) :
    Rel (addL bs i o od) m { s with br := br } B (setH H l (recOf br i o od)) := by
  have nt : s.t.get i = none := by
    cases h : s.t.get i with
    | none => rfl
    | some o => exact absurd rfl (r.ne hl (.inl (by simp [h])) hm)
  have nbs : bs i = none := by
    cases h : bs i with
    | none => rfl
    | some o => exact absurd rfl (r.ne hl (.inr (by simp [h])) hm)
  have al : ∀ v, v ≠ i → ((s.t.get v).isSome = true ∨ (addL bs i o od v).isSome = true) → ((s.t.get v).isSome = true ∨ (bs v).isSome = true) := fun v hv h => by simpa [addL, hv] using h
  refine ⟨fun v o' h => ?_, r.lt, fun u v a b hu hv ha hb hab => ?_, fun v o' od' h => ?_, r.box0, r.box1, r.glob⟩
  · obtain ⟨j, lo, g1, g2, g3⟩ := r.obj v o' h
    exact ⟨j, lo, g1, by rw [setH_apply, if_neg (r.ne hl (.inl (by simp [h])) g1)]; exact g2, g3⟩
  · by_cases e1 : u = i
    · by_cases e2 : v = i
      · rw [e1, e2]
      · subst e1; rw [hm] at ha; cases ha
        exact absurd hab.symm (r.ne hl (al v e2 hv) hb)
    · by_cases e2 : v = i
      · subst e2; rw [hm] at hb; cases hb
        exact absurd hab (r.ne hl (al u e1 hu) ha)
      · exact r.inj u v a b (al u e1 hu) (al v e2 hv) ha hb hab
  · by_cases hv : v = i
    · subst hv
      simp only [addL, if_true, Option.some.injEq, Prod.mk.injEq] at h
      obtain ⟨rfl, rfl⟩ := h
      exact ⟨nt, _, hm, by simp⟩
    · have hb : bs v = some (o', od') := by simpa [addL, hv] using h
      obtain ⟨h1, j, h2, h3⟩ := r.loop v o' od' hb
      refine ⟨h1, j, h2, ?_⟩
      rw [setH_apply, if_neg (r.ne hl (.inr (by simp [hb])) h2), h3, hs]
      rcases hbr with rfl | ⟨z, rfl⟩
      · rfl
      · simp only [recOf]; rw [if_neg (fun e => hv e.symm)]
theorem Rel.toB (r : Rel bs m s B H) (hb : s.bx = []) (hB : ∀ d, (B' d).2 = none) : Rel bs m s B' H := ⟨r.obj, r.lt, r.inj, r.loop, fun d _ => hB d, fun d cs h => (by rw [hb] at h; cases h), r.glob⟩
theorem Rel.bs0 (r : Rel bs m s B H) : bs s.nx = none := by
  cases h : bs s.nx with
  | none => rfl
  | some p => obtain ⟨_, j, h1, _⟩ := r.loop _ p.1 p.2 h; rw [r.lt _ (Nat.le_refl _)] at h1; cases h1
theorem set_del {l : Nat} {o : LO} (h : H l = some o) : setH (delH H l) l o = H := by
  funext i; simp only [setH_apply, delH_apply]; split
  · rename_i e; rw [e, h]
  · rfl
end
end Go.Xv
/- Xe, part O: what the machine does is so: the theorem. Over any program; no condition. -/
namespace Go.Xv
open Go Go.Lv
set_option linter.unusedVariables false
set_option linter.unusedSimpArgs false
set_option maxRecDepth 4000
section
variable {T : Tab} {P : Program} {N : Nat}
theorem brNone {bs : LP} {m : VM} {s : XS} {B : Box} {H : OHeap} (hs : s.br = none) (r : Rel bs m { s with br := none } B H) : Rel bs m s B H := r.ext (fun _ => rfl) rfl hs rfl
theorem exC_ok (hT : TOK P T) (hmo : P.follows .mixedOrders = true) {call : Cl} (hc : CallOK P call) (hen : ∀ yh f args s r, call yh f args s = some r → Enters P f) {dt : Nat → Option DR} {yh : Yh} :
    ∀ (c : Code) (tp : Bool) (ρ : Option Nat) (bs : LP) (m : VM) (e : ET) (E : Env) (s : XS) (B : Box) (H : OHeap) (z : Ex) (e' : ET) (s' : XS), (tp = true → ρ = none) → dokC T N dt c = true → YhOK P yh bs m →
      exC T call dt yh tp c e s = some (z, e', s') → EnvR m B e E → Rel bs m s B H → s.bx = [] → WP P ρ N c (PostX bs m z e' s') E B H
  | .skip, tp, ρ, bs, m, e, E, s, B, H, z, e', s', htp, hd, hy, hx, he, r, hb => by
    simp only [exC, Option.some.injEq, Prod.mk.injEq] at hx; obtain ⟨rfl, rfl, rfl⟩ := hx
    exact WP.skip ⟨rfl, m, Mle.refl m, he, r, hb⟩
  | .label _, tp, ρ, bs, m, e, E, s, B, H, z, e', s', htp, hd, hy, hx, he, r, hb => by
    simp only [exC, Option.some.injEq, Prod.mk.injEq] at hx; obtain ⟨rfl, rfl, rfl⟩ := hx
    exact WP.label ⟨rfl, m, Mle.refl m, he, r, hb⟩
  | .exit i, tp, ρ, bs, m, e, E, s, B, H, z, e', s', htp, hd, hy, hx, he, r, hb => by
    simp only [exC, Option.some.injEq, Prod.mk.injEq] at hx; obtain ⟨rfl, rfl, rfl⟩ := hx
    exact WP.exit ⟨rfl, m, Mle.refl m, he, r, hb⟩
  | .ret, tp, ρ, bs, m, e, E, s, B, H, z, e', s', htp, hd, hy, hx, he, r, hb => by
    simp only [exC, Option.some.injEq, Prod.mk.injEq] at hx; obtain ⟨rfl, rfl, rfl⟩ := hx
    exact WP.ret ⟨rfl, m, Mle.refl m, he, r, hb⟩
  | .region id ops false, tp, ρ, bs, m, e, E, s, B, H, z, e', s', htp, hd, hy, hx, he, r, hb => by
    simp only [exC] at hx
    split at hx <;> try cases hx
    rename_i e1 s1 h1
    split at hx <;> cases hx
    rename_i hb1
    exact WP.region (osR hT hc ops.toList m e E s B H _ hy r he h1 fun m' E' B' H' g1 g2 g3 g4 => ⟨rfl, m', g1, g3, g4, hb1⟩)
  | .region id ops true, tp, ρ, bs, m, e, E, s, B, H, z, e', s', htp, hd, hy, hx, he, r, hb => by
    simp only [exC] at hx
    simp only [dokC] at hd
    split at hx <;> try cases hx
    rename_i dr hdr
    rw [hdr] at hd
    simp only [] at hd
    split at hx <;> try cases hx
    rename_i e1 s1 h1
    split at hx <;> cases hx
    rename_i h2
    have hw : WP P ρ N (.region id ops true) (fun x E' B' H' => x = .norm ∧ ∃ m', Mle m m' ∧ EnvR m' B' e1 E' ∧ Rel bs m' s1 B' H') E B H := by
      refine WP.draw hT hmo dr.plan dr.D dr.pm hd ?_
      rw [delBs_same _ _ (r.b0 hb)]
      exact drR hT hc dr.plan m e E s B H _ hy r he h1 fun m' E' B' H' g1 g2 g3 g4 => ⟨rfl, m', g1, g3, g4⟩
    refine Xv.WP.post hw ?_
    rintro x E1 B1 H1 K jj w tmps ⟨rfl, m', g1, g2, g3⟩ g t
    obtain ⟨E2, B2, H2, K2, jj2, k1, k2, k3, m'', k4, k5, k6, k7⟩ := boxR' _ m' e1 E1 s1 B1 H1 K jj w tmps rfl g3 g2 h2 g t
    exact ⟨E2, B2, H2, K2, jj2, k1, k2, k3, rfl, m'', g1.trans k4, k5, k6, k7⟩
  | .seq a b, tp, ρ, bs, m, e, E, s, B, H, z, e', s', htp, hd, hy, hx, he, r, hb => by
    simp only [dokC, Bool.and_eq_true] at hd
    simp only [exC] at hx
    refine WP.seq ?_
    split at hx
    · rename_i e1 s1 h1
      refine (exC_ok hT hmo hc hen a tp ρ bs m e E s B H _ _ _ htp hd.1 hy h1 he r hb).mono ?_
      rintro x E1 B1 H1 ⟨rfl, m1, g1, g2, g3, g4⟩
      exact (exC_ok hT hmo hc hen b tp ρ bs m1 e1 E1 s1 B1 H1 _ _ _ htp hd.2 (hy.mono g1) hx g2 g3 g4).mono fun x e B H h => h.up g1
    · rename_i hne
      refine (exC_ok hT hmo hc hen a tp ρ bs m e E s B H _ _ _ htp hd.1 hy hx he r hb).mono ?_
      rintro x E1 B1 H1 ⟨rfl, g⟩
      cases x with
      | norm => exact absurd hx (hne _ _)
      | exit i => exact ⟨rfl, g⟩
      | ret => exact ⟨rfl, g⟩
  | .cond c a b, tp, ρ, bs, m, e, E, s, B, H, z, e', s', htp, hd, hy, hx, he, r, hb => by
    simp only [dokC, Bool.and_eq_true] at hd
    simp only [exC] at hx
    have hv := evR r he c
    split at hx
    · rename_i hcv
      rw [hcv] at hv
      exact WP.cond (hv.base_inv rfl) (fun _ => exC_ok hT hmo hc hen a tp ρ bs m e E s B H _ _ _ htp hd.1 hy hx he r hb) (fun h => by cases h)
    · rename_i hcv
      rw [hcv] at hv
      exact WP.cond (hv.base_inv rfl) (fun h => by cases h) (fun _ => exC_ok hT hmo hc hen b tp ρ bs m e E s B H _ _ _ htp hd.2 hy hx he r hb)
    · cases hx
  | .block i c, tp, ρ, bs, m, e, E, s, B, H, z, e', s', htp, hd, hy, hx, he, r, hb => by
    simp only [dokC] at hd
    simp only [exC] at hx
    refine WP.block ?_
    split at hx
    · rename_i j e1 s1 h1
      refine (exC_ok hT hmo hc hen c tp ρ bs m e E s B H _ _ _ htp hd hy h1 he r hb).mono ?_
      rintro x E1 B1 H1 ⟨rfl, g⟩
      split at hx <;> cases hx
      · rename_i hj; simp only [InBlock]; rw [if_pos hj]; exact ⟨rfl, g⟩
      · rename_i hj; simp only [InBlock]; rw [if_neg hj]; exact ⟨rfl, g⟩
    · rename_i hne
      refine (exC_ok hT hmo hc hen c tp ρ bs m e E s B H _ _ _ htp hd hy hx he r hb).mono ?_
      rintro x E1 B1 H1 ⟨rfl, g⟩
      cases x with
      | norm => exact ⟨rfl, g⟩
      | exit j => exact absurd hx (hne _ _ _)
      | ret => exact ⟨rfl, g⟩
  | .loop c, tp, ρ, bs, m, e, E, s, B, H, z, e', s', htp, hd, hy, hx, he, r, hb => by
    simp only [dokC] at hd
    simp only [exC] at hx
    refine WP.loop (fun k E B H => ∃ e s m1, iter (exC T call dt yh tp c) k e s = some (z, e', s') ∧ Mle m m1 ∧ EnvR m1 B e E ∧ Rel bs m1 s B H ∧ s.bx = []) 100000 ⟨e, s, m, hx, Mle.refl m, he, r, hb⟩ ?_
    rintro k E1 B1 H1 ⟨e1, s1, m1, h1, h2, h3, h4, h5⟩
    cases k with
    | zero => cases h1
    | succ k =>
      unfold iter at h1
      split at h1
      · rename_i e2 s2 g1
        refine (exC_ok hT hmo hc hen c tp ρ bs m1 e1 E1 s1 B1 H1 _ _ _ htp hd (hy.mono h2) g1 h3 h4 h5).mono ?_
        rintro x E2 B2 H2 ⟨rfl, m2, k1, k2, k3, k4⟩
        exact ⟨k, Nat.lt_succ_self k, e2, s2, m2, h1, h2.trans k1, k2, k3, k4⟩
      · rename_i hne
        refine (exC_ok hT hmo hc hen c tp ρ bs m1 e1 E1 s1 B1 H1 _ _ _ htp hd (hy.mono h2) h1 h3 h4 h5).mono ?_
        rintro x E2 B2 H2 ⟨rfl, g⟩
        cases x with
        | norm => exact absurd h1 (hne _ _)
        | exit i => exact PostX.up h2 ⟨rfl, g⟩
        | ret => exact PostX.up h2 ⟨rfl, g⟩
  | .scope c, tp, ρ, bs, m, e, E, s, B, H, z, e', s', htp, hd, hy, hx, he, r, hb => by
    simp only [dokC] at hd
    simp only [exC] at hx
    exact WP.scope (exC_ok hT hmo hc hen c tp ρ bs m e E s B H _ _ _ htp hd hy hx he r hb)
  | .rangeFunc g ps asg body, tp, ρ, bs, m, e, E, s, B, H, z, e', s', htp, hd, hy, hx, he, r, hb => by
    simp only [dokC, Bool.and_eq_true] at hd
    simp only [exC] at hx
    split at hx <;> try cases hx
    rename_i f caps hg
    have := htp rfl
    subst this
    split at hx <;> try cases hx
    rename_i hcap hbr
    split at hx <;> try cases hx
    rename_i v s1 hcall
    have hgv := evR r he g
    rw [hg] at hgv
    have hgv := hgv.hand rfl
    generalize hev : ev E g = gv at hgv
    cases hgv with
    | base _ hb => simp [Xv.base] at hb
    | fn _ _ _ fst' caps' hl hm h h' =>
      have : fst' = [] := List.eq_nil_of_length_eq_zero hl
      subst this
      have hcs : Tvs m caps caps' := ⟨hm, h'⟩
      refine WP.rangeFuncX hev (hen _ _ _ _ _ hcall) (r.b0 hb) fun l o od hl Y => ?_
      have r1 := r.newLoop hl hbr (o := o) (od := od)
      have hm1 : setM m s.nx ⟨l, 0, 0, 0⟩ s.nx = some ⟨l, 0, 0, 0⟩ := setM_here _ _
      have hle1 := r.mle ⟨l, 0, 0, 0⟩
      refine (hc _ _ _ _ _ _ hcall (addL bs s.nx o od) _ _ (.yld l :: caps') ?_ (r1.toB hb fun _ => rfl) hb (Tvs.cons (.yld _ _ hm1) (hcs.mono hle1))).mono ?_
      · -- what yield does
        intro i hh hi
        dsimp only at hi
        split at hi <;> cases hi
        rename_i hi
        subst hi
        refine ⟨_, hm1, fun m' s2 Hc xs ys b s3 hle rc hb2 hxs hhx => ?_⟩
        dsimp only at hhx
        split at hhx <;> try cases hhx
        rename_i hbr2 hlen
        split at hhx <;> try cases hhx
        rename_i e2 s4 ha
        split at hhx <;> try cases hhx
        rename_i z5 e5 s5 hbd
        split at hhx <;> try cases hhx
        rename_i hbr5
        obtain ⟨ro, hHl⟩ := Rel.outLoop r.bs0 rc (hle _ _ hm1) rfl (.inl hbr2)
        have ro := brNone hbr2 ro
        rw [hbr2] at hHl
        have hHl : Hc l = some o := hHl
        have rB : Rel bs m' s2 B (delH Hc l) := ro.toB hb2 (r.b0 hb)
        have hle' := hle1.trans hle
        have eR : EnvR m' B (setpsX e ps.toList xs) (setps E ps.toList ys) := setpsR _ _ _ _ _ (he.mono hle' (BLe.refl B)) hxs
        have hlen' : ys.length = ps.size := by rw [hxs.1]; exact Nat.eq_of_beq_eq_true hlen
        have W : WP P (some l) N asg (AsgQ P (some l) N body fun z _ _ H2 => z = z5 ∧ ∃ m2, Mle m' m2 ∧ Rel bs m2 s5 nobox H2 ∧ s5.bx = []) (setps E ps.toList ys) B (delH Hc l) := by
          refine (exC_ok hT hmo hc hen asg false (some l) bs m' _ _ s2 B (delH Hc l) _ _ _ (fun h => by cases h) hd.1 (hy.mono hle') ha eR rB hb2).mono ?_
          rintro x E3 B3 H3 ⟨rfl, m3, k1, k2, k3, k4⟩
          refine (exC_ok hT hmo hc hen body false (some l) bs m3 _ _ s4 B3 H3 _ _ _ (fun h => by cases h) hd.2 (hy.mono (hle'.trans k1)) hbd k2 k3 k4).mono ?_
          rintro x E4 B4 H4 ⟨rfl, m4, j1, j2, j3, j4⟩
          exact ⟨rfl, m4, k1.trans j1, j3.toB j4 fun _ => rfl, j4⟩
        have hYl := Y ys (delH Hc l) _ (by simp) hlen' W
        rw [set_del hHl] at hYl
        refine hYl.mono ?_
        rintro x H'' ⟨z2, H2, rfl, hn2, rfl, rfl, m2, j1, j2, j3⟩
        have hm2 := j1 _ _ (hle _ _ hm1)
        split at hhx <;> cases hhx
        · have := j2.inLoop (o := o) (od := od) hm2 hn2 hbr5 (br := none) (.inl rfl)
          exact ⟨rfl, m2, j1, j3, brNone hbr5 this⟩
        · rename_i hnn
          have := j2.inLoop (o := o) (od := od) hm2 hn2 hbr5 (br := some (s.nx, z2)) (.inr ⟨_, rfl⟩)
          refine ⟨by cases z2 <;> first | exact absurd rfl hnn | rfl, m2, j1, j3, ?_⟩
          have e1 : recL o od z2 = recOf (some (s.nx, z2)) s.nx o od := by cases z2 <;> first | exact absurd rfl hnn | simp [recL, recOf]
          rw [e1]; exact this
      · -- behind the iterator
        rintro x H' ⟨m2, j1, j2, j3, j4⟩
        have hm2 := j1 _ _ hm1
        split at hx
        · rename_i hbr1
          cases hx
          obtain ⟨ro, hHl⟩ := Rel.outLoop r.bs0 j4 hm2 rfl (.inl hbr1)
          rw [hbr1] at hHl
          refine ⟨.norm, delH H' l, (set_del hHl).symm, by simp, rfl, m2, hle1.trans j1, he.mono (hle1.trans j1) (BLe.refl B), ?_, j3⟩
          exact (brNone hbr1 ro).toB j3 (r.b0 hb)
        · rename_i w z0 hbr1
          split at hx
          · cases hx
          · rename_i hnn
            split at hx <;> cases hx
            rename_i hw
            subst hw
            obtain ⟨ro, hHl⟩ := Rel.outLoop (br := none) r.bs0 j4 hm2 rfl (.inr ⟨_, hbr1⟩)
            rw [hbr1] at hHl
            have e1 : recOf (some (s.nx, z)) s.nx o od = recL o od z := by cases z <;> first | exact absurd rfl hnn | simp [recL, recOf]
            rw [e1] at hHl
            exact ⟨z, delH H' l, (set_del hHl).symm, by simp, rfl, m2, hle1.trans j1, he.mono (hle1.trans j1) (BLe.refl B), ro.toB j3 (r.b0 hb), j3⟩
  | .goto _, tp, ρ, bs, m, e, E, s, B, H, z, e', s', htp, hd, hy, hx, he, r, hb => by cases hx
  | .refuse _, tp, ρ, bs, m, e, E, s, B, H, z, e', s', htp, hd, hy, hx, he, r, hb => by cases hx
/-! ### Functions -/
theorem res1R {bs : LP} {m : VM} {s : XS} {B : Box} {H : OHeap} {e : ET} {E : Env} (r : Rel bs m s B H) (he : EnvR m B e E) {rv : ResultVar} {x : LV} (hx : xres1 T s e rv = some x) : ∃ y, resOne T E B H rv = some y ∧ Tv m x y := by
  unfold xres1 at hx
  split at hx
  · rename_i t
    split at hx <;> cases hx
    rename_i hh
    have h := (he t).hand hh
    exact ⟨E t, by simp [resOne, h.glob], h⟩
  · rename_i a t
    exact loadR r (he a) hx
theorem ressR {bs : LP} {m : VM} {s : XS} {B : Box} {H : OHeap} {e : ET} {E : Env} (r : Rel bs m s B H) (he : EnvR m B e E) : ∀ {rs : List ResultVar} {xs : List LV}, xress T s e rs = some xs → ∃ ys, rs.mapM (resOne T E B H) = some ys ∧ Tvs m xs ys
  | [], xs, hx => by cases hx; exact ⟨[], rfl, Tvs.nil m⟩
  | rv :: rs, xs, hx => by
    unfold xress at hx
    split at hx <;> try cases hx
    rename_i v h1
    split at hx <;> cases hx
    rename_i vs h2
    obtain ⟨y, a1, a2⟩ := res1R r he h1
    obtain ⟨ys, b1, b2⟩ := ressR r he h2
    exact ⟨y :: ys, by simp [List.mapM_cons, a1, b1], Tvs.cons a2 b2⟩
theorem resR {bs : LP} {m : VM} {s : XS} {B : Box} {H : OHeap} {e : ET} {E : Env} (r : Rel bs m s B H) (he : EnvR m B e E) {rs : List ResultVar} {x : LV} (hx : xres T s e rs = some x) : ∃ y, resL T rs E B H = some y ∧ Tv m x y := by
  unfold xres at hx
  split at hx
  · exact res1R r he hx
  · rename_i hne
    split at hx <;> cases hx
    rename_i vs h1
    obtain ⟨ys, a1, a2⟩ := ressR r he h1
    refine ⟨.tup ys, ?_, .tup _ _ a2.1 a2.2⟩
    unfold resL
    split
    · rename_i rv; exact absurd rfl (hne rv)
    · rw [a1]; rfl
theorem eofR {m : VM} : ∀ (xs ys : List LV) (k : Nat) (e : ET) (E : Env), Tvs m xs ys → (∀ i, i < k → TvE m nobox (eget e i) (E i)) → (∀ i, k ≤ i → eget e i = .any) → ∀ i, TvE m nobox (eget (eofL xs k e) i) (if i < k then E i else ys.getD (i - k) .any)
  | [], ys, k, e, E, h, h1, h2, i => by
    rw [h.nil_inv]
    simp only [eofL]
    split
    · rename_i hi; exact h1 i hi
    · rename_i hi; exact .inr (.inl (h2 i (by omega)))
  | x :: xs, ys, k, e, E, h, h1, h2, i => by
    obtain ⟨y, ys', rfl, g1, g2⟩ := h.cons_inv
    simp only [eofL]
    have := eofR xs ys' (k + 1) (eset e k x) (fun i => if i = k then y else E i) g2 (fun i hi => by
      rw [eget_eset]
      split
      · exact .inl g1
      · exact h1 i (by omega)) (fun i hi => by rw [eget_eset, if_neg (by omega)]; exact h2 i (by omega)) i
    by_cases hi : i < k
    · rw [if_pos (by omega), if_neg (by omega)] at this
      rw [if_pos hi]; exact this
    · rw [if_neg hi]
      by_cases hk : i = k
      · subst hk
        rw [if_pos (by omega), if_pos rfl] at this
        simpa using this
      · rw [if_neg (by omega)] at this
        have e1 : i - k = (i - (k + 1)) + 1 := by omega
        rw [e1]; simpa using this
theorem argR {m : VM} {xs ys : List LV} (h : Tvs m xs ys) : EnvR m nobox (eofL xs 0 .em) (argEnv ys) := fun i => by
  have := eofR xs ys 0 .em (fun _ => .any) h (fun i hi => by omega) (fun i _ => by simp [eget, Tr.get_em]) i
  simpa [argEnv] using this
/-- What is asked of the program's bodies. -/
def fchk (T : Tab) (dt : FuncId → Nat → Option DR) : List Func → Nat → Bool
  | [], _ => true
  | fn :: r, i => (match fn.body with
    | some c => !(fn.name == "runtime.NumGoroutine") && dstOk fn.ntmps c && dokC T fn.ntmps (dt i) c
    | none => true) && fchk T dt r (i + 1)
theorem fchk_ok {dt : FuncId → Nat → Option DR} : ∀ {l : List Func} {k : Nat}, fchk T dt l k = true → ∀ {f : Nat} {fn : Func} {c : Code}, l[f]? = some fn → fn.body = some c → (fn.name == "runtime.NumGoroutine") = false ∧ dstOk fn.ntmps c = true ∧ dokC T fn.ntmps (dt (f + k)) c = true
  | [], k, h, f, fn, c, hf, hb => by simp at hf
  | g :: l, k, h, 0, fn, c, hf, hb => by
    simp at hf; subst hf
    simp only [fchk, hb, Bool.and_eq_true, Bool.not_eq_true'] at h
    exact ⟨h.1.1.1, h.1.1.2, by rw [Nat.zero_add]; exact h.1.2⟩
  | g :: l, k, h, f + 1, fn, c, hf, hb => by
    simp only [fchk, Bool.and_eq_true] at h
    have := fchk_ok h.2 (f := f) (by simpa using hf) hb
    rw [show f + 1 + k = f + (k + 1) by omega]; exact this
/-- A function that is not walked, but whose contract is known. -/
def IntrOK (P : Program) (f : FuncId) (g : List LV → XS → XR) : Prop := Enters P f ∧ ∀ args s v s', g args s = some (v, s') → ∀ bs m H args', Rel bs m s nobox H → s.bx = [] → Tvs m args args' →
  CallL P f args' H fun x H' => ∃ m', Mle m m' ∧ Tv m' v x ∧ s'.bx = [] ∧ Rel bs m' s' nobox H'
/-- THE MACHINE IS RIGHT. -/
theorem exF_ok (hT : TOK P T) (hmo : P.follows .mixedOrders = true) {dt : FuncId → Nat → Option DR} {intr : FuncId → Option (List LV → XS → XR)} (hI : ∀ f g, intr f = some g → IntrOK P f g) (hP : fchk T dt P.funcs.toList 0 = true) :
    ∀ n, CallOK P (exF P T dt intr n) ∧ ∀ yh f args s r, exF P T dt intr n yh f args s = some r → Enters P f
  | 0 => ⟨fun yh f args v s s' h => (by cases h), fun yh f args s r h => (by cases h)⟩
  | n + 1 => by
    obtain ⟨ih, ihe⟩ := exF_ok hT hmo hI hP n
    refine ⟨fun yh f args v s s' hx bs m H args' hy r hb ha => ?_, fun yh f args s r hx => ?_⟩
    · unfold exF at hx
      split at hx
      · rename_i g hg
        exact (hI f g hg).2 args s v s' hx bs m H args' r hb ha
      · split at hx <;> try cases hx
        rename_i fn hf
        split at hx <;> try cases hx
        rename_i c hc
        split at hx <;> try cases hx
        rename_i hle
        have hle : args.length ≤ fn.ntmps := Nat.le_of_ble_eq_true hle
        obtain ⟨k1, k2, k3⟩ := fchk_ok hP (f := f) (by rw [Array.getElem?_toList]; exact hf) hc
        rw [Nat.add_zero] at k3
        split at hx <;> try cases hx
        rename_i z e1 s1 hne h1
        split at hx <;> cases hx
        rename_i w hw
        refine CallL.of_WP hT hf hc k1 k2 (by rw [ha.1]; exact hle) ((exC_ok hT hmo ih ihe c true none bs m _ (argEnv args') s nobox H _ _ _ (fun _ => rfl) k3 hy h1 (argR ha) r hb).mono ?_)
        rintro x E1 B1 H1 ⟨rfl, m1, g1, g2, g3, g4⟩
        obtain ⟨y, j1, j2⟩ := resR g3 g2 hw
        have fin : ∃ r, resL T fn.results.toList E1 B1 H1 = some r ∧ Lv.Ends (fun x H' => ∃ m', Mle m m' ∧ Tv m' v x ∧ s'.bx = [] ∧ Rel bs m' s' nobox H') r H1 :=
          ⟨y, j1, Lv.Ends.of ⟨m1, g1, j2, g4, g3.toB g4 fun _ => rfl⟩⟩
        cases x with
        | exit i => first | exact (hne _ rfl).elim | exact absurd rfl (hne i) | exact (hne i rfl)
        | norm => exact fin
        | ret => exact fin
    · unfold exF at hx
      split at hx
      · rename_i g hg
        exact (hI f g hg).1
      · split at hx <;> try cases hx
        rename_i fn hf
        split at hx <;> try cases hx
        rename_i c hc
        obtain ⟨k1, _, _⟩ := fchk_ok hP (f := f) (by rw [Array.getElem?_toList]; exact hf) hc
        exact ⟨fn, hf, by rw [hc]; rfl, k1⟩
end
end Go.Xv
