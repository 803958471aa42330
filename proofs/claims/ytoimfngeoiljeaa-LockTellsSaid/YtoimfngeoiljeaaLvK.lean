/- Lv, part K: one operation, as one computed condition. Over any program; no condition. -/
import Derived.Test.YtoimfngeoiljeaaLvJ
namespace Go.Lv
open Go
set_option linter.unusedVariables false
set_option linter.unusedSimpArgs false

/-- What is there, and holds. -/
def ob {α : Type} (x : Option α) (Q : α → Prop) : Prop := match x with | some a => Q a | none => False
@[simp] theorem ob_some {α : Type} (a : α) (Q : α → Prop) : ob (some a) Q = Q a := rfl
@[simp] theorem ob_none {α : Type} (Q : α → Prop) : ob none Q = False := rfl
@[simp] theorem ob_ite {α : Type} (c : Prop) [Decidable c] (x : Option α) (Q : α → Prop) : ob (if c then x else none) Q = (c ∧ ob x Q) := by
  by_cases h : c <;> simp [h]
@[simp] theorem ob_ite' {α : Type} (c : Prop) [Decidable c] (x : Option α) (Q : α → Prop) : ob (if c then none else x) Q = (¬ c ∧ ob x Q) := by
  by_cases h : c <;> simp [h]
theorem ob_map {α β : Type} (f : α → β) (x : Option α) (Q : β → Prop) : ob (x.map f) Q = ob x fun a => Q (f a) := by cases x <;> rfl
theorem ob_bind {α β : Type} (f : α → Option β) (x : Option α) (Q : β → Prop) : ob (x.bind f) Q = ob x fun a => ob (f a) Q := by cases x <;> rfl
theorem ob_elim {α : Type} {x : Option α} {Q : α → Prop} (h : ob x Q) : ∃ a, x = some a ∧ Q a := by cases x with | none => exact h.elim | some a => exact ⟨a, rfl, h⟩
theorem ob_mono {α : Type} {x : Option α} {Q Q' : α → Prop} (h : ob x Q) (hq : ∀ a, Q a → Q' a) : ob x Q' := by cases x with | none => exact h.elim | some a => exact hq a h

def bpHere (B : Box) : LV → Bool
  | .bp d ver _ => decide ((B d).1 = ver) && (B d).2.isSome
  | _ => false

/-- An operation that hands back one value and turns nothing. -/
def pf (T : Tab) (o : Oper) (e : Env) (B : Box) (H : OHeap) : Option LV :=
  match o.op with
  | .move p => some (ev e p)
  | .assign p => some (ev e p)
  | .pick c p q => pfPick (ev e c) (ev e p) (ev e q)
  | .load t p => pfLoad T B H t (ev e p)
  | .nilCheck p => if (notNil (ev e p) || bpHere B (ev e p)) = true then some (ev e p) else none
  | .binOp op t p q _ => binL T op t (ev e p) (ev e q)
  | .unOp op _ p => pfUn op (ev e p)
  | .convert s d p => pfConv T s d (ev e p)
  | .fieldAddr s p f => pfFieldAddr T B s (ev e p) f
  | .field t p f => pfField T t (ev e p) f
  | .indexAddr t p i => pfIndexAddr T B t (ev e p) (ev e i)
  | .index t p i => pfIndex T t (ev e p) (ev e i)
  | .slice t p lo hi mx => pfSlice T t (ev e p) (lo.map (ev e)) (hi.map (ev e)) (mx.map (ev e))
  | .extract p i => pfExtract (ev e p) i
  | .makeInterface t p => pfIface T t (ev e p)
  | .makeFunc fn fst caps => pfFunc e fn fst caps
  | .build t ps => pfBuild T e t ps
  | .buildSlice t n ps => pfBuildSlice T e t n ps
  | .call c => match c.callee, c.args.toList, c.argTypes.toList with
    | .builtin .len, [p], [t] => pfLen T H t (ev e p)
    | .builtin .cap, [p], [t] => pfCap T t (ev e p)
    | .builtin .min, [p, q], [_, _] => pfMin (ev e p) (ev e q)
    | .builtin .max, [p, q], [_, _] => pfMax (ev e p) (ev e q)
    | _, _, _ => none
  | _ => none

section
variable {P : Program} {ρ : Option Nat} {N : Nat} {o : Oper} {e : Env} {B : Box} {H : OHeap} {x : LV} {T : Tab}

theorem arr1 {α : Type} {l : Array α} {a : α} (h : l.toList = [a]) : l = #[a] := by apply Array.ext'; simpa using h
theorem arr2 {α : Type} {l : Array α} {a b : α} (h : l.toList = [a, b]) : l = #[a, b] := by apply Array.ext'; simpa using h

theorem pf_sound (hT : TOK P T) (h : pf T o e B H = some x) : Yields P o e B H x := by
  unfold pf at h
  split at h
  · rename_i p ho; simp at h; subst h; exact pf_move (.inl ho)
  · rename_i p ho; simp at h; subst h; exact pf_move (.inr ho)
  · rename_i c p q ho; exact pf_pick ho h
  · rename_i t p ho; exact pf_load hT ho h
  · rename_i p ho
    split at h
    · rename_i hc
      simp at h; subst h
      simp only [Bool.or_eq_true] at hc
      rcases hc with hc | hc
      · exact pf_nilCheck ho hc
      · unfold bpHere at hc
        split at hc
        · rename_i d ver off hev
          simp only [Bool.and_eq_true, decide_eq_true_eq] at hc
          rw [hev]
          exact pf_nilCheck_bp ho hev hc.1 hc.2
        · simp at hc
    · simp at h
  · rename_i op t p q yt ho; exact pf_binOp hT ho h
  · rename_i op t p ho; exact pf_un ho h
  · rename_i s d p ho; exact pf_conv hT ho h
  · rename_i s p f ho; exact pf_fieldAddr hT ho h
  · rename_i t p f ho; exact pf_field hT ho h
  · rename_i t p i ho; exact pf_indexAddr hT ho h
  · rename_i t p i ho; exact pf_index hT ho h
  · rename_i t p lo hi mx ho; exact pf_slice hT ho h
  · rename_i p i ho; exact pf_extract ho h
  · rename_i t p ho; exact pf_iface hT ho h
  · rename_i fn fst caps ho; exact pf_func ho h
  · rename_i t ps ho; exact pf_build hT ho h
  · rename_i t n ps ho; exact pf_buildSlice hT ho h
  · rename_i c ho
    split at h
    · rename_i p t hc ha ht
      obtain ⟨cal, args, ats⟩ := c
      simp only at hc ha ht
      subst hc; rw [arr1 ha, arr1 ht] at ho
      exact pf_len hT ho h
    · rename_i p t hc ha ht
      obtain ⟨cal, args, ats⟩ := c
      simp only at hc ha ht
      subst hc; rw [arr1 ha, arr1 ht] at ho
      exact pf_cap hT ho h
    · rename_i p q t u hc ha ht
      obtain ⟨cal, args, ats⟩ := c
      simp only at hc ha ht
      subst hc; rw [arr2 ha, arr2 ht] at ho
      exact pf_min ho h
    · rename_i p q t u hc ha ht
      obtain ⟨cal, args, ats⟩ := c
      simp only at hc ha ht
      subst hc; rw [arr2 ha, arr2 ht] at ho
      exact pf_max ho h
    · simp at h
  · simp at h

/-- Where cells are written. -/
def stL (B : Box) (H : OHeap) (p : LV) (ns : List LV) (Q : Box → OHeap → Prop) : Prop :=
  match p with
  | .bp d ver off => (B d).1 = ver ∧ match (B d).2 with
    | some cs => off + ns.length ≤ cs.length ∧ Q (setB B d (seg cs off ns)) H
    | none => False
  | .ptr b off => match H b with
    | some (.cells cs n) => (off ≤ cs.length ∧ off + ns.length ≤ n) ∧ Q B (setH H b (.cells (seg cs off ns) n))
    | _ => False
  | _ => False

/-- An operation that calls nobody, as a condition. -/
def opS (T : Tab) (o : Oper) (e : Env) (B : Box) (H : OHeap) (Q : LV → Box → OHeap → Prop) : Prop :=
  match o.op with
  | .alloc t => match o.dst, T t with
    | some d, some ti => Q (.bp d ((B d).1 + 1) 0) (newB B d ti.zero) H
    | _, _ => False
  | .box _ x => match o.dst, lcells (ev e x) with
    | some d, some cs => Q (.bp d ((B d).1 + 1) 0) (newB B d cs) H
    | _, _ => False
  | .store t p x => match T t, lcells (ev e x) with
    | some ti, some ns => ns.length = ti.size ∧ stL B H (ev e p) ns fun B' H' => Q .any B' H'
    | _, _ => False
  | .makeSlice t l c => match T t with
    | some ti => match ti.kind with
      | .slice el => match T el, ev e l, ev e c with
        | some ei, .int _ ln, .int _ cn => (0 ≤ ln ∧ ln ≤ cn ∧ (ei.bytes : Int) * cn ≤ 281474976710656 ∧ cn ≤ 9223372036854775807) ∧
            ∀ b, H b = none → Q (.sl b 0 ln.toNat cn.toNat) B (setH H b (.cells (zerosL ei.zero cn.toNat) (cn.toNat * ei.size)))
        | _, _, _ => False
      | _ => False
    | none => False
  | .call c => match c.callee, c.args.toList, c.argTypes.toList with
    | .builtin .append, [s, x], [t, tx] => match T t, T tx with
      | some ti, some tix => match ti.kind with
        | .slice el => match T el with
          | some ei => srcKind tix.kind (ev e x) ∧ appL H ei.size ei.bytes (ev e s) (ev e x) fun r H' => Q r B H'
          | none => False
        | _ => False
      | _, _ => False
    | .builtin .copy, [s, x], [t, _] => match T t with
      | some ti => match ti.kind with
        | .slice el => match T el, ev e s with
          | some ei, .sl b off len cap => (match ev e x with | .str _ => False | _ => True) ∧ match H b, srcL H ei.size (ev e x) with
            | some (.cells cs m), some (n, ns) => (ns.all LV.one = true ∧ off ≤ cs.length ∧ off + min n len * ei.size ≤ m) ∧
                Q (.int .i64 (min n len : Nat)) B (setH H b (.cells (seg cs off (ns.take (min n len * ei.size))) m))
            | _, _ => False
          | _, _ => False
        | _ => False
      | none => False
    | .builtin .clear, [s], [t] => match T t with
      | some ti => match ti.kind with
        | .slice el => match T el, ev e s with
          | some ei, .sl b off len cap => match H b with
            | some (.cells cs m) => (off ≤ cs.length ∧ off + len * ei.size ≤ m) ∧ Q (.tup []) B (setH H b (.cells (seg cs off (zerosL ei.zero len)) m))
            | _ => False
          | _, _ => False
        | _ => False
      | none => False
    | _, _, _ => ob (pf T o e B H) fun x => Q x B H
  | _ => ob (pf T o e B H) fun x => Q x B H

theorem ob_step (hT : TOK P T) {Q : LV → Box → OHeap → Prop} (h : ob (pf T o e B H) fun x => Q x B H) : Step P o e B H Q := by
  obtain ⟨x, hx, hq⟩ := ob_elim h
  exact (pf_sound hT hx).step hq

theorem opS_sound (hT : TOK P T) {Q : LV → Box → OHeap → Prop} (h : opS T o e B H Q) : Step P o e B H Q := by
  unfold opS at h
  split at h
  · rename_i t ho
    split at h
    · rename_i d ti hd hti; exact step_alloc hT ho hd hti h
    · exact h.elim
  · rename_i t p ho
    split at h
    · rename_i d cs hd hcs; exact step_box ho hd hcs h
    · exact h.elim
  · rename_i t p y ho
    split at h
    · rename_i ti ns hti hns
      obtain ⟨hsz, h⟩ := h
      unfold stL at h
      split at h
      · rename_i d ver off hev
        obtain ⟨hv, h⟩ := h
        split at h
        · rename_i cs hcs
          exact step_store_box hT ho hev (by rw [← hv, ← hcs]) hti hns hsz h.1 h.2
        · exact h.elim
      · rename_i b off hev
        split at h
        · rename_i cs n hH
          exact step_store_ptr hT ho hev hH hti hns hsz h.1.1 h.1.2 h.2
        · exact h.elim
      · exact h.elim
    · exact h.elim
  · rename_i t l c ho
    split at h
    · rename_i ti hti
      split at h
      · rename_i el hk
        split at h
        · rename_i ei kl ln kc cn hei hl hc
          obtain ⟨⟨h0, hlc, hb, h63⟩, h⟩ := h
          exact step_makeSlice hT ho hti hk hei hl hc h0 hlc hb h63 h
        · exact h.elim
      · exact h.elim
    · exact h.elim
  · rename_i c ho
    split at h
    · rename_i s x t tx hc ha ht
      obtain ⟨cal, args, ats⟩ := c
      simp only at hc ha ht
      subst hc; rw [arr2 ha, arr2 ht] at ho
      split at h
      · rename_i ti tix hti htix
        split at h
        · rename_i el hk
          split at h
          · rename_i ei hei
            exact step_append hT ho hti hk hei htix h.1 h.2
          · exact h.elim
        · exact h.elim
      · exact h.elim
    · rename_i s x t tx hc ha ht
      obtain ⟨cal, args, ats⟩ := c
      simp only at hc ha ht
      subst hc; rw [arr2 ha, arr2 ht] at ho
      split at h
      · rename_i ti hti
        split at h
        · rename_i el hk
          split at h
          · rename_i ei b off len cap hei hs
            obtain ⟨hstr, h⟩ := h
            split at h
            · rename_i cs m n ns hH hsrc
              exact step_copy hT ho hti hk hei hs hH hsrc (fun s hx => by rw [hx] at hstr; exact hstr) h.1.1 h.1.2.1 h.1.2.2 h.2
            · exact h.elim
          · exact h.elim
        · exact h.elim
      · exact h.elim
    · rename_i s t hc ha ht
      obtain ⟨cal, args, ats⟩ := c
      simp only at hc ha ht
      subst hc; rw [arr1 ha, arr1 ht] at ho
      split at h
      · rename_i ti hti
        split at h
        · rename_i el hk
          split at h
          · rename_i ei b off len cap hei hs
            split at h
            · rename_i cs m hH
              exact step_clear hT ho hti hk hei hs hH h.1.1 h.1.2 h.2
            · exact h.elim
          · exact h.elim
        · exact h.elim
      · exact h.elim
    · exact ob_step hT h
  · exact ob_step hT h

/-- One operation of a list, whatever it is. -/
def One (P : Program) (ρ : Option Nat) (N : Nat) (o : Oper) (e : Env) (B : Box) (H : OHeap) (Q : LV → Box → OHeap → Prop) : Prop :=
  opDst N o = true → ∀ n m K jj w a, Good K jj B H w → TE K jj B N e a.tmps → Dok m (dom H B jj) w a.defers → ∀ (K' : Act → World → Prop) (Qx : Exit → Act → World → Prop),
    (∀ a' w' x K1 jj' B' H', Good K1 jj' B' H' w' → TE K1 jj' B' N (updo e o.dst x) a'.tmps → Dok m (dom H' B' jj') w' a'.defers → Fr (dom H B jj) w K (dom H' B' jj') w' K1 → Q x B' H' → K' a' w') →
    o.wpIn (Fw ρ) n P a w K' Qx

theorem One.of_step {Q : LV → Box → OHeap → Prop} (hdf : ∀ c, o.op ≠ .defer c) (h : Step P o e B H Q) : One P ρ N o e B H Q := by
  intro hdst n m K jj w a g t d K' Qx hK
  obtain ⟨nx, v, w', hrun, hnx, x, B', H', K1, jj', g', r', t', f, hq⟩ := h K jj w a N g t
  refine ⟨fun _ _ => trivial, ?_⟩
  rw [semAt_call hdf, hrun]
  have hput : Oper.uponIn (Fw ρ) n P o a K' Qx (.ok nx w') = K' (a.put o.dst v) w' := by
    rcases hnx with rfl | ⟨rfl, rfl⟩ <;> rfl
  rw [hput]
  have hd : ∀ tt, o.dst = some tt → tt < N := fun tt ht => by simpa [opDst, ht] using hdst
  have hdef : (a.put o.dst v).defers = a.defers := by cases o.dst <;> rfl
  exact hK _ _ x K1 jj' B' H' g' (t'.put hd r') (by rw [hdef]; exact d.fr f) f hq

theorem One.of_call {c : Call} (ho : o.op = .call c) {g : FuncId} {args : List LV} (hc : callee e c = some (g, args)) (hgl : args.all LV.glob = true) {Q : LV → Box → OHeap → Prop}
    (h : CallL P g args H fun x H' => Q x B H') : One P ρ N o e B H Q := by
  intro hdst n m K jj w a g0 t d K' Qx hK
  obtain ⟨vs, hrs, hrun⟩ := run_callee (w := w) t ho hc hgl h.1
  refine ⟨fun _ _ => trivial, ?_⟩
  rw [semAt_call (by simp [ho]), hrun]
  refine ⟨fun h => by simp at h, ?_⟩
  have hcalls := h.2 K w vs g0.nobox hrs
  refine (show CallsIn (Fw ρ) (n - 1) P g vs.toArray w _ from (callsIn_wide (n := n - 1)).2 (hcalls.mono ?_))
  rintro en w' ⟨v, x, K1, H', rfl, g', r', f, hq⟩
  obtain ⟨g'', f'⟩ := g0.back g' f
  have hd : ∀ tt, o.dst = some tt → tt < N := fun tt ht => by simpa [opDst, ht] using hdst
  have hdef : (a.put o.dst v).defers = a.defers := by cases o.dst <;> rfl
  exact hK _ _ x K1 jj B H' g'' ((t.mono f.le).put hd r'.re) (by rw [hdef]; exact d.fr f') f' hq

/-- One operation, as a condition. -/
def oneS (P : Program) (T : Tab) (o : Oper) (e : Env) (B : Box) (H : OHeap) (Q : LV → Box → OHeap → Prop) : Prop :=
  match o.op with
  | .call c => match c.callee with
    | .value _ => match callee e c with
      | some (g, args) => args.all LV.glob = true ∧ CallL P g args H fun x H' => Q x B H'
      | none => False
    | _ => opS T o e B H Q
  | .defer _ => False
  | _ => opS T o e B H Q

theorem oneS_sound (hT : TOK P T) {Q : LV → Box → OHeap → Prop} (h : oneS P T o e B H Q) : One P ρ N o e B H Q := by
  unfold oneS at h
  split at h
  · rename_i c ho
    split at h
    · split at h
      · rename_i g args hc
        exact One.of_call ho hc h.1 h.2
      · exact h.elim
    · exact One.of_step (by simp [ho]) (opS_sound hT h)
  · exact h.elim
  · rename_i hnc hnd
    exact One.of_step hnd (opS_sound hT h)

theorem CallL.mono' {f : FuncId} {args : List LV} {Q Q' : LV → OHeap → Prop} (hq : ∀ x H', Q x H' → Q' x H') (h : CallL P f args H Q) : CallL P f args H Q' := h.mono hq

theorem appL_mono {size bytes : Nat} {s y : LV} {Q Q' : LV → OHeap → Prop} (hq : ∀ r H, Q r H → Q' r H) (h : appL H size bytes s y Q) : appL H size bytes s y Q' := by
  unfold appL at h ⊢
  split at h
  · exact h.elim
  · refine ⟨h.1, ?_⟩
    have h := h.2
    split at h
    · exact ⟨fun x => hq _ _ (h.1 x), fun x => ⟨(h.2 x).1, fun b c h1 h2 => hq _ _ ((h.2 x).2 b c h1 h2)⟩⟩
    · exact ⟨h.1, h.2.1, fun x => hq _ _ (h.2.2.1 x), fun x => ⟨(h.2.2.2 x).1, fun b c h1 h2 => hq _ _ ((h.2.2.2 x).2 b c h1 h2)⟩⟩
    · split at h
      · exact ⟨h.1, fun x => hq _ _ (h.2.1 x), fun x => ⟨(h.2.2 x).1, fun b c h1 h2 => hq _ _ ((h.2.2 x).2 b c h1 h2)⟩⟩
      · exact h
    · exact h

end
end Go.Lv
