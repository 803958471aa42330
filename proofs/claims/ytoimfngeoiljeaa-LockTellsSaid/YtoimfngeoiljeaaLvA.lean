/- Lv, part A: values with sealed memory as trees, the owned heap, private boxes, what relates them to a world of the model, and the frame. Plain definitions and lemmas over any program; no condition. -/
import Derived.WalkKit
import Derived.RangeFuncIn
import Derived.OrdersIn
namespace Go.Lv
open Go
set_option linter.unusedVariables false
set_option linter.unusedSimpArgs false

/-- What is sealed: cells that nobody will write any more. -/
abbrev Know := Nat → Nat → Option Value

/-- A value as a walk sees it. -/
inductive LV where
  | any
  | bool (b : Bool)
  | int (k : IntKind) (n : Int)
  | str (s : ByteArray)
  | ptr (b off : Nat)
  | nilp
  | sl (b off len cap : Nat)
  | nilsl
  | isl (full : Bool) (e : Nat) (xs : List (List LV))
  | iptr (cs : List LV)
  | mp (b : Nat)
  | nilm
  | fn (f : FuncId) (fst caps : List LV)
  | yld (l : Nat)
  | nilf
  | ifc (t : TypeId) (v : LV)
  | nilif
  | agg (cs : List LV)
  | tup (vs : List LV)
  | bp (id ver off : Nat)

/-- Surely the value of one cell. -/
def LV.one : LV → Bool
  | .any | .agg _ | .tup _ | .bp .. => false
  | _ => true

inductive R (K : Know) : LV → Value → Prop
  | any (v : Value) : R K .any v
  | bool (b : Bool) : R K (.bool b) (.bool b)
  | int (k : IntKind) (n : Int) : R K (.int k n) (.int k n)
  | str (s : ByteArray) : R K (.str s) (.string s)
  | ptr (b o : Nat) : R K (.ptr b o) (.pointer (some ⟨b, o, none⟩))
  | nilp : R K .nilp (.pointer none)
  | sl (b o l c : Nat) : R K (.sl b o l c) (.slice (some ⟨b, o, none⟩) l c)
  | nilsl : R K .nilsl (.slice none 0 0)
  | isln (f : Bool) (e : Nat) : R K (.isl f e []) (.slice none 0 0)
  | isl (f : Bool) (e : Nat) (xs : List (List LV)) (b o c : Nat) (us : Nat → Nat → Value) (hc : xs.length ≤ c) (hf : f = true → c = xs.length)
      (he : ∀ x ∈ xs, x.length = e)
      (hK : ∀ i j x y, xs[i]? = some x → x[j]? = some y → K b (o + i * e + j) = some (us i j))
      (hR : ∀ i j x y, xs[i]? = some x → x[j]? = some y → R K y (us i j)) :
      R K (.isl f e xs) (.slice (some ⟨b, o, none⟩) xs.length c)
  | iptr (cs : List LV) (b o : Nat) (us : Nat → Value)
      (hK : ∀ (j : Nat) (y : LV), cs[j]? = some y → K b (o + j) = some (us j))
      (hR : ∀ (j : Nat) (y : LV), cs[j]? = some y → R K y (us j)) :
      R K (.iptr cs) (.pointer (some ⟨b, o, none⟩))
  | mp (b : Nat) : R K (.mp b) (.map (some b))
  | nilm : R K .nilm (.map none)
  | fn (f : FuncId) (fst caps : List LV) (us vs : List Value) (hl : us.length = fst.length) (hm : vs.length = caps.length)
      (h : ∀ (i : Nat) x v, fst[i]? = some x → us[i]? = some v → R K x v)
      (h' : ∀ (i : Nat) x v, caps[i]? = some x → vs[i]? = some v → R K x v) :
      R K (.fn f fst caps) (.func (.func f) us.toArray vs.toArray)
  | yld (l : Nat) : R K (.yld l) (.func (.yield l) #[] #[])
  | nilf : R K .nilf .nilFunc
  | ifc (t : TypeId) (x : LV) (v : Value) (h : R K x v) : R K (.ifc t x) (.iface t v)
  | nilif : R K .nilif .nilIface
  | agg (cs : List LV) (vs : List Value) (hl : vs.length = cs.length)
      (h : ∀ (i : Nat) x v, cs[i]? = some x → vs[i]? = some v → R K x v) : R K (.agg cs) (.agg vs.toArray)
  | tup (cs : List LV) (vs : List Value) (hl : vs.length = cs.length)
      (h : ∀ (i : Nat) x v, cs[i]? = some x → vs[i]? = some v → R K x v) : R K (.tup cs) (.tuple vs.toArray)

/-- More is known. -/
def Know.le (K K' : Know) : Prop := ∀ b o v, K b o = some v → K' b o = some v
theorem Know.le_refl (K : Know) : K.le K := fun _ _ _ h => h
theorem Know.le_trans {A B C : Know} (h : A.le B) (h' : B.le C) : A.le C := fun b o v hv => h' b o v (h b o v hv)

theorem R.mono {K K' : Know} (hle : K.le K') {x : LV} {v : Value} (h : R K x v) : R K' x v := by
  induction h with
  | any v => exact .any v
  | bool b => exact .bool b
  | int k n => exact .int k n
  | str s => exact .str s
  | ptr b o => exact .ptr b o
  | nilp => exact .nilp
  | sl b o l c => exact .sl b o l c
  | nilsl => exact .nilsl
  | isln f e => exact .isln f e
  | isl f e xs b o c us hc hf he hK hR ih =>
    exact .isl f e xs b o c us hc hf he (fun i j x y h1 h2 => hle _ _ _ (hK i j x y h1 h2)) (fun i j x y h1 h2 => ih i j x y h1 h2)
  | iptr cs b o us hK hR ih => exact .iptr cs b o us (fun j y h1 => hle _ _ _ (hK j y h1)) (fun j y h1 => ih j y h1)
  | mp b => exact .mp b
  | nilm => exact .nilm
  | fn f fst caps us vs hl hm h h' ih ih' => exact .fn f fst caps us vs hl hm (fun i x v a b => ih i x v a b) (fun i x v a b => ih' i x v a b)
  | yld l => exact .yld l
  | nilf => exact .nilf
  | ifc t x v _ ih => exact .ifc t x v ih
  | nilif => exact .nilif
  | agg cs vs hl h ih => exact .agg cs vs hl (fun i x v a b => ih i x v a b)
  | tup cs vs hl h ih => exact .tup cs vs hl (fun i x v a b => ih i x v a b)

theorem R.oneCell {K : Know} {x : LV} {v : Value} (h : R K x v) (ho : x.one = true) : v.oneCell' = true := by
  cases h <;> first | rfl | (simp [LV.one] at ho)

/-- Lists, one by one. -/
def Rs (K : Know) (xs : List LV) (vs : List Value) : Prop := vs.length = xs.length ∧ ∀ (i : Nat) x v, xs[i]? = some x → vs[i]? = some v → R K x v

theorem Rs.nil (K : Know) : Rs K [] [] := ⟨rfl, fun i x v h => by simp at h⟩
theorem Rs.cons {K : Know} {x : LV} {v : Value} {xs : List LV} {vs : List Value} (h : R K x v) (hs : Rs K xs vs) : Rs K (x :: xs) (v :: vs) := by
  refine ⟨by simp [hs.1], fun i y u hy hu => ?_⟩
  cases i with
  | zero => simp at hy hu; subst hy; subst hu; exact h
  | succ i => simp at hy hu; exact hs.2 i y u hy hu
theorem Rs.head {K : Know} {x : LV} {v : Value} {xs : List LV} {vs : List Value} (h : Rs K (x :: xs) (v :: vs)) : R K x v := h.2 0 x v rfl rfl
theorem Rs.tail {K : Know} {x : LV} {v : Value} {xs : List LV} {vs : List Value} (h : Rs K (x :: xs) (v :: vs)) : Rs K xs vs :=
  ⟨by simpa using h.1, fun i y u hy hu => h.2 (i + 1) y u (by simpa using hy) (by simpa using hu)⟩
theorem Rs.append {K : Know} {xs ys : List LV} {vs us : List Value} (h : Rs K xs vs) (h' : Rs K ys us) : Rs K (xs ++ ys) (vs ++ us) := by
  refine ⟨by simp [h.1, h'.1], fun i y u hy hu => ?_⟩
  rcases Nat.lt_or_ge i xs.length with hi | hi
  · rw [List.getElem?_append_left hi] at hy
    rw [List.getElem?_append_left (by rw [h.1]; exact hi)] at hu
    exact h.2 i y u hy hu
  · rw [List.getElem?_append_right hi] at hy
    rw [List.getElem?_append_right (by rw [h.1]; exact hi), h.1] at hu
    exact h'.2 _ y u hy hu
theorem Rs.mono {K K' : Know} (hle : K.le K') {xs : List LV} {vs : List Value} (h : Rs K xs vs) : Rs K' xs vs := ⟨h.1, fun i x v a b => (h.2 i x v a b).mono hle⟩
theorem Rs.get {K : Know} {xs : List LV} {vs : List Value} (h : Rs K xs vs) {i : Nat} {x : LV} (hx : xs[i]? = some x) : ∃ v, vs[i]? = some v ∧ R K x v := by
  have hi : i < vs.length := by rw [h.1]; exact (List.getElem?_eq_some_iff.1 hx).1
  exact ⟨vs[i], List.getElem?_eq_getElem hi, h.2 i x _ hx (List.getElem?_eq_getElem hi)⟩
theorem Rs.take {K : Know} {xs : List LV} {vs : List Value} (h : Rs K xs vs) (n : Nat) : Rs K (xs.take n) (vs.take n) := by
  refine ⟨by simp [h.1], fun i y u hy hu => ?_⟩
  rw [List.getElem?_take] at hy hu
  split at hy
  · rename_i hi; rw [if_pos hi] at hu; exact h.2 i y u hy hu
  · simp at hy
theorem Rs.drop {K : Know} {xs : List LV} {vs : List Value} (h : Rs K xs vs) (n : Nat) : Rs K (xs.drop n) (vs.drop n) := by
  refine ⟨by simp [h.1], fun i y u hy hu => ?_⟩
  rw [List.getElem?_drop] at hy hu
  exact h.2 _ y u hy hu
theorem Rs.set {K : Know} {xs : List LV} {vs : List Value} (h : Rs K xs vs) (i : Nat) {x : LV} {v : Value} (hx : R K x v) : Rs K (xs.set i x) (vs.set i v) := by
  refine ⟨by simp [h.1], fun j y u hy hu => ?_⟩
  rw [List.getElem?_set] at hy hu
  split at hy
  · rename_i hij
    rw [if_pos hij] at hu
    split at hy
    · split at hu
      · simp at hy hu; subst hy; subst hu; exact hx
      · simp at hu
    · simp at hy
  · rename_i hij; rw [if_neg hij] at hu; exact h.2 j y u hy hu

/-! ### What is owned -/

inductive LO where
  | cells (cs : List LV) (n : Nat)
  | map (m : List (LV × LV))

abbrev OHeap := Nat → Option LO
/-- Private boxes: the slot that they were laid for; which one of them (a count); its cells. -/
abbrev Box := Nat → Nat × Option (List LV)
abbrev Env := Nat → LV

def ownObj (K : Know) (w : World) (b : Nat) : LO → Prop
  | .cells cs n => ∃ arr T fz, w.heap[b]? = some (.cells arr T fz) ∧ arr.size = n ∧ cs.length ≤ n ∧
      (∀ (i : Nat) x, cs[i]? = some x → ∃ v, arr[i]? = some v ∧ v.oneCell' = true ∧ R K x v) ∧ (∀ o, w.frozen? ⟨b, o, none⟩ = false)
  | .map m => ∃ es clock, w.heap[b]? = some (.map es clock) ∧ es.size = m.length ∧
      ∀ (i : Nat) kx, m[i]? = some kx → ∃ en, es[i]? = some en ∧ R K kx.1 en.key ∧ R K kx.2 en.val

theorem ownObj.mono {K K' : Know} (hle : K.le K') {w : World} {b : Nat} {o : LO} (h : ownObj K w b o) : ownObj K' w b o := by
  cases o with
  | cells cs n =>
    obtain ⟨arr, T, fz, h1, h2, h3, h4, h5⟩ := h
    exact ⟨arr, T, fz, h1, h2, h3, fun i x hx => let ⟨v, a, b, c⟩ := h4 i x hx; ⟨v, a, b, c.mono hle⟩, h5⟩
  | map m =>
    obtain ⟨es, clock, h1, h2, h3⟩ := h
    exact ⟨es, clock, h1, h2, fun i kx hx => let ⟨en, a, b, c⟩ := h3 i kx hx; ⟨en, a, b.mono hle, c.mono hle⟩⟩

/-- It hangs on the block alone. -/
theorem ownObj.same {K : Know} {w w' : World} {b : Nat} {o : LO} (hb : w'.heap[b]? = w.heap[b]?) (h : ownObj K w b o) : ownObj K w' b o := by
  cases o with
  | cells cs n =>
    obtain ⟨arr, T, fz, h1, h2, h3, h4, h5⟩ := h
    exact ⟨arr, T, fz, hb.trans h1, h2, h3, h4, fun o => by rw [World.frozen?_of_block (w := w) hb]; exact h5 o⟩
  | map m =>
    obtain ⟨es, clock, h1, h2, h3⟩ := h
    exact ⟨es, clock, hb.trans h1, h2, h3⟩

theorem ownObj.lt {K : Know} {w : World} {b : Nat} {o : LO} (h : ownObj K w b o) : b < w.heap.size := by
  cases o with
  | cells cs n => obtain ⟨arr, T, fz, h1, _⟩ := h; exact (Array.getElem?_eq_some_iff.1 h1).1
  | map m => obtain ⟨es, clock, h1, _⟩ := h; exact (Array.getElem?_eq_some_iff.1 h1).1

/-- Whose block it is. -/
def dom (H : OHeap) (B : Box) (jj : Nat → Nat) (b : Nat) : Prop := (H b).isSome = true ∨ ∃ d, (B d).2.isSome = true ∧ jj d = b

structure Good (K : Know) (jj : Nat → Nat) (B : Box) (H : OHeap) (w : World) : Prop where
  know : ∀ b o v, K b o = some v → w.cell? ⟨b, o, none⟩ = some v
  own : ∀ b o, H b = some o → ownObj K w b o
  apart : ∀ b o, dom H B jj b → K b o = none
  box : ∀ d ver cs, B d = (ver, some cs) → ownObj K w (jj d) (.cells cs cs.length)
  boxH : ∀ d, (B d).2.isSome = true → H (jj d) = none
  boxne : ∀ d d', (B d).2.isSome = true → (B d').2.isSome = true → jj d = jj d' → d = d'

theorem Good.lt {K : Know} {jj : Nat → Nat} {B : Box} {H : OHeap} {w : World} (g : Good K jj B H w) {b : Nat} (h : dom H B jj b) : b < w.heap.size := by
  rcases h with h | ⟨d, h, rfl⟩
  · obtain ⟨o, ho⟩ := Option.isSome_iff_exists.1 h; exact (g.own b o ho).lt
  · obtain ⟨cs, hc⟩ := Option.isSome_iff_exists.1 h; exact (g.box d (B d).1 cs (by rw [← hc])).lt

theorem Good.klt {K : Know} {jj : Nat → Nat} {B : Box} {H : OHeap} {w : World} (g : Good K jj B H w) {b o : Nat} {v : Value} (h : K b o = some v) : b < w.heap.size :=
  World.block_lt_of_cell? w ⟨b, o, none⟩ (g.know b o v h)

/-- What a piece of a run leaves as it was: D is what it owned at first, D' what it owns behind. -/
structure Fr (D : Nat → Prop) (w : World) (K : Know) (D' : Nat → Prop) (w' : World) (K' : Know) : Prop where
  os : w'.os = w.os
  tape : w'.tape = w.tape
  output : w'.output = w.output
  size : w.heap.size ≤ w'.heap.size
  old : ∀ b, b < w.heap.size → ¬ D b → w'.heap[b]? = w.heap[b]?
  le : K.le K'
  newK : ∀ b o, K b o = none → K' b o ≠ none → D b ∨ w.heap.size ≤ b
  newD : ∀ b, D' b → D b ∨ w.heap.size ≤ b

theorem Fr.refl (D : Nat → Prop) (w : World) (K : Know) : Fr D w K D w K :=
  ⟨rfl, rfl, rfl, Nat.le_refl _, fun _ _ _ => rfl, K.le_refl, fun _ _ h h' => absurd h h', fun _ h => .inl h⟩

theorem Fr.trans {D D' D'' : Nat → Prop} {w w' w'' : World} {K K' K'' : Know} (h : Fr D w K D' w' K') (h' : Fr D' w' K' D'' w'' K'') : Fr D w K D'' w'' K'' := {
  os := h'.os.trans h.os
  tape := h'.tape.trans h.tape
  output := h'.output.trans h.output
  size := Nat.le_trans h.size h'.size
  old b hb hd := by
    have hd' : ¬ D' b := fun x => (h.newD b x).elim hd (fun y => by omega)
    rw [h'.old b (Nat.lt_of_lt_of_le hb h.size) hd', h.old b hb hd]
  le := Know.le_trans h.le h'.le
  newK b o hk hk'' := by
    cases hk' : K' b o with
    | some v => exact h.newK b o hk (by simp [hk'])
    | none =>
      rcases h'.newK b o hk' hk'' with x | x
      · exact h.newD b x
      · exact .inr (Nat.le_trans h.size x)
  newD b hb := by
    rcases h'.newD b hb with x | x
    · exact h.newD b x
    · exact .inr (Nat.le_trans h.size x) }

theorem Fr.weak {D D' D₂ : Nat → Prop} {w w' : World} {K K' : Know} (h : Fr D w K D' w' K') (hd : ∀ b, D₂ b → D' b) : Fr D w K D₂ w' K' :=
  { h with newD := fun b hb => h.newD b (hd b hb) }

/-- A draw. -/
theorem Fr.drew {D D' : Nat → Prop} {w w' : World} {K K' : Know} (h : Fr D w K D' w' K') : Fr D w K D' w'.drew K' := { h with }

/-! ### Slots -/

def RE (K : Know) (jj : Nat → Nat) (B : Box) : LV → Value → Prop
  | .bp d ver off, v => ver ≤ (B d).1 ∧ (ver = (B d).1 → (B d).2.isSome = true → v = .pointer (some ⟨jj d, off, none⟩))
  | x, v => R K x v

theorem R.re {K : Know} {jj : Nat → Nat} {B : Box} {x : LV} {v : Value} (h : R K x v) : RE K jj B x v := by cases h <;> exact (by constructor <;> assumption)

theorem RE.mono {K K' : Know} (hle : K.le K') {jj : Nat → Nat} {B : Box} {x : LV} {v : Value} (h : RE K jj B x v) : RE K' jj B x v := by
  cases x <;> first | exact R.mono hle h | exact h

theorem RE.r {K : Know} {jj : Nat → Nat} {B : Box} {x : LV} {v : Value} (h : RE K jj B x v) (hx : ∀ d ver off, x ≠ .bp d ver off) : R K x v := by
  cases x <;> first | exact h | exact absurd rfl (hx _ _ _)

def upd (e : Env) (d : Nat) (x : LV) : Env := fun i => if i = d then x else e i
def updo (e : Env) (d : Option Tmp) (x : LV) : Env := match d with | some d => upd e d x | none => e
@[simp↓] theorem updo_some (e : Env) (d : Nat) (x : LV) : updo e (some d) x = upd e d x := rfl
@[simp↓] theorem updo_none (e : Env) (x : LV) : updo e none x = e := rfl
@[simp↓] theorem upd_apply (e : Env) (d : Nat) (x : LV) (i : Nat) : upd e d x i = if i = d then x else e i := rfl

structure TE (K : Know) (jj : Nat → Nat) (B : Box) (N : Nat) (e : Env) (tmps : Array Value) : Prop where
  size : tmps.size = N
  get : ∀ i, RE K jj B (e i) (tmps.getD i undef)

theorem TE.mono {K K' : Know} (hle : K.le K') {jj : Nat → Nat} {B : Box} {N : Nat} {e : Env} {tmps : Array Value} (h : TE K jj B N e tmps) : TE K' jj B N e tmps :=
  ⟨h.size, fun i => (h.get i).mono hle⟩

theorem TE.put {K : Know} {jj : Nat → Nat} {B : Box} {N : Nat} {e : Env} {a : Act} (h : TE K jj B N e a.tmps) {d : Option Tmp} (hd : ∀ t, d = some t → t < N) {x : LV} {v : Value}
    (hx : RE K jj B x v) : TE K jj B N (updo e d x) (a.put d v).tmps := by
  cases d with
  | none => exact h
  | some d =>
    have hlt : d < a.tmps.size := by rw [h.size]; exact hd d rfl
    refine ⟨by simp [Act.put, h.size], fun i => ?_⟩
    simp only [Act.put, updo_some, upd_apply, Array.getD_eq_getD_getElem?, Array.getElem?_setIfInBounds]
    by_cases hi : d = i
    · subst hi; simpa [hlt] using hx
    · rw [if_neg (fun x => hi x.symm), if_neg hi]; simpa [Array.getD_eq_getD_getElem?] using h.get i

end Go.Lv
