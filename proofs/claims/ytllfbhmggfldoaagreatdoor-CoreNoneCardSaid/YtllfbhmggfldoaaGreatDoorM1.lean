/- Texts of this proof, put together: LvA, LvB, LvC, LvD, LvE, LvF, LvG, LvH, LvI. No condition. -/
import Derived.WalkKit
import Derived.RangeFuncIn
import Derived.OrdersIn
import Derived.Deep.LoopGhost
import Derived.TacticsIn
import Derived.RangeFuncSeq
import Derived.RangeFuncLeaves
import Derived.Deep.AppendSrc
import Derived.Laws.IdiomCopy
import Derived.Laws.MakeOwn
/- Lv, part A: values with sealed memory as trees, the owned heap, private boxes, what relates them to a world of the model, and the frame. Plain definitions and lemmas over any program; no condition. -/
namespace Go.Lv
open Go
set_option linter.unusedVariables false
set_option linter.unusedSimpArgs false

/-- What is sealed: cells that nobody will write any more. -/
abbrev Know := Nat → Nat → Option Value

/-- A value as a walk sees it. -/
inductive LV where
  | any
  | bool (b : Bool)
  | int (k : IntKind) (n : Int)
  | str (s : ByteArray)
  | ptr (b off : Nat)
  | nilp
  | sl (b off len cap : Nat)
  | nilsl
  | wsl
  | isl (full : Bool) (e : Nat) (xs : List (List LV))
  | iptr (cs : List LV)
  | mp (b : Nat)
  | nilm
  | fn (f : FuncId) (fst caps : List LV)
  | yld (l : Nat)
  | nilf
  | ifc (t : TypeId) (v : LV)
  | nilif
  | agg (cs : List LV)
  | tup (vs : List LV)
  | bp (id ver off : Nat)

/-- Surely the value of one cell. -/
def LV.one : LV → Bool
  | .any | .agg _ | .tup _ | .bp .. => false
  | _ => true

inductive R (K : Know) : LV → Value → Prop
  | any (v : Value) : R K .any v
  | bool (b : Bool) : R K (.bool b) (.bool b)
  | int (k : IntKind) (n : Int) : R K (.int k n) (.int k n)
  | str (s : ByteArray) : R K (.str s) (.string s)
  | ptr (b o : Nat) : R K (.ptr b o) (.pointer (some ⟨b, o, none⟩))
  | nilp : R K .nilp (.pointer none)
  | sl (b o l c : Nat) : R K (.sl b o l c) (.slice (some ⟨b, o, none⟩) l c)
  | nilsl : R K .nilsl (.slice none 0 0)
  | wsl (a : Addr) : R K .wsl (.slice (some a) 0 0)
  | isln (f : Bool) (e : Nat) : R K (.isl f e []) (.slice none 0 0)
  | isle (f : Bool) (e : Nat) (a : Addr) : R K (.isl f e []) (.slice (some a) 0 0)
  | isl (f : Bool) (e : Nat) (xs : List (List LV)) (b o c : Nat) (us : Nat → Nat → Value) (hc : xs.length ≤ c) (hf : f = true → c = xs.length)
      (he : ∀ x ∈ xs, x.length = e)
      (hK : ∀ i j x y, xs[i]? = some x → x[j]? = some y → K b (o + i * e + j) = some (us i j))
      (hR : ∀ i j x y, xs[i]? = some x → x[j]? = some y → R K y (us i j)) :
      R K (.isl f e xs) (.slice (some ⟨b, o, none⟩) xs.length c)
  | iptr (cs : List LV) (b o : Nat) (us : Nat → Value)
      (hK : ∀ (j : Nat) (y : LV), cs[j]? = some y → K b (o + j) = some (us j))
      (hR : ∀ (j : Nat) (y : LV), cs[j]? = some y → R K y (us j)) :
      R K (.iptr cs) (.pointer (some ⟨b, o, none⟩))
  | mp (b : Nat) : R K (.mp b) (.map (some b))
  | nilm : R K .nilm (.map none)
  | fn (f : FuncId) (fst caps : List LV) (us vs : List Value) (hl : us.length = fst.length) (hm : vs.length = caps.length)
      (h : ∀ (i : Nat) x v, fst[i]? = some x → us[i]? = some v → R K x v)
      (h' : ∀ (i : Nat) x v, caps[i]? = some x → vs[i]? = some v → R K x v) :
      R K (.fn f fst caps) (.func (.func f) us.toArray vs.toArray)
  | yld (l : Nat) : R K (.yld l) (.func (.yield l) #[] #[])
  | nilf : R K .nilf .nilFunc
  | ifc (t : TypeId) (x : LV) (v : Value) (h : R K x v) : R K (.ifc t x) (.iface t v)
  | nilif : R K .nilif .nilIface
  | agg (cs : List LV) (vs : List Value) (hl : vs.length = cs.length)
      (h : ∀ (i : Nat) x v, cs[i]? = some x → vs[i]? = some v → R K x v) : R K (.agg cs) (.agg vs.toArray)
  | tup (cs : List LV) (vs : List Value) (hl : vs.length = cs.length)
      (h : ∀ (i : Nat) x v, cs[i]? = some x → vs[i]? = some v → R K x v) : R K (.tup cs) (.tuple vs.toArray)

/-- More is known. -/
def Know.le (K K' : Know) : Prop := ∀ b o v, K b o = some v → K' b o = some v
theorem Know.le_refl (K : Know) : K.le K := fun _ _ _ h => h
theorem Know.le_trans {A B C : Know} (h : A.le B) (h' : B.le C) : A.le C := fun b o v hv => h' b o v (h b o v hv)

theorem R.mono {K K' : Know} (hle : K.le K') {x : LV} {v : Value} (h : R K x v) : R K' x v := by
  induction h with
  | any v => exact .any v
  | bool b => exact .bool b
  | int k n => exact .int k n
  | str s => exact .str s
  | ptr b o => exact .ptr b o
  | nilp => exact .nilp
  | sl b o l c => exact .sl b o l c
  | nilsl => exact .nilsl
  | wsl a => exact .wsl a
  | isln f e => exact .isln f e
  | isle f e a => exact .isle f e a
  | isl f e xs b o c us hc hf he hK hR ih =>
    exact .isl f e xs b o c us hc hf he (fun i j x y h1 h2 => hle _ _ _ (hK i j x y h1 h2)) (fun i j x y h1 h2 => ih i j x y h1 h2)
  | iptr cs b o us hK hR ih => exact .iptr cs b o us (fun j y h1 => hle _ _ _ (hK j y h1)) (fun j y h1 => ih j y h1)
  | mp b => exact .mp b
  | nilm => exact .nilm
  | fn f fst caps us vs hl hm h h' ih ih' => exact .fn f fst caps us vs hl hm (fun i x v a b => ih i x v a b) (fun i x v a b => ih' i x v a b)
  | yld l => exact .yld l
  | nilf => exact .nilf
  | ifc t x v _ ih => exact .ifc t x v ih
  | nilif => exact .nilif
  | agg cs vs hl h ih => exact .agg cs vs hl (fun i x v a b => ih i x v a b)
  | tup cs vs hl h ih => exact .tup cs vs hl (fun i x v a b => ih i x v a b)

theorem R.oneCell {K : Know} {x : LV} {v : Value} (h : R K x v) (ho : x.one = true) : v.oneCell' = true := by
  cases h <;> first | rfl | (simp [LV.one] at ho)

/-- Lists, one by one. -/
def Rs (K : Know) (xs : List LV) (vs : List Value) : Prop := vs.length = xs.length ∧ ∀ (i : Nat) x v, xs[i]? = some x → vs[i]? = some v → R K x v

theorem Rs.nil (K : Know) : Rs K [] [] := ⟨rfl, fun i x v h => by simp at h⟩
theorem Rs.cons {K : Know} {x : LV} {v : Value} {xs : List LV} {vs : List Value} (h : R K x v) (hs : Rs K xs vs) : Rs K (x :: xs) (v :: vs) := by
  refine ⟨by simp [hs.1], fun i y u hy hu => ?_⟩
  cases i with
  | zero => simp at hy hu; subst hy; subst hu; exact h
  | succ i => simp at hy hu; exact hs.2 i y u hy hu
theorem Rs.head {K : Know} {x : LV} {v : Value} {xs : List LV} {vs : List Value} (h : Rs K (x :: xs) (v :: vs)) : R K x v := h.2 0 x v rfl rfl
theorem Rs.tail {K : Know} {x : LV} {v : Value} {xs : List LV} {vs : List Value} (h : Rs K (x :: xs) (v :: vs)) : Rs K xs vs :=
  ⟨by simpa using h.1, fun i y u hy hu => h.2 (i + 1) y u (by simpa using hy) (by simpa using hu)⟩
theorem Rs.append {K : Know} {xs ys : List LV} {vs us : List Value} (h : Rs K xs vs) (h' : Rs K ys us) : Rs K (xs ++ ys) (vs ++ us) := by
  refine ⟨by simp [h.1, h'.1], fun i y u hy hu => ?_⟩
  rcases Nat.lt_or_ge i xs.length with hi | hi
  · rw [List.getElem?_append_left hi] at hy
    rw [List.getElem?_append_left (by rw [h.1]; exact hi)] at hu
    exact h.2 i y u hy hu
  · rw [List.getElem?_append_right hi] at hy
    rw [List.getElem?_append_right (by rw [h.1]; exact hi), h.1] at hu
    exact h'.2 _ y u hy hu
theorem Rs.mono {K K' : Know} (hle : K.le K') {xs : List LV} {vs : List Value} (h : Rs K xs vs) : Rs K' xs vs := ⟨h.1, fun i x v a b => (h.2 i x v a b).mono hle⟩
theorem Rs.get {K : Know} {xs : List LV} {vs : List Value} (h : Rs K xs vs) {i : Nat} {x : LV} (hx : xs[i]? = some x) : ∃ v, vs[i]? = some v ∧ R K x v := by
  have hi : i < vs.length := by rw [h.1]; exact (List.getElem?_eq_some_iff.1 hx).1
  exact ⟨vs[i], List.getElem?_eq_getElem hi, h.2 i x _ hx (List.getElem?_eq_getElem hi)⟩
theorem Rs.take {K : Know} {xs : List LV} {vs : List Value} (h : Rs K xs vs) (n : Nat) : Rs K (xs.take n) (vs.take n) := by
  refine ⟨by simp [h.1], fun i y u hy hu => ?_⟩
  rw [List.getElem?_take] at hy hu
  split at hy
  · rename_i hi; rw [if_pos hi] at hu; exact h.2 i y u hy hu
  · simp at hy
theorem Rs.drop {K : Know} {xs : List LV} {vs : List Value} (h : Rs K xs vs) (n : Nat) : Rs K (xs.drop n) (vs.drop n) := by
  refine ⟨by simp [h.1], fun i y u hy hu => ?_⟩
  rw [List.getElem?_drop] at hy hu
  exact h.2 _ y u hy hu
theorem Rs.set {K : Know} {xs : List LV} {vs : List Value} (h : Rs K xs vs) (i : Nat) {x : LV} {v : Value} (hx : R K x v) : Rs K (xs.set i x) (vs.set i v) := by
  refine ⟨by simp [h.1], fun j y u hy hu => ?_⟩
  rw [List.getElem?_set] at hy hu
  split at hy
  · rename_i hij
    rw [if_pos hij] at hu
    split at hy
    · split at hu
      · simp at hy hu; subst hy; subst hu; exact hx
      · simp at hu
    · simp at hy
  · rename_i hij; rw [if_neg hij] at hu; exact h.2 j y u hy hu

/-! ### What is owned -/

inductive LO where
  | cells (cs : List LV) (n : Nat)
  | map (m : List (LV × LV × Nat)) (clock : Nat)
  | iter (m since : Nat) (seen : List Nat) (last : Nat)
  | blob (o : Obj) (K₀ : Nat → Nat → Option Value)

abbrev OHeap := Nat → Option LO
/-- Private boxes: the slot that they were laid for; which one of them (a count); its cells. -/
abbrev Box := Nat → Nat × Option (List LV)
abbrev Env := Nat → LV

def ownObj (K : Know) (w : World) (b : Nat) : LO → Prop
  | .cells cs n => ∃ arr T fz, w.heap[b]? = some (.cells arr T fz) ∧ arr.size = n ∧ cs.length ≤ n ∧
      (∀ (i : Nat) x, cs[i]? = some x → ∃ v, arr[i]? = some v ∧ v.oneCell' = true ∧ R K x v) ∧ (∀ o, w.frozen? ⟨b, o, none⟩ = false)
  | .map m clock => ∃ es, w.heap[b]? = some (.map es clock) ∧ es.size = m.length ∧
      ∀ (i : Nat) kx, m[i]? = some kx → ∃ en, es[i]? = some en ∧ R K kx.1 en.key ∧ R K kx.2.1 en.val ∧ en.born = kx.2.2
  | .iter m since seen last => w.heap[b]? = some (.mapIter (some m) since seen.toArray last)
  | .blob o K₀ => w.heap[b]? = some o ∧ ∀ b' i v, K₀ b' i = some v → K b' i = some v

theorem ownObj.mono {K K' : Know} (hle : K.le K') {w : World} {b : Nat} {o : LO} (h : ownObj K w b o) : ownObj K' w b o := by
  cases o with
  | cells cs n =>
    obtain ⟨arr, T, fz, h1, h2, h3, h4, h5⟩ := h
    exact ⟨arr, T, fz, h1, h2, h3, fun i x hx => let ⟨v, a, b, c⟩ := h4 i x hx; ⟨v, a, b, c.mono hle⟩, h5⟩
  | map m clock =>
    obtain ⟨es, h1, h2, h3⟩ := h
    exact ⟨es, h1, h2, fun i kx hx => let ⟨en, a, b, c, d⟩ := h3 i kx hx; ⟨en, a, b.mono hle, c.mono hle, d⟩⟩
  | iter m s l c => exact h
  | blob o K₀ => exact ⟨h.1, fun b' i v hv => hle _ _ _ (h.2 b' i v hv)⟩

/-- It hangs on the block alone. -/
theorem ownObj.same {K : Know} {w w' : World} {b : Nat} {o : LO} (hb : w'.heap[b]? = w.heap[b]?) (h : ownObj K w b o) : ownObj K w' b o := by
  cases o with
  | cells cs n =>
    obtain ⟨arr, T, fz, h1, h2, h3, h4, h5⟩ := h
    exact ⟨arr, T, fz, hb.trans h1, h2, h3, h4, fun o => by rw [World.frozen?_of_block (w := w) hb]; exact h5 o⟩
  | map m clock =>
    obtain ⟨es, h1, h2, h3⟩ := h
    exact ⟨es, hb.trans h1, h2, h3⟩
  | iter m s l c => exact hb.trans h
  | blob o K₀ => exact ⟨hb.trans h.1, h.2⟩

theorem ownObj.lt {K : Know} {w : World} {b : Nat} {o : LO} (h : ownObj K w b o) : b < w.heap.size := by
  cases o with
  | cells cs n => obtain ⟨arr, T, fz, h1, _⟩ := h; exact (Array.getElem?_eq_some_iff.1 h1).1
  | map m clock => obtain ⟨es, h1, _⟩ := h; exact (Array.getElem?_eq_some_iff.1 h1).1
  | iter m s l c => exact (Array.getElem?_eq_some_iff.1 (show w.heap[b]? = some _ from h)).1
  | blob o K₀ => exact (Array.getElem?_eq_some_iff.1 h.1).1

/-- Whose block it is. -/
def dom (H : OHeap) (B : Box) (jj : Nat → Nat) (b : Nat) : Prop := (H b).isSome = true ∨ ∃ d, (B d).2.isSome = true ∧ jj d = b

structure Good (K : Know) (jj : Nat → Nat) (B : Box) (H : OHeap) (w : World) : Prop where
  know : ∀ b o v, K b o = some v → w.cell? ⟨b, o, none⟩ = some v
  own : ∀ b o, H b = some o → ownObj K w b o
  apart : ∀ b o, dom H B jj b → K b o = none
  box : ∀ d ver cs, B d = (ver, some cs) → ownObj K w (jj d) (.cells cs cs.length)
  boxH : ∀ d, (B d).2.isSome = true → H (jj d) = none
  boxne : ∀ d d', (B d).2.isSome = true → (B d').2.isSome = true → jj d = jj d' → d = d'

theorem Good.lt {K : Know} {jj : Nat → Nat} {B : Box} {H : OHeap} {w : World} (g : Good K jj B H w) {b : Nat} (h : dom H B jj b) : b < w.heap.size := by
  rcases h with h | ⟨d, h, rfl⟩
  · obtain ⟨o, ho⟩ := Option.isSome_iff_exists.1 h; exact (g.own b o ho).lt
  · obtain ⟨cs, hc⟩ := Option.isSome_iff_exists.1 h; exact (g.box d (B d).1 cs (by rw [← hc])).lt

theorem Good.klt {K : Know} {jj : Nat → Nat} {B : Box} {H : OHeap} {w : World} (g : Good K jj B H w) {b o : Nat} {v : Value} (h : K b o = some v) : b < w.heap.size :=
  World.block_lt_of_cell? w ⟨b, o, none⟩ (g.know b o v h)

/-- What a piece of a run leaves as it was: D is what it owned at first, D' what it owns behind. -/
structure Fr (D : Nat → Prop) (w : World) (K : Know) (D' : Nat → Prop) (w' : World) (K' : Know) : Prop where
  os : w'.os = w.os
  tape : w'.tape = w.tape
  output : w'.output = w.output
  size : w.heap.size ≤ w'.heap.size
  old : ∀ b, b < w.heap.size → ¬ D b → w'.heap[b]? = w.heap[b]?
  le : K.le K'
  newK : ∀ b o, K b o = none → K' b o ≠ none → D b ∨ w.heap.size ≤ b
  newD : ∀ b, D' b → D b ∨ w.heap.size ≤ b

theorem Fr.refl (D : Nat → Prop) (w : World) (K : Know) : Fr D w K D w K :=
  ⟨rfl, rfl, rfl, Nat.le_refl _, fun _ _ _ => rfl, K.le_refl, fun _ _ h h' => absurd h h', fun _ h => .inl h⟩

theorem Fr.trans {D D' D'' : Nat → Prop} {w w' w'' : World} {K K' K'' : Know} (h : Fr D w K D' w' K') (h' : Fr D' w' K' D'' w'' K'') : Fr D w K D'' w'' K'' := {
  os := h'.os.trans h.os
  tape := h'.tape.trans h.tape
  output := h'.output.trans h.output
  size := Nat.le_trans h.size h'.size
  old b hb hd := by
    have hd' : ¬ D' b := fun x => (h.newD b x).elim hd (fun y => by omega)
    rw [h'.old b (Nat.lt_of_lt_of_le hb h.size) hd', h.old b hb hd]
  le := Know.le_trans h.le h'.le
  newK b o hk hk'' := by
    cases hk' : K' b o with
    | some v => exact h.newK b o hk (by simp [hk'])
    | none =>
      rcases h'.newK b o hk' hk'' with x | x
      · exact h.newD b x
      · exact .inr (Nat.le_trans h.size x)
  newD b hb := by
    rcases h'.newD b hb with x | x
    · exact h.newD b x
    · exact .inr (Nat.le_trans h.size x) }

theorem Fr.weak {D D' D₂ : Nat → Prop} {w w' : World} {K K' : Know} (h : Fr D w K D' w' K') (hd : ∀ b, D₂ b → D' b) : Fr D w K D₂ w' K' :=
  { h with newD := fun b hb => h.newD b (hd b hb) }

/-- A draw. -/
theorem Fr.drew {D D' : Nat → Prop} {w w' : World} {K K' : Know} (h : Fr D w K D' w' K') : Fr D w K D' w'.drew K' := { h with }

/-! ### Slots -/

def RE (K : Know) (jj : Nat → Nat) (B : Box) : LV → Value → Prop
  | .bp d ver off, v => ver ≤ (B d).1 ∧ (ver = (B d).1 → (B d).2.isSome = true → v = .pointer (some ⟨jj d, off, none⟩))
  | x, v => R K x v

theorem R.re {K : Know} {jj : Nat → Nat} {B : Box} {x : LV} {v : Value} (h : R K x v) : RE K jj B x v := by cases h <;> exact (by constructor <;> assumption)

theorem RE.mono {K K' : Know} (hle : K.le K') {jj : Nat → Nat} {B : Box} {x : LV} {v : Value} (h : RE K jj B x v) : RE K' jj B x v := by
  cases x <;> first | exact R.mono hle h | exact h

theorem RE.r {K : Know} {jj : Nat → Nat} {B : Box} {x : LV} {v : Value} (h : RE K jj B x v) (hx : ∀ d ver off, x ≠ .bp d ver off) : R K x v := by
  cases x <;> first | exact h | exact absurd rfl (hx _ _ _)

def upd (e : Env) (d : Nat) (x : LV) : Env := fun i => if i = d then x else e i
def updo (e : Env) (d : Option Tmp) (x : LV) : Env := match d with | some d => upd e d x | none => e
@[simp↓] theorem updo_some (e : Env) (d : Nat) (x : LV) : updo e (some d) x = upd e d x := rfl
@[simp↓] theorem updo_none (e : Env) (x : LV) : updo e none x = e := rfl
@[simp↓] theorem upd_apply (e : Env) (d : Nat) (x : LV) (i : Nat) : upd e d x i = if i = d then x else e i := rfl

structure TE (K : Know) (jj : Nat → Nat) (B : Box) (N : Nat) (e : Env) (tmps : Array Value) : Prop where
  size : tmps.size = N
  get : ∀ i, RE K jj B (e i) (tmps.getD i undef)

theorem TE.mono {K K' : Know} (hle : K.le K') {jj : Nat → Nat} {B : Box} {N : Nat} {e : Env} {tmps : Array Value} (h : TE K jj B N e tmps) : TE K' jj B N e tmps :=
  ⟨h.size, fun i => (h.get i).mono hle⟩

theorem TE.put {K : Know} {jj : Nat → Nat} {B : Box} {N : Nat} {e : Env} {a : Act} (h : TE K jj B N e a.tmps) {d : Option Tmp} (hd : ∀ t, d = some t → t < N) {x : LV} {v : Value}
    (hx : RE K jj B x v) : TE K jj B N (updo e d x) (a.put d v).tmps := by
  cases d with
  | none => exact h
  | some d =>
    have hlt : d < a.tmps.size := by rw [h.size]; exact hd d rfl
    refine ⟨by simp [Act.put, h.size], fun i => ?_⟩
    simp only [Act.put, updo_some, upd_apply, Array.getD_eq_getD_getElem?, Array.getElem?_setIfInBounds]
    by_cases hi : d = i
    · subst hi; simpa [hlt] using hx
    · rw [if_neg (fun x => hi x.symm), if_neg hi]; simpa [Array.getD_eq_getD_getElem?] using h.get i

end Go.Lv
/- Lv, part B: the predicate transformer WP over what a walk sees, and its rules for the forms of code. Over any program; no condition. -/
namespace Go.Lv
open Go
set_option linter.unusedVariables false
set_option linter.unusedSimpArgs false

inductive Ex where
  | norm
  | exit (id : Nat)
  | ret

def Ex.of : Ex → Exit
  | .norm => .normal
  | .exit i => .exit i
  | .ret => .ret

abbrev Post := Ex → Env → Box → OHeap → Prop

/-- Every function, any depth; in a loop's round or not. -/
def Fw (ρ : Option Nat) : Fence := { fn := fun _ => True, depth := none, alive := false, round := ρ }
theorem Fw_none : Fw none = Fence.wide := rfl
@[simp] theorem Fw_round (ρ : Option Nat) : (Fw ρ).round = ρ := rfl
@[simp] theorem Fw_depth (ρ : Option Nat) : (Fw ρ).depth = none := rfl

def dmark (b : Nat) : Deferred := { target := .collected b, args := #[] }

/-- The deferred calls that stand are the marks of range-over-function loops that defer nothing. -/
def Dok (m : Nat) (D : Nat → Prop) (w : World) (ds : List Deferred) : Prop :=
  m ≤ w.heap.size ∧ ∃ bs : List Nat, ds = bs.map dmark ∧ bs.Nodup ∧ ∀ b ∈ bs, m ≤ b ∧ ¬ D b ∧ w.heap[b]? = some (.deferred (some []))

theorem Dok.nil {m : Nat} (D : Nat → Prop) {w : World} (hm : m ≤ w.heap.size) : Dok m D w [] := ⟨hm, [], rfl, List.nodup_nil, fun b h => by cases h⟩

theorem Dok.fr {D D' : Nat → Prop} {w w' : World} {K K' : Know} {m : Nat} {ds : List Deferred} (h : Dok m D w ds) (f : Fr D w K D' w' K') : Dok m D' w' ds := by
  obtain ⟨hm, bs, h1, h2, h3⟩ := h
  refine ⟨Nat.le_trans hm f.size, bs, h1, h2, fun b hb => ?_⟩
  obtain ⟨h0, h4, h5⟩ := h3 b hb
  have hlt := (Array.getElem?_eq_some_iff.1 h5).1
  exact ⟨h0, fun x => (f.newD b x).elim h4 (fun y => by omega), by rw [f.old b hlt h4]; exact h5⟩

/-- What is known of the end of a piece. -/
def Lift (N m : Nat) (D : Nat → Prop) (w : World) (K : Know) (Q : Post) : Exit → Act → World → Prop := fun ex a' w' =>
  ∃ x K' jj' e' B' H', ex = Ex.of x ∧ Good K' jj' B' H' w' ∧ TE K' jj' B' N e' a'.tmps ∧ Dok m (dom H' B' jj') w' a'.defers ∧ Fr D w K (dom H' B' jj') w' K' ∧ Q x e' B' H'

/-- All slots that are written are slots. -/
def opDst (N : Nat) (o : Oper) : Bool := match o.dst with | some d => decide (d < N) | none => true
def dstOk (N : Nat) : Code → Bool
  | .region _ ops _ => ops.toList.all (opDst N)
  | .seq a b => dstOk N a && dstOk N b
  | .cond _ a b => dstOk N a && dstOk N b
  | .block _ b => dstOk N b
  | .loop b => dstOk N b
  | .scope b => dstOk N b
  | .rangeFunc _ ps a b => ps.toList.all (fun d => decide (d < N)) && dstOk N a && dstOk N b
  | _ => true

def WP (P : Program) (ρ : Option Nat) (N : Nat) (c : Code) (Q : Post) (e : Env) (B : Box) (H : OHeap) : Prop :=
  dstOk N c = true → ∀ n m K jj w a, Good K jj B H w → TE K jj B N e a.tmps → Dok m (dom H B jj) w a.defers → c.wpIn (Fw ρ) n P (Lift N m (dom H B jj) w K Q) a w

section
variable {P : Program} {ρ : Option Nat} {N m : Nat} {Q Q' : Post} {e : Env} {B : Box} {H : OHeap}

theorem Lift.mono {D : Nat → Prop} {w : World} {K : Know} {ex : Exit} {a' : Act} {w' : World} (hq : ∀ x e B H, Q x e B H → Q' x e B H) (h : Lift N m D w K Q ex a' w') : Lift N m D w K Q' ex a' w' := by
  obtain ⟨x, K', jj', e', B', H', h1, h2, h3, h4, h5, h6⟩ := h
  exact ⟨x, K', jj', e', B', H', h1, h2, h3, h4, h5, hq _ _ _ _ h6⟩

theorem Lift.fr {D D' : Nat → Prop} {w w₁ : World} {K K₁ : Know} {ex : Exit} {a' : Act} {w' : World} (f : Fr D w K D' w₁ K₁) (h : Lift N m D' w₁ K₁ Q ex a' w') : Lift N m D w K Q ex a' w' := by
  obtain ⟨x, K', jj', e', B', H', h1, h2, h3, h4, h5, h6⟩ := h
  exact ⟨x, K', jj', e', B', H', h1, h2, h3, h4, f.trans h5, h6⟩

theorem WP.mono {c : Code} (h : WP P ρ N c Q e B H) (hq : ∀ x e B H, Q x e B H → Q' x e B H) : WP P ρ N c Q' e B H :=
  fun hd n m K jj w a g t d => wpIn_mono (h hd n m K jj w a g t d) fun _ _ _ hl => hl.mono hq

/-- An end at once, with what there is. -/
theorem Lift.here {K : Know} {jj : Nat → Nat} {w : World} {a : Act} (x : Ex) (g : Good K jj B H w) (t : TE K jj B N e a.tmps) (d : Dok m (dom H B jj) w a.defers) (h : Q x e B H) :
    Lift N m (dom H B jj) w K Q (Ex.of x) a w := ⟨x, K, jj, e, B, H, rfl, g, t, d, Fr.refl _ _ _, h⟩

theorem WP.skip (h : Q .norm e B H) : WP P ρ N .skip Q e B H := fun _ _ _ _ _ _ _ g t d => wpIn_skip (Lift.here .norm g t d h)
theorem WP.label {l : Nat} (h : Q .norm e B H) : WP P ρ N (.label l) Q e B H := fun _ _ _ _ _ _ _ g t d => wpIn_label (Lift.here .norm g t d h)
theorem WP.exit {id : Nat} (h : Q (.exit id) e B H) : WP P ρ N (.exit id) Q e B H := fun _ _ _ _ _ _ _ g t d => wpIn_exit (Lift.here (.exit id) g t d h)
theorem WP.ret (h : Q .ret e B H) : WP P ρ N .ret Q e B H := fun _ _ _ _ _ _ _ g t d => wpIn_ret (Lift.here .ret g t d h)

/-- Behind a piece that ends normally comes another one. -/
def Then (P : Program) (ρ : Option Nat) (N : Nat) (y : Code) (Q : Post) : Post := fun x e B H =>
  match x with
  | .norm => WP P ρ N y Q e B H
  | .exit i => Q (.exit i) e B H
  | .ret => Q .ret e B H

theorem WP.seq {x y : Code} (h : WP P ρ N x (Then P ρ N y Q) e B H) : WP P ρ N (.seq x y) Q e B H := by
  intro hd n m K jj w a g t d
  simp only [dstOk, Bool.and_eq_true] at hd
  refine wpIn_seq (wpIn_mono (h hd.1 n m K jj w a g t d) ?_)
  rintro ex a' w' ⟨z, K', jj', e', B', H', rfl, g', t', d', f, hq⟩
  cases z with
  | norm => exact wpIn_mono (hq hd.2 n m K' jj' w' a' g' t' d') fun _ _ _ hl => hl.fr f
  | exit i => exact ⟨.exit i, K', jj', e', B', H', rfl, g', t', d', f, hq⟩
  | ret => exact ⟨.ret, K', jj', e', B', H', rfl, g', t', d', f, hq⟩

/-- What a constant is. -/
def ofV1 : Value → LV
  | .bool b => .bool b
  | .int k n => .int k n
  | .string s => .str s
  | .pointer none => .nilp
  | .slice none 0 0 => .nilsl
  | .map none => .nilm
  | .nilFunc => .nilf
  | .nilIface => .nilif
  | .func (.func f) ⟨[]⟩ ⟨[]⟩ => .fn f [] []
  | _ => .any
def ofV : Value → LV
  | .agg ⟨l⟩ => .agg (l.map ofV1)
  | .tuple ⟨[]⟩ => .tup []
  | v => ofV1 v

theorem R.ofV1 (K : Know) (v : Value) : R K (ofV1 v) v := by
  unfold Lv.ofV1
  split
  · exact .bool _
  · exact .int _ _
  · exact .str _
  · exact .nilp
  · exact .nilsl
  · exact .nilm
  · exact .nilf
  · exact .nilif
  · exact .fn _ [] [] [] [] rfl rfl (fun i x v h => by simp at h) (fun i x v h => by simp at h)
  · exact .any _

theorem R.ofV (K : Know) (v : Value) : R K (ofV v) v := by
  unfold Lv.ofV
  split
  · rename_i l
    refine .agg _ l (by simp) ?_
    intro i x v hx hv
    rw [List.getElem?_map, hv] at hx
    simp at hx; subst hx
    exact R.ofV1 K v
  · exact .tup [] [] rfl (fun i x v h => by simp at h)
  · exact R.ofV1 K _

def ev (e : Env) : Operand → LV
  | .tmp t => e t
  | .const v => ofV v
  | .global g => .ptr g 0
  | .func f => .fn f [] []

theorem TE.ev {K : Know} {jj : Nat → Nat} {a : Act} (t : TE K jj B N e a.tmps) (x : Operand) : RE K jj B (ev e x) (a.eval x) := by
  cases x with
  | tmp i => exact t.get i
  | const v => exact (R.ofV K v).re
  | global g => exact R.re (.ptr g 0)
  | func f => exact R.re (.fn f [] [] [] [] rfl rfl (fun i x v h => by simp at h) (fun i x v h => by simp at h))

theorem RE.bool {K : Know} {jj : Nat → Nat} {v : Value} {b : Bool} (h : RE K jj B (.bool b) v) : v = .bool b := by cases h; rfl
theorem RE.str {K : Know} {jj : Nat → Nat} {v : Value} {s : ByteArray} (h : RE K jj B (.str s) v) : v = .string s := by cases h; rfl
theorem RE.int {K : Know} {jj : Nat → Nat} {v : Value} {k : IntKind} {n : Int} (h : RE K jj B (.int k n) v) : v = .int k n := by cases h; rfl

theorem WP.cond {c : Operand} {x y : Code} {b : Bool} (hc : ev e c = .bool b) (ht : b = true → WP P ρ N x Q e B H) (hf : b = false → WP P ρ N y Q e B H) :
    WP P ρ N (.cond c x y) Q e B H := by
  intro hd n m K jj w a g t d
  simp only [dstOk, Bool.and_eq_true] at hd
  have h := t.ev c
  rw [hc] at h
  cases b with
  | true => exact wpIn_cond_true h.bool (ht rfl hd.1 n m K jj w a g t d)
  | false => exact wpIn_cond_false h.bool (hf rfl hd.2 n m K jj w a g t d)

/-- A block's end is reached by its exit, too. -/
def InBlock (id : Nat) (Q : Post) : Post := fun x e B H =>
  match x with
  | .norm => Q .norm e B H
  | .exit i => if i = id then Q .norm e B H else Q (.exit i) e B H
  | .ret => Q .ret e B H

theorem WP.block {id : Nat} {c : Code} (h : WP P ρ N c (InBlock id Q) e B H) : WP P ρ N (.block id c) Q e B H := by
  intro hd n m K jj w a g t d
  refine wpIn_block (wpIn_mono (h hd n m K jj w a g t d) ?_)
  rintro ex a' w' ⟨z, K', jj', e', B', H', rfl, g', t', d', f, hq⟩
  cases z with
  | norm => exact ⟨.norm, K', jj', e', B', H', rfl, g', t', d', f, hq⟩
  | exit i =>
    simp only [Ex.of, Exit.inBlock]
    by_cases hi : i = id
    · simp only [InBlock, hi, if_true] at hq ⊢
      exact ⟨.norm, K', jj', e', B', H', rfl, g', t', d', f, hq⟩
    · simp only [InBlock, hi, if_false] at hq ⊢
      exact ⟨.exit i, K', jj', e', B', H', rfl, g', t', d', f, hq⟩
  | ret => exact ⟨.ret, K', jj', e', B', H', rfl, g', t', d', f, hq⟩

/-- A loop: a relation that bears a number, which every round lowers. -/
def Again (I : Nat → Env → Box → OHeap → Prop) (m : Nat) (Q : Post) : Post := fun x e B H =>
  match x with
  | .norm => ∃ m', m' < m ∧ I m' e B H
  | .exit i => Q (.exit i) e B H
  | .ret => Q .ret e B H

theorem WP.loop {c : Code} (I : Nat → Env → Box → OHeap → Prop) (m₀ : Nat) (h₀ : I m₀ e B H) (round : ∀ m e B H, I m e B H → WP P ρ N c (Again I m Q) e B H) :
    WP P ρ N (.loop c) Q e B H := by
  intro hd n m K jj w a g t d
  let J : Nat → Act → World → Prop := fun k a' w' => ∃ K' jj' e' B' H', Good K' jj' B' H' w' ∧ TE K' jj' B' N e' a'.tmps ∧ Dok m (dom H' B' jj') w' a'.defers ∧ Fr (dom H B jj) w K (dom H' B' jj') w' K' ∧ I k e' B' H'
  refine wpIn_loop (fun a' w' => ∃ k, J k a' w') (fun a' w' => leastOf (fun k => J k a' w')) ⟨m₀, K, jj, e, B, H, g, t, d, Fr.refl _ _ _, h₀⟩ ?_
  intro a' w' hJ
  obtain ⟨hl, hmin⟩ := leastOf_spec hJ
  generalize leastOf (fun k => J k a' w') = k at hl hmin
  obtain ⟨K', jj', e', B', H', g', t', d', f, hI⟩ := hl
  refine wpIn_mono (round k e' B' H' hI hd n m K' jj' w' a' g' t' d') ?_
  rintro ex a'' w'' ⟨z, K'', jj'', e'', B'', H'', rfl, g'', t'', d'', f', hq⟩
  cases z with
  | norm =>
    obtain ⟨m', hm, hI'⟩ := hq
    have hJ' : J m' a'' w'' := ⟨K'', jj'', e'', B'', H'', g'', t'', d'', f.trans f', hI'⟩
    exact ⟨⟨m', hJ'⟩, Nat.lt_of_le_of_lt ((leastOf_spec ⟨m', hJ'⟩).2 m' hJ') hm⟩
  | exit i => exact ⟨.exit i, K'', jj'', e'', B'', H'', rfl, g'', t'', d'', f.trans f', hq⟩
  | ret => exact ⟨.ret, K'', jj'', e'', B'', H'', rfl, g'', t'', d'', f.trans f', hq⟩

/-! ### A scope whose labels nobody jumps to -/
theorem stepR_scope {b : Frame} {a : Act} {k : List Item} {cs : List Frame} {w : World} {c : Code} : step P (lone (b.atR a (.code (.scope c) :: k)) cs w) = .next (lone (b.atR a (.code c :: .inScope c :: k)) cs w) :=
  step_lone_go (by simp [stepG, stepG.exec, Frame.atR])
theorem stepR_inScope {b : Frame} {a : Act} {k : List Item} {cs : List Frame} {w : World} {c : Code} : step P (lone (b.atR a (.inScope c :: k)) cs w) = .next (lone (b.atR a k) cs w) :=
  step_lone_go (by simp [stepG, stepG.exec, Frame.atR])

theorem WP.scope {c : Code} (h : WP P ρ N c Q e B H) : WP P ρ N (.scope c) Q e B H := by
  intro hd n m K jj w a g t d b k cs hro hb hr
  have h0 : (lone (b.atR a (.code (.scope c) :: k)) cs w).fenced P (Fw ρ) := fenced_calm hb hr rfl
  obtain ⟨ex, a', w', hq, harr⟩ := h hd n m K jj w a g t d b (.inScope c :: k) cs hro hb hr
  refine ⟨ex, a', w', hq, ?_⟩
  obtain ⟨z, K', jj', e', B', H', rfl, _⟩ := hq
  cases z with
  | norm => exact .head h0 stepR_scope (StepsIn.trans harr (.one (fenced_calm hb hr rfl) stepR_inScope))
  | exit i =>
    have hx : exitTo i (.inScope c :: k) = exitTo i k := by simp [exitTo]
    exact ⟨fun k' hk => .head h0 stepR_scope (harr.1 k' (by rw [hx]; exact hk)), fun hr' hk => let ⟨k₁, h1, h2⟩ := harr.2 hr' (by rw [hx]; exact hk); ⟨k₁, h1, .head h0 stepR_scope h2⟩⟩
  | ret => exact .of_steps (.one h0 stepR_scope) harr

/-- Less is said. -/
def Below (e e' : Env) (B B' : Box) (H H' : OHeap) : Prop :=
  ∀ K jj w tmps, Good K jj B H w → TE K jj B N e tmps → ∃ K' jj', Good K' jj' B' H' w ∧ TE K' jj' B' N e' tmps ∧ Fr (dom H B jj) w K (dom H' B' jj') w K'

theorem WP.below {c : Code} {e' : Env} {B' : Box} {H' : OHeap} (hb : Below (N := N) e e' B B' H H') (h : WP P ρ N c Q e' B' H') : WP P ρ N c Q e B H := by
  intro hd n m K jj w a g t d
  obtain ⟨K', jj', g', t', f⟩ := hb K jj w a.tmps g t
  exact wpIn_mono (h hd n m K' jj' w a g' t' (d.fr f)) fun _ _ _ hl => hl.fr f

theorem Below.refl : Below (N := N) e e B B H H := fun K jj _ _ g t => ⟨K, jj, g, t, Fr.refl _ _ _⟩
end
end Go.Lv
/- Lv, part C: the table of types, loads, and the operations that yield a value and change nothing that is owned. Over any program; no condition. -/
namespace Go.Lv
open Go
set_option linter.unusedVariables false
set_option linter.unusedSimpArgs false

/-! ### The table of types -/
inductive TK where
  | bool
  | int (k : IntKind)
  | str
  | ptr (e : TypeId)
  | slice (e : TypeId)
  | arr (n : Nat) (e : TypeId)
  | map (k e : TypeId)
  | struct (fs : List (TypeId × Nat))
  | func
  | iface
  | other
  deriving DecidableEq

def TK.ofDesc : TypeDesc → TK
  | .bool => .bool
  | .int k => .int k
  | .string => .str
  | .pointer e => .ptr e
  | .slice e => .slice e
  | .array n e => .arr n e
  | .map k e => .map k e
  | .struct fs => .struct (fs.toList.map fun f => (f.type, f.offset))
  | .func .. => .func
  | .interface _ => .iface
  | _ => .other

def TK.agg : TK → Bool
  | .arr .. | .struct _ => true
  | _ => false

structure TI where
  kind : TK
  size : Nat
  bytes : Nat
  zero : List LV

abbrev Tab := TypeId → Option TI

/-- Two values of one cell that are known. -/
def LV.beq1 : LV → LV → Bool
  | .bool a, .bool b => a == b
  | .int k a, .int l b => k == l && a == b
  | .str s, .str t => s.data == t.data
  | .nilp, .nilp | .nilsl, .nilsl | .nilm, .nilm | .nilf, .nilf | .nilif, .nilif => true
  | _, _ => false

theorem LV.beq1_eq {x y : LV} (h : x.beq1 y = true) : x = y := by
  cases x <;> cases y <;> simp [LV.beq1] at h ⊢ <;> first | exact h | (rename_i s t; cases s; cases t; simpa using h)

def LV.beqs : List LV → List LV → Bool
  | [], [] => true
  | x :: xs, y :: ys => x.beq1 y && LV.beqs xs ys
  | _, _ => false
theorem LV.beqs_eq : ∀ {xs ys : List LV}, LV.beqs xs ys = true → xs = ys
  | [], [], _ => rfl
  | x :: xs, y :: ys, h => by simp [LV.beqs] at h; rw [LV.beq1_eq h.1, LV.beqs_eq h.2]
  | [], _ :: _, h => by simp [LV.beqs] at h
  | _ :: _, [], h => by simp [LV.beqs] at h

def tiOk (P : Program) (t : TypeId) (ti : TI) : Bool :=
  match P.info? t, P.underlying t with
  | some i, some d => decide (TK.ofDesc d = ti.kind) && i.size == ti.size && i.bytes == ti.bytes && ti.zero.length == ti.size && ti.zero.all LV.one &&
      (match i.zero with | some z => LV.beqs (z.cells.toList.map ofV1) ti.zero && (match z with | .agg _ => ti.kind.agg | _ => !ti.kind.agg) | none => false)
  | _, _ => false

structure TIok (P : Program) (t : TypeId) (ti : TI) : Prop where
  und : ∃ d, P.underlying t = some d ∧ TK.ofDesc d = ti.kind
  info : ∃ i z, P.info? t = some i ∧ i.size = ti.size ∧ i.bytes = ti.bytes ∧ i.zero = some z ∧ z.cells.toList.map ofV1 = ti.zero ∧ ((∃ cs, z = .agg cs) ↔ ti.kind.agg = true)
  len : ti.zero.length = ti.size
  one : ∀ x ∈ ti.zero, x.one = true

theorem TIok.of {P : Program} {t : TypeId} {ti : TI} (h : tiOk P t ti = true) : TIok P t ti := by
  unfold tiOk at h
  split at h
  · rename_i i d hi hd
    simp only [Bool.and_eq_true, decide_eq_true_eq, beq_iff_eq] at h
    obtain ⟨⟨⟨⟨⟨h1, h2⟩, h3⟩, h4⟩, h4'⟩, h5⟩ := h
    split at h5
    · rename_i z hz
      simp only [Bool.and_eq_true] at h5
      refine ⟨⟨d, hd, h1⟩, ⟨i, z, hi, h2, h3, hz, LV.beqs_eq h5.1, ?_⟩, h4, List.all_eq_true.1 h4'⟩
      have h6 := h5.2
      split at h6
      · exact ⟨fun _ => h6, fun _ => ⟨_, rfl⟩⟩
      · rename_i hne
        refine ⟨fun ⟨cs, hc⟩ => absurd hc (hne cs), fun ha => by simp [ha] at h6⟩
    · simp at h5
  · simp at h

def TK.flat : TK → Bool | .bool | .int _ | .str => true | _ => false
/-- All its fields are whole numbers, truth values, strings. -/
def flatT (T : Tab) (fs : List (TypeId × Nat)) : Bool := fs.all fun f => match T f.1 with | some fi => fi.kind.flat | none => false
/-- What the model asks ahead of == at a struct. -/
def eqChk (P : Program) (t : TypeId) : Bool := !P.stoodInHeld t && !P.eqGuardType P.depth t && (match P.underlying t with | some (.struct fields) => fields.toList.all fun f => f.name != "_" | _ => false)
structure TOK (P : Program) (T : Tab) : Prop where
  ok : ∀ t ti, T t = some ti → TIok P t ti
  eqs : ∀ t ti fs, T t = some ti → ti.kind = .struct fs → flatT T fs = true → eqChk P t = true
instance {P : Program} {T : Tab} : CoeFun (TOK P T) fun _ => ∀ t ti, T t = some ti → TIok P t ti := ⟨TOK.ok⟩

/-- A table given by a list is held against the program by one computation. -/
def Tab.ofList (l : List (TypeId × TI)) : Tab := fun t => (l.find? fun x => x.1 == t).map (·.2)
theorem TOK.ofList {P : Program} {l : List (TypeId × TI)} (hh : (l.all fun x => tiOk P x.1 x.2 && (match x.2.kind with | .struct fs => !flatT (Tab.ofList l) fs || eqChk P x.1 | _ => true)) = true) : TOK P (Tab.ofList l) := by
  have h : (l.all fun x => tiOk P x.1 x.2) = true := by
    rw [List.all_eq_true] at hh ⊢
    intro x hx
    have := hh x hx
    simp only [Bool.and_eq_true] at this
    exact this.1
  refine ⟨?_, ?_⟩
  case refine_2 =>
    intro t ti fs ht hk hf
    simp only [Tab.ofList, Option.map_eq_some_iff] at ht
    obtain ⟨x, hx, rfl⟩ := ht
    have h1 := List.find?_some hx
    have h2 := List.mem_of_find?_eq_some hx
    simp only [beq_iff_eq] at h1
    rw [List.all_eq_true] at hh
    have := hh x h2
    simp only [Bool.and_eq_true, hk, hf, Bool.not_true, Bool.false_or] at this
    rw [← h1]; exact this.2
  intro t ti ht
  simp only [Tab.ofList, Option.map_eq_some_iff] at ht
  obtain ⟨x, hx, rfl⟩ := ht
  have h1 := List.find?_some hx
  have h2 := List.mem_of_find?_eq_some hx
  simp only [beq_iff_eq] at h1
  rw [← h1]
  exact TIok.of (List.all_eq_true.1 h x h2)

section
variable {P : Program} {t : TypeId} {ti : TI}

theorem TIok.run_und (h : TIok P t ti) : ∃ d, TK.ofDesc d = ti.kind ∧ ∀ w, (underlying t).run P w = .ok d w := by
  obtain ⟨d, hd, hk⟩ := h.und
  exact ⟨d, hk, fun w => run_underlying hd w⟩

theorem ofDesc_slice {d : TypeDesc} {e : TypeId} (h : TK.ofDesc d = .slice e) : d = .slice e := by cases d <;> simp [TK.ofDesc] at h <;> simp [h]
theorem ofDesc_arr {d : TypeDesc} {n : Nat} {e : TypeId} (h : TK.ofDesc d = .arr n e) : d = .array n e := by cases d <;> simp [TK.ofDesc] at h <;> simp [h]
theorem ofDesc_map {d : TypeDesc} {k e : TypeId} (h : TK.ofDesc d = .map k e) : d = .map k e := by cases d <;> simp [TK.ofDesc] at h <;> simp [h]
theorem ofDesc_int {d : TypeDesc} {k : IntKind} (h : TK.ofDesc d = .int k) : d = .int k := by cases d <;> simp [TK.ofDesc] at h <;> simp [h]
theorem ofDesc_str {d : TypeDesc} (h : TK.ofDesc d = .str) : d = .string := by cases d <;> simp [TK.ofDesc] at h <;> rfl
theorem ofDesc_bool {d : TypeDesc} (h : TK.ofDesc d = .bool) : d = .bool := by cases d <;> simp [TK.ofDesc] at h <;> rfl
theorem ofDesc_ptr {d : TypeDesc} {e : TypeId} (h : TK.ofDesc d = .ptr e) : d = .pointer e := by cases d <;> simp [TK.ofDesc] at h <;> simp [h]
theorem ofDesc_func {d : TypeDesc} (h : TK.ofDesc d = .func) : ∃ a b c, d = .func a b c := by cases d <;> simp [TK.ofDesc] at h; exact ⟨_, _, _, rfl⟩
theorem ofDesc_iface {d : TypeDesc} (h : TK.ofDesc d = .iface) : ∃ m, d = .interface m := by cases d <;> simp [TK.ofDesc] at h; exact ⟨_, rfl⟩
theorem ofDesc_struct {d : TypeDesc} {fs : List (TypeId × Nat)} (h : TK.ofDesc d = .struct fs) : ∃ fields : Array Field, d = .struct fields ∧ fields.toList.map (fun f => (f.type, f.offset)) = fs := by
  cases d <;> simp [TK.ofDesc] at h; exact ⟨_, rfl, h⟩

theorem TIok.run_slice {e : TypeId} (h : TIok P t ti) (hk : ti.kind = .slice e) (w : World) : (underlying t).run P w = .ok (.slice e) w := by
  obtain ⟨d, h1, h2⟩ := h.run_und; rw [hk] at h1; rw [ofDesc_slice h1] at h2; exact h2 w
theorem TIok.run_arr {n : Nat} {e : TypeId} (h : TIok P t ti) (hk : ti.kind = .arr n e) (w : World) : (underlying t).run P w = .ok (.array n e) w := by
  obtain ⟨d, h1, h2⟩ := h.run_und; rw [hk] at h1; rw [ofDesc_arr h1] at h2; exact h2 w
theorem TIok.run_map {k e : TypeId} (h : TIok P t ti) (hk : ti.kind = .map k e) (w : World) : (underlying t).run P w = .ok (.map k e) w := by
  obtain ⟨d, h1, h2⟩ := h.run_und; rw [hk] at h1; rw [ofDesc_map h1] at h2; exact h2 w
theorem TIok.run_int {k : IntKind} (h : TIok P t ti) (hk : ti.kind = .int k) (w : World) : (underlying t).run P w = .ok (.int k) w := by
  obtain ⟨d, h1, h2⟩ := h.run_und; rw [hk] at h1; rw [ofDesc_int h1] at h2; exact h2 w
theorem TIok.run_str (h : TIok P t ti) (hk : ti.kind = .str) (w : World) : (underlying t).run P w = .ok .string w := by
  obtain ⟨d, h1, h2⟩ := h.run_und; rw [hk] at h1; rw [ofDesc_str h1] at h2; exact h2 w
theorem TIok.run_bool (h : TIok P t ti) (hk : ti.kind = .bool) (w : World) : (underlying t).run P w = .ok .bool w := by
  obtain ⟨d, h1, h2⟩ := h.run_und; rw [hk] at h1; rw [ofDesc_bool h1] at h2; exact h2 w
theorem TIok.run_ptr {e : TypeId} (h : TIok P t ti) (hk : ti.kind = .ptr e) (w : World) : (underlying t).run P w = .ok (.pointer e) w := by
  obtain ⟨d, h1, h2⟩ := h.run_und; rw [hk] at h1; rw [ofDesc_ptr h1] at h2; exact h2 w
theorem TIok.run_struct {fs : List (TypeId × Nat)} (h : TIok P t ti) (hk : ti.kind = .struct fs) : ∃ fields : Array Field, fields.toList.map (fun f => (f.type, f.offset)) = fs ∧ ∀ w, (underlying t).run P w = .ok (.struct fields) w := by
  obtain ⟨d, h1, h2⟩ := h.run_und; rw [hk] at h1
  obtain ⟨fields, rfl, hf⟩ := ofDesc_struct h1
  exact ⟨fields, hf, h2⟩

theorem TIok.run_size (h : TIok P t ti) (w : World) : (sizeOf t).run P w = .ok ti.size w := by
  obtain ⟨i, z, hi, hs, _⟩ := h.info
  simp [sizeOf, typeInfo, hi, hs]

theorem TIok.run_agg (h : TIok P t ti) (w : World) : (isAgg t).run P w = .ok ti.kind.agg w := by
  obtain ⟨d, h1, h2⟩ := h.run_und
  simp only [isAgg, Sem.run_bind, h2 w, Result.andThen_ok]
  rw [← h1]
  cases d <;> simp [TK.ofDesc, TK.agg]

theorem TIok.run_zero (h : TIok P t ti) (K : Know) : ∃ z, (∀ w, (zeroValue t).run P w = .ok z w) ∧ Rs K ti.zero z.cells.toList ∧ z.cells.size = ti.size ∧
    (ti.kind.agg = true → z = .agg z.cells) ∧ (ti.kind.agg = false → ∃ x, ti.zero = [x] ∧ R K x z ∧ x.one = true) ∧ (∀ x ∈ ti.zero, x.one = true) := by
  obtain ⟨i, z, hi, hs, _, hz, hm, ha⟩ := h.info
  have hone := h.one
  refine ⟨z, fun w => by simp [zeroValue, typeInfo, hi, hz], ?_, ?_, ?_, ?_, hone⟩
  · rw [← hm]
    refine ⟨by simp, fun j x v hx hv => ?_⟩
    rw [List.getElem?_map, hv] at hx
    simp at hx; subst hx; exact R.ofV1 K v
  · rw [← Array.length_toList, ← h.len, ← hm]; simp
  · intro h1; obtain ⟨cs, rfl⟩ := ha.2 h1; rfl
  · intro h1
    have hn : ∀ cs, z ≠ .agg cs := fun cs hc => by have := ha.1 ⟨cs, hc⟩; simp [h1] at this
    have hc : z.cells = #[z] := by cases z <;> first | rfl | exact absurd rfl (hn _)
    refine ⟨ofV1 z, by rw [← hm, hc]; simp, R.ofV1 K z, hone _ (by rw [← hm, hc]; simp)⟩
end

/-! ### Loads -/
section
variable {P : Program} {K : Know} {jj : Nat → Nat} {B : Box} {H : OHeap} {w : World}

/-- The cells from a pointer on, as far as they are known. -/
def cellsAt (B : Box) (H : OHeap) : LV → Option (List LV)
  | .bp d ver off => if (B d).1 = ver then (B d).2.map (·.drop off) else none
  | .ptr b off => match H b with
    | some (.cells cs _) => some (cs.drop off)
    | some (.blob (.cells arr _ _) _) => some ((arr.toList.map ofV1).drop off)
    | _ => none
  | .iptr cs => some cs
  | _ => none

theorem cellsAt_ok (g : Good K jj B H w) {p : LV} {v : Value} {cs : List LV} (hp : RE K jj B p v) (hc : cellsAt B H p = some cs) :
    ∃ b o, v = .pointer (some ⟨b, o, none⟩) ∧ ∀ (j : Nat) y, cs[j]? = some y → ∃ u, w.cell? ⟨b, o + j, none⟩ = some u ∧ R K y u := by
  unfold cellsAt at hc
  split at hc
  · rename_i d ver off
    split at hc
    · rename_i hv
      obtain ⟨l, hl, rfl⟩ := Option.map_eq_some_iff.1 hc
      have hb := g.box d (B d).1 l (by rw [← hl])
      obtain ⟨arr, T, fz, h1, h2, h3, h4, h5⟩ := hb
      refine ⟨jj d, off, hp.2 hv.symm (by simp [hl]), fun j y hy => ?_⟩
      rw [List.getElem?_drop] at hy
      obtain ⟨u, a1, _, a3⟩ := h4 _ y hy
      exact ⟨u, by simp [World.cell?, h1, a1], a3⟩
    · simp at hc
  · rename_i b off
    split at hc
    · rename_i l n hl
      simp at hc; subst hc
      obtain ⟨arr, T, fz, h1, h2, h3, h4, h5⟩ := g.own b _ hl
      have hv : R K (.ptr b off) v := hp
      cases hv
      refine ⟨b, off, rfl, fun j y hy => ?_⟩
      rw [List.getElem?_drop] at hy
      obtain ⟨u, a1, _, a3⟩ := h4 _ y hy
      exact ⟨u, by simp [World.cell?, h1, a1], a3⟩
    · rename_i arr T fz K0 hl
      simp at hc; subst hc
      obtain ⟨h1, _⟩ := g.own b _ hl
      have hv : R K (.ptr b off) v := hp
      cases hv
      refine ⟨b, off, rfl, fun j y hy => ?_⟩
      rw [← List.map_drop, List.getElem?_map, List.getElem?_drop] at hy
      obtain ⟨u, a1, rfl⟩ := Option.map_eq_some_iff.1 hy
      rw [Array.getElem?_toList] at a1
      exact ⟨u, by simp [World.cell?, h1, a1], R.ofV1 K u⟩
    · simp at hc
  · rename_i l
    simp at hc; subst hc
    have hv : R K (.iptr l) v := hp
    cases hv with
    | iptr _ b o us hK hR => exact ⟨b, o, rfl, fun j y hy => ⟨us j, g.know _ _ _ (hK j y hy), hR j y hy⟩⟩
  · simp at hc

theorem run_loadCellsFrom (b o : Nat) : ∀ (l : List Value) (i : Nat) (acc : Array Value), (∀ (j : Nat) v, l[j]? = some v → w.cell? ⟨b, o + (i + j), none⟩ = some v) →
    (loadCellsFrom ⟨b, o, none⟩ i l.length acc).run P w = .ok (acc ++ l.toArray) w
  | [], i, acc, _ => by simp [loadCellsFrom]
  | v :: l, i, acc, h => by
    have h0 := h 0 v rfl
    simp only [List.length_cons, loadCellsFrom, Addr.add_lit, Sem.run_bind, run_load]
    rw [show o + (i + 0) = o + i by omega] at h0
    simp only [h0, Result.andThen_ok]
    rw [run_loadCellsFrom b o l (i + 1) (acc.push v) (fun j u hu => by have := h (j + 1) u (by simpa using hu); rwa [show i + 1 + j = i + (j + 1) by omega])]
    congr 1
    apply Array.ext'
    simp

theorem run_loadCells (b o : Nat) (l : List Value) (h : ∀ (j : Nat) v, l[j]? = some v → w.cell? ⟨b, o + j, none⟩ = some v) :
    (loadCells ⟨b, o, none⟩ l.length).run P w = .ok l.toArray w := by
  unfold loadCells
  rw [run_loadCellsFrom b o l 0 #[] (fun j v hv => by rw [Nat.zero_add]; exact h j v hv)]
  simp

/-- Known cells have values. -/
theorem cells_vals {b o : Nat} {cs : List LV} (h : ∀ (j : Nat) y, cs[j]? = some y → ∃ u, w.cell? ⟨b, o + j, none⟩ = some u ∧ R K y u) :
    ∃ vs, Rs K cs vs ∧ ∀ (j : Nat) v, vs[j]? = some v → w.cell? ⟨b, o + j, none⟩ = some v := by
  induction cs generalizing o with
  | nil => exact ⟨[], Rs.nil K, fun j v h => by simp at h⟩
  | cons x cs ih =>
    obtain ⟨u, h1, h2⟩ := h 0 x rfl
    obtain ⟨vs, h3, h4⟩ := ih (o := o + 1) (fun j y hy => by have := h (j + 1) y (by simpa using hy); rwa [show o + (j + 1) = o + 1 + j by omega] at this)
    refine ⟨u :: vs, h3.cons h2, fun j v hv => ?_⟩
    cases j with
    | zero => simp at hv; subst hv; simpa using h1
    | succ j => have := h4 j v (by simpa using hv); rwa [show o + 1 + j = o + (j + 1) by omega] at this

/-- A variable of a type, out of the cells from its address on. -/
def pick (ti : TI) (cs : List LV) : Option LV :=
  if ti.kind.agg then (if ti.size ≤ cs.length then some (.agg (cs.take ti.size)) else none) else cs.head?

theorem run_loadVar {t : TypeId} {ti : TI} (ht : TIok P t ti) {b o : Nat} {cs : List LV} {x : LV} (h : ∀ (j : Nat) y, cs[j]? = some y → ∃ u, w.cell? ⟨b, o + j, none⟩ = some u ∧ R K y u)
    (hx : pick ti cs = some x) : ∃ v, (loadVar t ⟨b, o, none⟩).run P w = .ok v w ∧ R K x v := by
  unfold pick at hx
  split at hx
  · rename_i ha
    split at hx
    · rename_i hle
      simp at hx; subst hx
      obtain ⟨vs, h1, h2⟩ := cells_vals h
      have hl : (vs.take ti.size).length = ti.size := by rw [List.length_take, h1.1]; omega
      refine ⟨.agg (vs.take ti.size).toArray, ?_, .agg _ _ (h1.take _).1 (h1.take _).2⟩
      simp only [loadVar, Sem.run_bind, ht.run_agg w, Result.andThen_ok, ha, if_true, ht.run_size w, Sem.run_pure]
      have := run_loadCells (P := P) (w := w) b o (vs.take ti.size) (fun j v hv => h2 j v (by rw [List.getElem?_take] at hv; split at hv <;> first | exact hv | simp at hv))
      rw [hl] at this
      simp [this]
    · simp at hx
  · rename_i ha
    cases cs with
    | nil => simp at hx
    | cons y cs =>
      simp at hx; subst hx
      obtain ⟨u, h1, h2⟩ := h 0 y rfl
      refine ⟨u, ?_, h2⟩
      have h1' : w.cell? ⟨b, o, none⟩ = some u := by simpa using h1
      have ha' : ti.kind.agg = false := by simpa using ha
      simp [loadVar, ht.run_agg w, ha', h1']
end
end Go.Lv
/- Lv, part D: the operations that yield a value and change nothing that is owned: what they yield (pf), and that it is so. Over any program; no condition. -/
namespace Go.Lv
open Go
set_option linter.unusedVariables false
set_option linter.unusedSimpArgs false

/-- In any state that fits, the operation yields x. -/
def Yields (P : Program) (o : Oper) (e : Env) (B : Box) (H : OHeap) (x : LV) : Prop :=
  ∀ K jj w (a : Act) N, Good K jj B H w → TE K jj B N e a.tmps →
    ∃ v w' K', (execOp a.eval o).run P w = .ok (.value v) w' ∧ Good K' jj B H w' ∧ RE K' jj B x v ∧ Fr (dom H B jj) w K (dom H B jj) w' K'

section
variable {P : Program} {e : Env} {B : Box} {H : OHeap} {o : Oper} {x : LV}

theorem Yields.still (h : ∀ K jj w (a : Act) N, Good K jj B H w → TE K jj B N e a.tmps → ∃ v, (execOp a.eval o).run P w = .ok (.value v) w ∧ RE K jj B x v) : Yields P o e B H x :=
  fun K jj w a N g t => let ⟨v, h1, h2⟩ := h K jj w a N g t; ⟨v, w, K, h1, g, h2, Fr.refl _ _ _⟩

theorem run_value {s : Sem Value} {v : Value} {w w' : World} (h : s.run P w = .ok v w') : (do pure (Next.value (← s)) : Sem Next).run P w = .ok (.value v) w' := by
  simp [h]

theorem beqd {α : Type} [BEq α] [LawfulBEq α] [DecidableEq α] (a b : α) : (a == b) = decide (a = b) := by
  by_cases h : a = b <;> simp [h]

/-! #### Arithmetic -/
def binI (op : BinOp) (k : IntKind) (a b : Int) : Option LV :=
  match op with
  | .add => some (.int k (k.wrap (a + b)))
  | .sub => some (.int k (k.wrap (a - b)))
  | .mul => some (.int k (k.wrap (a * b)))
  | .quo => if b = 0 then none else some (.int k (k.wrap (a.tdiv b)))
  | .rem => if b = 0 then none else some (.int k (a.tmod b))
  | .and => some (.int k (bits .and k a b))
  | .or => some (.int k (bits .or k a b))
  | .xor => some (.int k (bits .xor k a b))
  | .andNot => some (.int k (bits .andNot k a b))
  | .eql => some (.bool (decide (a = b)))
  | .neq => some (.bool (!decide (a = b)))
  | .lss => some (.bool (decide (a < b)))
  | .leq => some (.bool (decide (a ≤ b)))
  | .gtr => some (.bool (decide (b < a)))
  | .geq => some (.bool (decide (b ≤ a)))
  | _ => none

def shiftI (op : BinOp) (k : IntKind) (a b : Int) : Option LV :=
  if b < 0 then none else
  match op with
  | .shl => some (.int k (k.wrap (a * 2 ^ (min b.toNat k.bits))))
  | .shr => some (.int k (a / 2 ^ (min b.toNat k.bits)))
  | _ => none

def BinOp.isShift : BinOp → Bool
  | .shl | .shr => true
  | _ => false

def eqB (op : BinOp) (b : Bool) : Option LV :=
  match op with
  | .eql => some (.bool b)
  | .neq => some (.bool (!b))
  | _ => none

def binS (op : BinOp) (s t : ByteArray) : Option LV :=
  match op with
  | .add => if s.size + t.size ≤ 9223372036854775807 then some (.str (s ++ t)) else none
  | .eql => some (.bool (decide (s.toList = t.toList)))
  | .neq => some (.bool (!decide (s.toList = t.toList)))
  | _ => none

/-- Is it surely not nil, or nil? -/
def nilB : LV → Option Bool
  | .nilp | .nilsl | .nilm | .nilf | .nilif => some true
  | .isl _ _ xs => if xs.isEmpty = true then none else some false
  | .ptr .. | .iptr _ | .sl .. | .wsl | .mp _ | .fn .. | .yld _ | .ifc .. | .bp .. => some false
  | _ => none

def isNilC : LV → Bool
  | .nilp | .nilsl | .nilm | .nilf | .nilif => true
  | _ => false

/-- Which kinds may be held against nil, and what stands for it there. -/
def nilK : TK → LV → Bool
  | .ptr _, .nilp | .ptr _, .ptr .. | .ptr _, .iptr _ => true
  | .slice _, .nilsl | .slice _, .sl .. | .slice _, .isl .. | .slice _, .wsl => true
  | .map .., .nilm | .map .., .mp _ => true
  | .func, .nilf | .func, .fn .. | .func, .yld _ => true
  | _, _ => false

def eq1 : TK → LV → LV → Option Bool
  | .int _, .int k a, .int l b => if k = l then some (decide (a = b)) else none
  | .bool, .bool a, .bool b => some (a == b)
  | .str, .str s, .str u => some (decide (s = u))
  | _, _, _ => none
def eqF (T : Tab) : List (TypeId × Nat) → List LV → List LV → Option Bool
  | [], _, _ => some true
  | (t, off) :: fs, cs, ds => match T t, cs[off]?, ds[off]? with
    | some ti, some x, some y => (eq1 ti.kind x y).bind fun b => (eqF T fs cs ds).map (b && ·)
    | _, _, _ => none

def binL (T : Tab) (op : BinOp) (t : TypeId) (x y : LV) : Option LV :=
  match x, y with
  | .int k a, .int l b => if BinOp.isShift op then shiftI op k a b else if k = l then binI op k a b else none
  | .str s, .str u => binS op s u
  | .bool a, .bool b => match T t with
    | some ti => if ti.kind = .bool then eqB op (a == b) else none
    | none => none
  | .agg cs, .agg ds => match T t with
    | some ti => match ti.kind with
      | .struct fs => if flatT T fs = true then (eqF T fs cs ds).bind (eqB op) else none
      | _ => none
    | none => none
  | x, y => match T t with
    | some ti =>
      if nilK ti.kind x && nilK ti.kind y then
        (if isNilC y then (nilB x).bind (eqB op) else if isNilC x then (nilB y).bind (eqB op) else none)
      else none
    | none => none

theorem run_binI {op : BinOp} {k : IntKind} {a b : Int} {x : LV} (t : TypeId) (h : binI op k a b = some x) (hs : BinOp.isShift op = false) (K : Know) (w : World) :
    ∃ v, (binOp op t (.int k a) (.int k b)).run P w = .ok v w ∧ R K x v := by
  cases op <;> simp only [binI, reduceCtorEq, Option.some.injEq] at h <;> first
    | (subst h; exact ⟨_, by first | (rw [binOp_add]; rfl) | (rw [binOp_sub]; rfl) | (rw [binOp_mul]; rfl) | (rw [binOp_and]; rfl) | (rw [binOp_or]; rfl) | (rw [binOp_xor]; rfl) | (rw [binOp_andNot]; rfl), .int _ _⟩)
    | (subst h; exact ⟨_, by first | (rw [binOp_lss]; rfl) | (rw [binOp_leq]; rfl) | (rw [binOp_gtr]; rfl) | (rw [binOp_geq]; rfl), .bool _⟩)
    | (subst h; rw [binOp_eql]; exact ⟨_, rfl, by rw [show (a == b) = decide (a = b) from rfl]; exact .bool _⟩)
    | (subst h; rw [binOp_neq]; exact ⟨_, rfl, by rw [show (a != b) = !decide (a = b) from rfl]; exact .bool _⟩)
    | (split at h
       · simp at h
       · rename_i hb
         simp at h; subst h
         first
           | (rw [binOp_quo]; simp only [Op.intDiv, hb, if_false]; exact ⟨_, rfl, .int _ _⟩)
           | (rw [binOp_rem]; simp only [Op.intDiv, hb, if_false]; exact ⟨_, rfl, .int _ _⟩))
    | (simp [BinOp.isShift] at hs)

theorem run_shiftI {op : BinOp} {k l : IntKind} {a b : Int} {x : LV} (t : TypeId) (h : shiftI op k a b = some x) (K : Know) (w : World) :
    ∃ v, (binOp op t (.int k a) (.int l b)).run P w = .ok v w ∧ R K x v := by
  unfold shiftI at h
  split at h
  · simp at h
  · rename_i hb
    cases op <;> simp only [reduceCtorEq, Option.some.injEq] at h
    · subst h; rw [binOp_shl]; simp only [Op.shift, hb, if_false]; exact ⟨_, rfl, .int _ _⟩
    · subst h; rw [binOp_shr]; simp only [Op.shift, hb, if_false]
      refine ⟨_, rfl, ?_⟩
      rw [Int.fdiv_eq_ediv_of_nonneg _ (Int.pow_nonneg (by decide))]
      exact .int _ _

theorem run_binS {op : BinOp} {s u : ByteArray} {x : LV} (t : TypeId) (h : binS op s u = some x) (K : Know) (w : World) :
    ∃ v, (binOp op t (.string s) (.string u)).run P w = .ok v w ∧ R K x v := by
  cases op <;> simp only [binS, reduceCtorEq, Option.some.injEq] at h
  · split at h
    · rename_i hle
      simp at h; subst h
      refine ⟨.string (s ++ u), ?_, .str _⟩
      simp [binOp, Op.stringOp]
      omega
    · simp at h
  · subst h; exact ⟨.bool (decide (s.toList = u.toList)), by simp [binOp, Op.stringOp, beqd], .bool _⟩
  · subst h; exact ⟨.bool (!decide (s.toList = u.toList)), by simp [binOp, Op.stringOp, beqd], .bool _⟩

/-! #### == at a struct of flat fields -/
theorem run_eq1 {P : Program} {t : TypeId} {ti : TI} (ht : TIok P t ti) {K : Know} {x y : LV} {u v : Value} {b : Bool} (h : eq1 ti.kind x y = some b) (rx : R K x u) (ry : R K y v) (d : Nat) (w : World) : (Op.equalIn (d + 1) t u v).run P w = .ok b w := by
  unfold eq1 at h
  split at h
  · rename_i k0 k a l b' hk
    cases rx; cases ry
    split at h
    · rename_i hkl; subst hkl
      simp at h; subst h
      unfold Op.equalIn
      simp [ht.run_int hk w]
      rfl
    · simp at h
  · rename_i a b' hk
    cases rx; cases ry
    simp at h; subst h
    unfold Op.equalIn
    simp [ht.run_bool hk w]
  · rename_i s u' hk
    cases rx; cases ry
    simp at h; subst h
    unfold Op.equalIn
    simp only [Sem.run_bind, ht.run_str hk w, Result.andThen_ok, Sem.run_pure]
    congr 1
    rw [Bool.eq_iff_iff]
    obtain ⟨a⟩ := s
    obtain ⟨b⟩ := u'
    simp only [decide_eq_true_eq, ByteArray.mk.injEq]
    show (a == b) = true ↔ a = b
    simp
  · simp at h

theorem eq1_flat {k : TK} {x y : LV} {b : Bool} (h : eq1 k x y = some b) : k.agg = false := by
  cases k <;> first | rfl | simp [eq1] at h

theorem run_part1 {P : Program} {t : TypeId} {ti : TI} (ht : TIok P t ti) (ha : ti.kind.agg = false) {us : List Value} {off : Nat} {u : Value} (hu : us[off]? = some u) (w : World) : (part t us.toArray off).run P w = .ok u w := by
  simp [part, ht.run_agg w, ha, hu]

theorem run_eqF {P : Program} {T : Tab} (hT : TOK P T) {t : TypeId} {fields : Array Field} {K : Know} {cs ds : List LV} {us vs : List Value} (hu : P.underlying t = some (.struct fields)) (hs : P.stoodInHeld t = false) (hc : Rs K cs us) (hd : Rs K ds vs) (d : Nat) (w : World) (b : Bool)
    (h : eqF T (fields.toList.map fun f => (f.type, f.offset)) cs ds = some b) (hn : (fields.toList.all fun f => f.name != "_") = true) : (Op.equalIn (d + 2) t (.agg us.toArray) (.agg vs.toArray)).run P w = .ok b w := by
  unfold Op.equalIn
  simp only [Sem.run_bind, run_underlying hu, Result.andThen_ok, run_program, hs]
  simp only [Bool.false_eq_true, if_false]
  rw [← Array.forIn_toList]
  have key : ∀ (l : List Field) (b : Bool), eqF T (l.map fun f => (f.type, f.offset)) cs ds = some b → (l.all fun f => f.name != "_") = true →
      Sem.run P (forIn (m := Sem) l ((none : Option Bool), ()) fun f __s =>
              if f.name ≠ "_" then do
                let __do_lift ← part f.type us.toArray f.offset
                let __do_lift_1 ← part f.type vs.toArray f.offset
                let __do_lift ← Op.equalIn (d + 1) f.type __do_lift __do_lift_1
                if (!__do_lift) = true then pure (ForInStep.done (some false, ()))
                  else pure (ForInStep.yield (none, ()))
              else pure (ForInStep.yield (none, ()))) w = .ok (if b = true then (none, ()) else (some false, ())) w := by
    intro l
    induction l with
    | nil => intro b h _; simp [eqF] at h; subst h; simp
    | cons f l ih =>
      intro b h hn
      simp only [List.all_cons, Bool.and_eq_true, bne_iff_ne, ne_eq] at hn
      simp only [List.map_cons, eqF] at h
      split at h
      · rename_i ti x y hti hx hy
        obtain ⟨b1, h1, h⟩ := Option.bind_eq_some_iff.1 h
        obtain ⟨b2, h2, rfl⟩ := Option.map_eq_some_iff.1 h
        obtain ⟨u, hu1, hu2⟩ := hc.get hx
        obtain ⟨v, hv1, hv2⟩ := hd.get hy
        have e1 := run_part1 (hT _ _ hti) (eq1_flat h1) hu1 w
        have e2 := run_part1 (hT _ _ hti) (eq1_flat h1) hv1 w
        have e3 := run_eq1 (hT _ _ hti) h1 hu2 hv2 d w
        have ih2 := ih b2 h2 hn.2
        rw [List.forIn_cons]
        simp only [ne_eq, hn.1, not_false_eq_true, if_true, Sem.run_bind, e1, e2, e3, Result.andThen_ok]
        cases b1 <;> simp [ih2]
        simpa using ih2
      · simp at h
  have hk := key fields.toList b h hn
  simp only [Sem.run_bind, hk, Result.andThen_ok]
  cases b <;> simp

/-! #### Against nil -/
theorem run_equal_nil {T : TypeId} {ti : TI} (ht : TIok P T ti) {K : Know} {x y : LV} {u v : Value} {b : Bool} (hx : nilK ti.kind x = true) (hy : nilK ti.kind y = true) (rx : R K x u) (ry : R K y v)
    (hn : isNilC y = true) (hb : nilB x = some b) (w : World) : (Op.equal T u v).run P w = .ok b w := by
  unfold Op.equal Op.maxDepth Op.equalIn
  generalize hk : ti.kind = k at hx hy
  cases k <;> cases y <;> simp only [nilK, isNilC, reduceCtorEq, Bool.false_eq_true] at hy hn <;> cases ry <;>
    cases x <;> simp only [nilK, reduceCtorEq, Bool.false_eq_true] at hx <;> cases rx <;> simp only [nilB, Option.some.injEq, reduceCtorEq] at hb <;>
    first
      | (subst hb; simp [ht.run_ptr hk w])
      | (subst hb; simp [ht.run_slice hk w])
      | (split at hb
         · simp at hb
         · simp only [Option.some.injEq] at hb; subst hb
           first
             | (simp [ht.run_slice hk w]; done)
             | (exfalso; simp at *; done))
      | (subst hb; simp [ht.run_map hk w])
      | (subst hb; obtain ⟨d, h1, h2⟩ := ht.run_und; rw [hk] at h1; obtain ⟨a, b, c, rfl⟩ := ofDesc_func h1; simp [h2 w])

theorem run_equal_nil' {T : TypeId} {ti : TI} (ht : TIok P T ti) {K : Know} {x y : LV} {u v : Value} {b : Bool} (hx : nilK ti.kind x = true) (hy : nilK ti.kind y = true) (rx : R K x u) (ry : R K y v)
    (hn : isNilC x = true) (hb : nilB y = some b) (w : World) : (Op.equal T u v).run P w = .ok b w := by
  unfold Op.equal Op.maxDepth Op.equalIn
  generalize hk : ti.kind = k at hx hy
  cases k <;> cases x <;> simp only [nilK, isNilC, reduceCtorEq, Bool.false_eq_true] at hx hn <;> cases rx <;>
    cases y <;> simp only [nilK, reduceCtorEq, Bool.false_eq_true] at hy <;> cases ry <;> simp only [nilB, Option.some.injEq, reduceCtorEq] at hb <;>
    first
      | (subst hb; simp [ht.run_ptr hk w])
      | (subst hb; simp [ht.run_slice hk w])
      | (split at hb
         · simp at hb
         · simp only [Option.some.injEq] at hb; subst hb
           first
             | (simp [ht.run_slice hk w]; done)
             | (exfalso; simp at *; done))
      | (subst hb; simp [ht.run_map hk w])
      | (subst hb; obtain ⟨d, h1, h2⟩ := ht.run_und; rw [hk] at h1; obtain ⟨a, b, c, rfl⟩ := ofDesc_func h1; simp [h2 w])

theorem eqGuard_nilK {op : BinOp} {t : TypeId} {p q : Operand} {k : TK} {K : Know} {x : LV} {u v : Value} (hx : nilK k x = true) (rx : R K x u) : eqGuard op t p q u v = pure () := by
  cases k <;> cases x <;> simp only [nilK, reduceCtorEq, Bool.false_eq_true] at hx <;> cases rx <;> simp only [eqGuard_at_pointer, eqGuard_at_slice, eqGuard_at_map, eqGuard_at_func, eqGuard_at_nilFunc]

theorem nilK_bp {k : TK} {x : LV} (hx : nilK k x = true) : ∀ d ver off, x ≠ .bp d ver off := by
  intro d ver off h; subst h; cases k <;> simp [nilK] at hx

theorem binOp_eq {op : BinOp} {t : TypeId} {k : TK} {K : Know} {x : LV} {u v : Value} (hx : nilK k x = true) (rx : R K x u) {b : Bool} {z : LV} (hz : eqB op b = some z) {w : World}
    (he : (Op.equal t u v).run P w = .ok b w) : ∃ r, (binOp op t u v).run P w = .ok r w ∧ R K z r := by
  cases op <;> simp only [eqB, reduceCtorEq, Option.some.injEq] at hz <;> subst hz <;>
    cases k <;> cases x <;> simp only [nilK, reduceCtorEq, Bool.false_eq_true] at hx <;> cases rx <;>
    first
      | exact ⟨.bool b, by simp [binOp, he], .bool _⟩
      | exact ⟨.bool (!b), by simp [binOp, he], .bool _⟩

theorem pf_binOp {T : Tab} (hT : TOK P T) {op : BinOp} {t yt : TypeId} {p q : Operand} (ho : o.op = .binOp op t p q yt) (h : binL T op t (ev e p) (ev e q) = some x) : Yields P o e B H x := by
  refine Yields.still fun K jj w a N g te => ?_
  have rp := te.ev p
  have rq := te.ev q
  generalize ev e p = lp at h rp
  generalize ev e q = lq at h rq
  suffices hs : ∃ v, ((do eqGuard op t p q (a.eval p) (a.eval q); binOp op t (a.eval p) (a.eval q)) : Sem Value).run P w = .ok v w ∧ R K x v by
    obtain ⟨v, h1, h2⟩ := hs
    exact ⟨v, by simp only [execOp, ho]; exact run_value h1, h2.re⟩
  unfold binL at h
  split at h
  · rename_i k a' l b'
    have e1 : a.eval p = .int k a' := rp.int
    have e2 : a.eval q = .int l b' := rq.int
    rw [e1, e2, eqGuard_at_int]
    simp only [pure_bind]
    split at h
    · exact run_shiftI t h K w
    · rename_i hsh
      split at h
      · rename_i hkl; subst hkl
        exact run_binI t h (by simpa using hsh) K w
      · simp at h
  · rename_i s u
    have e1 : a.eval p = .string s := rp.str
    have e2 : a.eval q = .string u := rq.str
    rw [e1, e2, eqGuard_at_string]
    simp only [pure_bind]
    exact run_binS t h K w
  · rename_i b1 b2
    have e1 : a.eval p = .bool b1 := rp.bool
    have e2 : a.eval q = .bool b2 := rq.bool
    rw [e1, e2, eqGuard_at_bool]
    simp only [pure_bind]
    split at h
    · rename_i ti hti
      split at h
      · rename_i hk
        have he : (Op.equal t (.bool b1) (.bool b2)).run P w = .ok (b1 == b2) w := by
          unfold Op.equal Op.maxDepth Op.equalIn
          simp [(hT t ti hti).run_bool hk w]
        cases op <;> simp only [eqB, reduceCtorEq, Option.some.injEq] at h <;> subst h
        · exact ⟨_, by simp [binOp, he], .bool _⟩
        · exact ⟨_, by simp [binOp, he], .bool _⟩
      · simp at h
    · simp at h
  · rename_i cs ds
    split at h
    · rename_i ti hti
      split at h
      · rename_i fs hk
        split at h
        · rename_i hfl
          obtain ⟨b, hb, hz⟩ := Option.bind_eq_some_iff.1 h
          have hck := hT.eqs t ti fs hti hk hfl
          obtain ⟨desc, hd1, hd2⟩ := (hT t ti hti).und
          rw [hk] at hd2
          obtain ⟨fields, rfl, hf1⟩ := ofDesc_struct hd2
          simp only [eqChk, hd1, Bool.and_eq_true, Bool.not_eq_true'] at hck
          obtain ⟨⟨hc1, hc2⟩, hc3⟩ := hck
          have r1 : R K (.agg cs) (a.eval p) := rp
          have r2 : R K (.agg ds) (a.eval q) := rq
          obtain ⟨us, hus, hc⟩ : ∃ us : List Value, a.eval p = .agg us.toArray ∧ Rs K cs us := by
            generalize a.eval p = u at r1; cases r1 with | agg _ us hl hh => exact ⟨us, rfl, hl, hh⟩
          obtain ⟨vs, hvs, hd⟩ : ∃ vs : List Value, a.eval q = .agg vs.toArray ∧ Rs K ds vs := by
            generalize a.eval q = u at r2; cases r2 with | agg _ us hl hh => exact ⟨us, rfl, hl, hh⟩
          rw [← hf1] at hb
          have he : (Op.equal t (.agg us.toArray) (.agg vs.toArray)).run P w = .ok b w := run_eqF hT hd1 hc1 hc hd 9998 w b hb hc3
          rw [hus, hvs]
          have hg : (eqGuard op t p q (.agg us.toArray) (.agg vs.toArray)).run P w = .ok () w := by
            unfold eqGuard
            cases op <;> simp [hc2]
          cases op <;> simp only [eqB, reduceCtorEq, Option.some.injEq] at hz <;> subst hz
          · exact ⟨.bool b, by simp [Sem.run_bind, hg, binOp, he], .bool _⟩
          · exact ⟨.bool (!b), by simp [Sem.run_bind, hg, binOp, he], .bool _⟩
        · simp at h
      · simp at h
    · simp at h
  · split at h
    · rename_i ti hti
      split at h
      · rename_i hk
        simp only [Bool.and_eq_true] at hk
        have r1 := rp.r (nilK_bp hk.1)
        have r2 := rq.r (nilK_bp hk.2)
        rw [eqGuard_nilK hk.1 r1]
        simp only [pure_bind]
        split at h
        · rename_i hn
          obtain ⟨b, hb, hz⟩ := Option.bind_eq_some_iff.1 h
          exact binOp_eq hk.1 r1 hz (run_equal_nil (hT t ti hti) hk.1 hk.2 r1 r2 hn hb w)
        · split at h
          · rename_i hn
            obtain ⟨b, hb, hz⟩ := Option.bind_eq_some_iff.1 h
            exact binOp_eq hk.1 r1 hz (run_equal_nil' (hT t ti hti) hk.1 hk.2 r1 r2 hn hb w)
          · simp at h
      · simp at h
    · simp at h

/-! #### Moves, choices, loads, addresses -/
def pfPick (c a b : LV) : Option LV :=
  match c with
  | .bool t => some (bif t then a else b)
  | _ => none

theorem RE.cond {K : Know} {jj : Nat → Nat} {t : Bool} {y z : LV} {u v : Value} (h : RE K jj B y u) (h' : RE K jj B z v) : RE K jj B (bif t then y else z) (if t = true then u else v) := by
  cases t
  · exact h'
  · exact h

theorem pf_move {p : Operand} (ho : o.op = .move p ∨ o.op = .assign p) : Yields P o e B H (ev e p) :=
  Yields.still fun K jj w a N g te => ⟨a.eval p, by rcases ho with ho | ho <;> simp [execOp, ho], te.ev p⟩

theorem pf_pick {c p q : Operand} (ho : o.op = .pick c p q) (h : pfPick (ev e c) (ev e p) (ev e q) = some x) : Yields P o e B H x := by
  refine Yields.still fun K jj w a N g te => ?_
  have rc := te.ev c
  generalize ev e c = lc at h rc
  unfold pfPick at h
  split at h
  · rename_i t
    simp at h; subst h
    refine ⟨if t = true then a.eval p else a.eval q, ?_, RE.cond (te.ev p) (te.ev q)⟩
    have e1 : a.eval c = .bool t := rc.bool
    simp only [execOp, ho, e1, asBool]
    cases t <;> simp
  · simp at h

def pfLoad (T : Tab) (B : Box) (H : OHeap) (t : TypeId) (p : LV) : Option LV :=
  match T t, cellsAt B H p with
  | some ti, some cs => pick ti cs
  | _, _ => none

theorem pf_load {T : Tab} (hT : TOK P T) {t : TypeId} {p : Operand} (ho : o.op = .load t p) (h : pfLoad T B H t (ev e p) = some x) : Yields P o e B H x := by
  refine Yields.still fun K jj w a N g te => ?_
  unfold pfLoad at h
  split at h
  · rename_i ti cs hti hcs
    obtain ⟨b, off, hv, hc⟩ := cellsAt_ok g (te.ev p) hcs
    obtain ⟨v, h1, h2⟩ := run_loadVar (hT t ti hti) hc h
    refine ⟨v, ?_, h2.re⟩
    simp only [execOp, ho, Instr.loadAt, Instr.sureAddr, hv, pure_bind]
    exact run_value h1
  · simp at h

def notNil : LV → Bool
  | .ptr .. | .iptr _ | .fn .. | .bool _ | .int .. | .str _ | .sl .. | .isl .. | .nilsl | .wsl | .mp _ | .nilm | .agg _ | .ifc .. | .yld _ => true
  | _ => false

theorem pf_nilCheck {p : Operand} (ho : o.op = .nilCheck p) (h : notNil (ev e p) = true) : Yields P o e B H (ev e p) := by
  refine Yields.still fun K jj w a N g te => ⟨a.eval p, ?_, te.ev p⟩
  have rp := te.ev p
  generalize ev e p = lp at h rp
  simp only [execOp, ho]
  generalize a.eval p = v at rp
  cases lp <;> simp only [notNil, reduceCtorEq, Bool.false_eq_true] at h <;> cases rp <;> rfl

theorem pf_nilCheck_bp {p : Operand} {d ver off : Nat} (ho : o.op = .nilCheck p) (h : ev e p = .bp d ver off) (hv : (B d).1 = ver) (hs : (B d).2.isSome = true) : Yields P o e B H (.bp d ver off) := by
  refine Yields.still fun K jj w a N g te => ⟨a.eval p, ?_, by rw [← h]; exact te.ev p⟩
  have rp := te.ev p
  rw [h] at rp
  simp only [execOp, ho, rp.2 hv.symm hs]
  rfl

def ptrAdd (B : Box) (p : LV) (n : Nat) : Option LV :=
  match p with
  | .bp d ver off => if (B d).1 = ver ∧ (B d).2.isSome = true then some (.bp d ver (off + n)) else none
  | .ptr b off => some (.ptr b (off + n))
  | .iptr cs => if n ≤ cs.length then some (.iptr (cs.drop n)) else none
  | _ => none

theorem ptrAdd_ok {K : Know} {jj : Nat → Nat} {p x : LV} {n : Nat} {v : Value} (rp : RE K jj B p v) (h : ptrAdd B p n = some x) :
    ∃ b off, v = .pointer (some ⟨b, off, none⟩) ∧ RE K jj B x (.pointer (some ⟨b, off + n, none⟩)) := by
  unfold ptrAdd at h
  split at h
  · rename_i d ver off
    split at h
    · rename_i hc
      simp at h; subst h
      exact ⟨jj d, off, rp.2 hc.1.symm hc.2, rp.1, fun _ _ => rfl⟩
    · simp at h
  · rename_i b off
    simp at h; subst h
    have r : R K (.ptr b off) v := rp
    cases r; exact ⟨b, off, rfl, R.ptr b (off + n)⟩
  · rename_i cs
    split at h
    · simp at h; subst h
      have r : R K (.iptr cs) v := rp
      cases r with
      | iptr _ b off us hK hR =>
        refine ⟨b, off, rfl, R.iptr _ b (off + n) (fun j => us (n + j)) (fun j y hy => ?_) (fun j y hy => ?_)⟩
        · rw [List.getElem?_drop] at hy; have := hK _ y hy; rwa [← Nat.add_assoc] at this
        · rw [List.getElem?_drop] at hy; exact hR _ y hy
    · simp at h
  · simp at h

def pfFieldAddr (T : Tab) (B : Box) (s : TypeId) (p : LV) (f : Nat) : Option LV :=
  match T s with
  | some ti => match ti.kind with
    | .struct fs => match fs[f]? with
      | some (ft, off) => match T ft with
        | some fi => if fi.size = 0 then none else ptrAdd B p off
        | none => none
      | none => none
    | _ => none
  | none => none

theorem struct_field {fields : Array Field} {fs : List (TypeId × Nat)} (hf : fields.toList.map (fun f => (f.type, f.offset)) = fs) {f : Nat} {ft : TypeId} {off : Nat} (h : fs[f]? = some (ft, off)) :
    ∃ fd, fields[f]? = some fd ∧ fd.type = ft ∧ fd.offset = off := by
  rw [← hf, List.getElem?_map] at h
  obtain ⟨fd, h1, h2⟩ := Option.map_eq_some_iff.1 h
  simp at h2
  exact ⟨fd, by simpa using h1, h2.1, h2.2⟩

theorem pf_fieldAddr {T : Tab} (hT : TOK P T) {s : TypeId} {p : Operand} {f : Nat} (ho : o.op = .fieldAddr s p f) (h : pfFieldAddr T B s (ev e p) f = some x) : Yields P o e B H x := by
  refine Yields.still fun K jj w a N g te => ?_
  unfold pfFieldAddr at h
  split at h
  · rename_i ti hti
    split at h
    · rename_i fs hk
      split at h
      · rename_i ft off hfo
        split at h
        · rename_i fi hfi
          split at h
          · simp at h
          · rename_i hsz
            obtain ⟨b, o', hv, hr⟩ := ptrAdd_ok (te.ev p) h
            obtain ⟨fields, h1, h2⟩ := (hT s ti hti).run_struct hk
            obtain ⟨fd, h3, h4, h5⟩ := struct_field h1 hfo
            refine ⟨_, ?_, hr⟩
            have hs := (hT ft fi hfi).run_size w
            rw [← h4] at hs
            simp only [execOp, ho, Instr.fieldAt, hv]
            refine run_value ?_
            simp [h2 w, h3, Instr.sureAddr, fieldPlace, hs, hsz, h5, Addr.add_lit]
        · simp at h
      · simp at h
    · simp at h
  · simp at h

def pfField (T : Tab) (t : TypeId) (s : LV) (f : Nat) : Option LV :=
  match T t, s with
  | some ti, .agg cs => match ti.kind with
    | .struct fs => match fs[f]? with
      | some (ft, off) => match T ft with
        | some fi => pick fi (cs.drop off)
        | none => none
      | none => none
    | _ => none
  | _, _ => none

theorem run_part {T : Tab} (hT : TOK P T) {ft : TypeId} {fi : TI} (hfi : T ft = some fi) {K : Know} {cs : List LV} {vs : List Value} (hr : Rs K cs vs) {off : Nat} (h : pick fi (cs.drop off) = some x) (w : World) :
    ∃ v, (part ft vs.toArray off).run P w = .ok v w ∧ R K x v := by
  have ht := hT ft fi hfi
  unfold pick at h
  split at h
  · rename_i ha
    split at h
    · rename_i hle
      simp at h; subst h
      refine ⟨.agg ((vs.drop off).take fi.size).toArray, ?_, .agg _ _ ((hr.drop off).take fi.size).1 ((hr.drop off).take fi.size).2⟩
      simp [part, ht.run_agg w, ha, ht.run_size w]
    · simp at h
  · rename_i ha
    have ha' : fi.kind.agg = false := by simpa using ha
    rw [List.head?_drop] at h
    obtain ⟨v, h1, h2⟩ := hr.get h
    exact ⟨v, by simp [part, ht.run_agg w, ha', h1], h2⟩

theorem pf_field {T : Tab} (hT : TOK P T) {t : TypeId} {p : Operand} {f : Nat} (ho : o.op = .field t p f) (h : pfField T t (ev e p) f = some x) : Yields P o e B H x := by
  refine Yields.still fun K jj w a N g te => ?_
  have rp := te.ev p
  generalize ev e p = lp at h rp
  unfold pfField at h
  split at h
  · rename_i ti cs hti
    split at h
    · rename_i fs hk
      split at h
      · rename_i ft off hfo
        split at h
        · rename_i fi hfi
          have r : R K (.agg cs) (a.eval p) := rp
          obtain ⟨vs, hvs, hrs⟩ : ∃ vs : List Value, a.eval p = .agg vs.toArray ∧ Rs K cs vs := by
            generalize a.eval p = u at r; cases r with | agg _ vs hl hh => exact ⟨vs, rfl, hl, hh⟩
          obtain ⟨fields, h1, h2⟩ := (hT t ti hti).run_struct hk
          obtain ⟨fd, h3, h4, h5⟩ := struct_field h1 hfo
          obtain ⟨v, h6, h7⟩ := run_part hT hfi hrs h w
          refine ⟨v, ?_, h7.re⟩
          simp only [execOp, ho, Instr.field, hvs]
          refine run_value ?_
          simp [h2 w, h3, asAgg, h4, h5, h6]
        · simp at h
      · simp at h
    · simp at h
  · simp at h

end
end Go.Lv
/- Lv, part E: more operations that yield a value: addresses of elements, slices, parts of results, function values, lengths, conversions, composite values. Over any program; no condition. -/
namespace Go.Lv
open Go
set_option linter.unusedVariables false
set_option linter.unusedSimpArgs false

section
variable {P : Program} {e : Env} {B : Box} {H : OHeap} {o : Oper} {x : LV}

def pfIndexAddr (T : Tab) (B : Box) (t : TypeId) (p i : LV) : Option LV :=
  match T t, i with
  | some ti, .int _ n => match ti.kind with
    | .slice el => match T el with
      | some ei => match p with
        | .sl b off len cap => if 0 ≤ n ∧ n < len then some (.ptr b (off + n.toNat * ei.size)) else none
        | .isl _ es xs => if 0 ≤ n ∧ es = ei.size then (match xs[n.toNat]? with | some y => some (.iptr y) | none => none) else none
        | _ => none
      | none => none
    | .arr m el => match T el with
      | some ei => if 0 ≤ n ∧ n < m then ptrAdd B p (n.toNat * ei.size) else none
      | none => none
    | _ => none
  | _, _ => none

theorem isl_elem {K : Know} {f : Bool} {es : Nat} {xs : List (List LV)} {v : Value} (h : R K (.isl f es xs) v) {i : Nat} {y : List LV} (hy : xs[i]? = some y) :
    ∃ b off c, v = .slice (some ⟨b, off, none⟩) xs.length c ∧ i < xs.length ∧ R K (.iptr y) (.pointer (some ⟨b, off + i * es, none⟩)) := by
  cases h with
  | isln => simp at hy
  | isle => simp at hy
  | isl _ _ _ b off c us hc hf he hK hR =>
    exact ⟨b, off, c, rfl, (List.getElem?_eq_some_iff.1 hy).1, .iptr y b _ (fun j => us i j) (fun j z hz => hK i j y z hy hz) (fun j z hz => hR i j y z hy hz)⟩

theorem pf_indexAddr {T : Tab} (hT : TOK P T) {t : TypeId} {p i : Operand} (ho : o.op = .indexAddr t p i) (h : pfIndexAddr T B t (ev e p) (ev e i) = some x) : Yields P o e B H x := by
  refine Yields.still fun K jj w a N g te => ?_
  have rp := te.ev p
  have ri := te.ev i
  generalize ev e p = lp at h rp
  generalize ev e i = li at h ri
  unfold pfIndexAddr at h
  split at h
  · rename_i ti k n hti
    have ei : a.eval i = .int k n := ri.int
    split at h
    · rename_i el hk
      split at h
      · rename_i ei' hei
        have hu := (hT t ti hti).run_slice hk w
        have hs := (hT el ei' hei).run_size w
        split at h
        · rename_i b off len cap
          split at h
          · rename_i hn
            simp at h; subst h
            have r : R K (.sl b off len cap) (a.eval p) := rp
            have ep : a.eval p = .slice (some ⟨b, off, none⟩) len cap := by generalize a.eval p = u at r; cases r; rfl
            refine ⟨.pointer (some ⟨b, off + n.toNat * ei'.size, none⟩), ?_, R.ptr _ _⟩
            simp only [execOp, ho, ep, ei, Instr.indexAt]
            refine run_value ?_
            simp [asIntOf, hu, hn, hs, Addr.add_lit]
          · simp at h
        · rename_i f es xs
          split at h
          · rename_i h0
            split at h
            · rename_i y hy
              simp at h; subst h
              have r : R K (.isl f es xs) (a.eval p) := rp
              obtain ⟨b, off, c, ep, hlt, hr⟩ := isl_elem r hy
              refine ⟨_, ?_, hr.re⟩
              have hn : 0 ≤ n ∧ n < xs.length := ⟨h0.1, by omega⟩
              simp only [execOp, ho, ep, ei, Instr.indexAt]
              refine run_value ?_
              simp [asIntOf, hu, hn, hs, Addr.add_lit, h0.2]
            · simp at h
          · simp at h
        · simp at h
      · simp at h
    · rename_i m el hk
      split at h
      · rename_i ei' hei
        split at h
        · rename_i hn
          obtain ⟨b, off, hv, hr⟩ := ptrAdd_ok rp h
          have hu := (hT t ti hti).run_arr hk w
          have hs := (hT el ei' hei).run_size w
          refine ⟨_, ?_, hr⟩
          simp only [execOp, ho, hv, ei, Instr.indexAt]
          refine run_value ?_
          simp [asIntOf, hu, hn, hs, Addr.add_lit, Instr.sureAddr]
        · simp at h
      · simp at h
    · simp at h
  · simp at h

def pfIndex (T : Tab) (t : TypeId) (p i : LV) : Option LV :=
  match i with
  | .int _ n => match p with
    | .str s => if 0 ≤ n then (match s.data.toList[n.toNat]? with | some c => (match T t with | some ti => if ti.kind = .str then some (.int .u8 c.toNat) else none | none => none) | none => none) else none
    | .agg cs => match T t with
      | some ti => match ti.kind with
        | .arr m el => match T el with
          | some ei => if 0 ≤ n ∧ n < m then pick ei (cs.drop (n.toNat * ei.size)) else none
          | none => none
        | _ => none
      | none => none
    | _ => none
  | _ => none

theorem pf_index {T : Tab} (hT : TOK P T) {t : TypeId} {p i : Operand} (ho : o.op = .index t p i) (h : pfIndex T t (ev e p) (ev e i) = some x) : Yields P o e B H x := by
  refine Yields.still fun K jj w a N g te => ?_
  have rp := te.ev p
  have ri := te.ev i
  generalize ev e p = lp at h rp
  generalize ev e i = li at h ri
  unfold pfIndex at h
  split at h
  · rename_i k n
    have ei : a.eval i = .int k n := ri.int
    split at h
    · rename_i s
      split at h
      · rename_i h0
        split at h
        · rename_i c hc
          split at h
          · rename_i ti hti
            split at h
            · rename_i hk
              simp at h; subst h
              have ep : a.eval p = .string s := rp.str
              have hu := (hT t ti hti).run_str hk w
              refine ⟨.int .u8 c.toNat, ?_, R.int _ _⟩
              have hc' : s[n.toNat]? = some c := by
                have hlt : n.toNat < s.data.size := by have := (List.getElem?_eq_some_iff.1 hc).1; simpa using this
                have hlt' : n.toNat < s.size := hlt
                rw [getElem?_pos s n.toNat hlt']
                have h2 := (List.getElem?_eq_some_iff.1 hc).2
                rw [← h2]; rfl
              simp only [execOp, ho, ep, ei, Instr.index]
              refine run_value ?_
              simp [asIntOf, hu, h0, hc']
            · simp at h
          · simp at h
        · simp at h
      · simp at h
    · rename_i cs
      split at h
      · rename_i ti hti
        split at h
        · rename_i m el hk
          split at h
          · rename_i ei' hei
            split at h
            · rename_i hn
              have r : R K (.agg cs) (a.eval p) := rp
              obtain ⟨vs, hvs, hrs⟩ : ∃ vs : List Value, a.eval p = .agg vs.toArray ∧ Rs K cs vs := by
                generalize a.eval p = u at r; cases r with | agg _ vs hl hh => exact ⟨vs, rfl, hl, hh⟩
              obtain ⟨v, h6, h7⟩ := run_part hT hei hrs h w
              have hu := (hT t ti hti).run_arr hk w
              have hs := (hT el ei' hei).run_size w
              refine ⟨v, ?_, h7.re⟩
              simp only [execOp, ho, hvs, ei, Instr.index]
              refine run_value ?_
              simp [asIntOf, hu, hn, hs, h6]
            · simp at h
          · simp at h
        · simp at h
      · simp at h
    · simp at h
  · simp at h

/-! #### Slices -/
/-- A bound: none given, or an int between 0 and y. -/
def bnd (x : Option LV) (y dflt : Nat) : Option Nat :=
  match x with
  | none => some dflt
  | some (.int _ n) => if 0 ≤ n ∧ n ≤ y then some n.toNat else none
  | _ => none

/-- low, high and max of a slice of length len and capacity cap. -/
def bnds (len cap : Nat) (lo hi mx : Option LV) : Option (Nat × Nat × Nat) :=
  match bnd mx cap cap with
  | none => none
  | some m => match (match hi with | none => (if mx.isSome then none else some len) | some _ => bnd hi m 0) with
    | none => none
    | some h => match bnd lo h 0 with
      | none => none
      | some l => some (l, h, m)

theorem run_bnd {K : Know} {jj : Nat → Nat} {x : LV} {v : Value} (h : RE K jj B x v) {y d r : Nat} (hr : bnd (some x) y d = some r) (code : BoundsCode) (w : World) : (Instr.sliceBound v y code).run P w = .ok r w := by
  unfold bnd at hr
  split at hr
  · simp at *
  · rename_i k n heq
    simp at heq; subst heq
    split at hr
    · rename_i hn
      simp at hr; subst hr
      rw [h.int]
      simp [Instr.sliceBound, asIntOf, hn]
    · simp at hr
  · simp at hr

theorem run_bnds {a : Act} {K : Know} {jj : Nat → Nat} {N : Nat} (te : TE K jj B N e a.tmps) {len cap : Nat} {lo hi mx : Option Operand} {l h m : Nat}
    (hb : bnds len cap (lo.map (ev e)) (hi.map (ev e)) (mx.map (ev e)) = some (l, h, m)) (s : Bool) (w : World) :
    (Instr.sliceBounds s len cap (lo.map a.eval) (hi.map a.eval) (mx.map a.eval)).run P w = .ok (l, h, m) w := by
  unfold bnds at hb
  split at hb
  · simp at hb
  · rename_i m' hm
    split at hb
    · simp at hb
    · rename_i h' hh
      split at hb
      · simp at hb
      · rename_i l' hl
        simp at hb; obtain ⟨rfl, rfl, rfl⟩ := hb
        cases mx with
        | none =>
          simp [bnd] at hm; subst hm
          cases hi with
          | none =>
            simp at hh; subst hh
            cases lo with
            | none => simp [bnd] at hl; subst hl; simp [Instr.sliceBounds]
            | some lo => simp [Instr.sliceBounds, run_bnd (te.ev lo) (by simpa using hl)]
          | some hi =>
            have hh' : bnd (some (ev e hi)) cap 0 = some h' := by simpa using hh
            cases lo with
            | none => simp [bnd] at hl; subst hl; simp [Instr.sliceBounds, run_bnd (te.ev hi) hh']
            | some lo => simp [Instr.sliceBounds, run_bnd (te.ev hi) hh', run_bnd (te.ev lo) (by simpa using hl)]
        | some mx =>
          have hm' : bnd (some (ev e mx)) cap cap = some m' := by simpa using hm
          cases hi with
          | none => simp at hh
          | some hi =>
            have hh' : bnd (some (ev e hi)) m' 0 = some h' := by simpa using hh
            cases lo with
            | none => simp [bnd] at hl; subst hl; simp [Instr.sliceBounds, run_bnd (te.ev mx) hm', run_bnd (te.ev hi) hh']
            | some lo => simp [Instr.sliceBounds, run_bnd (te.ev mx) hm', run_bnd (te.ev hi) hh', run_bnd (te.ev lo) (by simpa using hl)]

theorem bnds_le {len cap l h m : Nat} {lo hi mx : Option LV} (hlc : len ≤ cap) (hb : bnds len cap lo hi mx = some (l, h, m)) : l ≤ h ∧ h ≤ m ∧ m ≤ cap := by
  unfold bnds at hb
  split at hb
  · simp at hb
  · rename_i m' hm
    have h1 : m' ≤ cap := by
      unfold bnd at hm; split at hm
      · simp at hm; omega
      · split at hm
        · simp at hm; omega
        · simp at hm
      · simp at hm
    split at hb
    · simp at hb
    · rename_i h' hh
      split at hb
      · simp at hb
      · rename_i l' hl
        simp at hb; obtain ⟨rfl, rfl, rfl⟩ := hb
        have h3 : l' ≤ h' := by
          unfold bnd at hl; split at hl
          · simp at hl; omega
          · split at hl
            · simp at hl; omega
            · simp at hl
          · simp at hl
        refine ⟨h3, ?_, h1⟩
        split at hh
        · split at hh
          · simp at hh
          · rename_i hx
            simp at hh; subst hh
            cases mx with
            | none => simp [bnd] at hm; omega
            | some _ => simp at hx
        · unfold bnd at hh; split at hh
          · simp at hh; omega
          · split at hh
            · simp at hh; omega
            · simp at hh
          · simp at hh

def pfSlice (T : Tab) (t : TypeId) (p : LV) (lo hi mx : Option LV) : Option LV :=
  match T t with
  | some ti => match ti.kind with
    | .str => match p with
      | .str s => match mx, bnds s.size s.size lo hi none with
        | none, some (l, h, _) => some (.str (s.extract l h))
        | _, _ => none
      | _ => none
    | .slice el => match T el with
      | some ei => match p with
        | .sl b off len cap => if len ≤ cap then (match bnds len cap lo hi mx with
          | some (l, h, m) => some (.sl b (if m = l then off else off + l * ei.size) (h - l) (m - l))
          | none => none) else none
        | .isl f es xs => if es = ei.size then (match bnds xs.length xs.length lo hi mx with
          | some (l, h, m) => some (.isl (if mx.isSome then decide (m = h) else f && decide (h = xs.length)) es ((xs.take h).drop l))
          | none => none) else none
        | .nilsl => match bnds 0 0 lo hi mx with
          | some _ => some .nilsl
          | none => none
        | .wsl => match bnds 0 0 lo hi mx with
          | some _ => some .wsl
          | none => none
        | _ => none
      | none => none
    | .arr n el => match T el, p with
      | some ei, .ptr b off => match bnds n n lo hi mx with
        | some (l, h, m) => some (.sl b (if m = l then off else off + l * ei.size) (h - l) (m - l))
        | none => none
      | _, _ => none
    | _ => none
  | none => none

theorem bnd_more {x : LV} {y y' d d' r : Nat} (hy : y ≤ y') (h : bnd (some x) y d = some r) : bnd (some x) y' d' = some r := by
  cases x <;> simp only [bnd, reduceCtorEq] at h ⊢
  split at h
  · rename_i hn; rw [if_pos ⟨hn.1, by omega⟩]; exact h
  · simp at h

/-- With more room than is known the bounds are the same, but for the last one where none is given. -/
theorem bnds_more {len c : Nat} {lo hi mx : Option LV} {l h m : Nat} (hc : len ≤ c) (hb : bnds len len lo hi mx = some (l, h, m)) :
    bnds len c lo hi mx = some (l, h, if mx.isSome then m else c) := by
  unfold bnds at hb ⊢
  cases mx with
  | none =>
    have e1 : bnd none len len = some len := rfl
    have e2 : bnd none c c = some c := rfl
    rw [e1] at hb; rw [e2]
    simp only [Option.isSome_none, Bool.false_eq_true, if_false] at hb ⊢
    cases hi with
    | none =>
      simp only at hb ⊢
      cases hl : bnd lo len 0 with
      | none => rw [hl] at hb; simp at hb
      | some l' => rw [hl] at hb; simp at hb ⊢; exact ⟨hb.1, hb.2.1⟩
    | some hi =>
      simp only at hb ⊢
      cases hh : bnd (some hi) len 0 with
      | none => rw [hh] at hb; simp at hb
      | some h' =>
        rw [hh] at hb; rw [bnd_more (d' := 0) hc hh]
        simp only at hb ⊢
        cases hl : bnd lo h' 0 with
        | none => rw [hl] at hb; simp at hb
        | some l' => rw [hl] at hb; simp at hb ⊢; exact ⟨hb.1, hb.2.1⟩
  | some mx =>
    simp only [Option.isSome_some, if_true] at hb ⊢
    cases hm : bnd (some mx) len len with
    | none => rw [hm] at hb; simp at hb
    | some m' => rw [hm] at hb; rw [bnd_more (d' := c) hc hm]; exact hb

theorem isl_sub {K : Know} {f f' : Bool} {es : Nat} {xs : List (List LV)} {v : Value} {l h m c : Nat} {A : Option Addr} (hv : v = .slice A xs.length c) (hr : R K (.isl f es xs) v) (hlh : l ≤ h) (hh : h ≤ xs.length) (hm : h ≤ m) (hmc : m ≤ c) (hf : f' = true → m = h) :
    R K (.isl f' es ((xs.take h).drop l)) (.slice (if m = l then A else A.map (·.add (l * es))) (h - l) (m - l)) := by
  subst hv
  have hlen : ((xs.take h).drop l).length = h - l := by simp; omega
  cases hr with
  | isln =>
    have h1 : m = 0 := by omega
    have h2 : h = 0 := by omega
    have h3 : l = 0 := by omega
    subst h1; subst h2; subst h3
    simp
    exact .isln _ _
  | isle _ _ a =>
    have h1 : m = 0 := by omega
    have h2 : h = 0 := by omega
    have h3 : l = 0 := by omega
    subst h1; subst h2; subst h3
    simp
    exact .isle _ _ _
  | isl _ _ _ b off _ us hc hf' he hK hR =>
    by_cases hml : m = l
    · have h1 : h = l := by omega
      subst hml; subst h1
      rw [if_pos rfl, Nat.sub_self]
      have : (xs.take h).drop h = [] := by simp
      rw [this]
      exact .isl f' es [] b off 0 us (by simp) (fun _ => rfl) (fun x hx => by simp at hx) (fun i j x y hx => by simp at hx) (fun i j x y hx => by simp at hx)
    · rw [if_neg hml]
      simp only [Option.map_some, Addr.add_lit]
      rw [← hlen]
      have key : ∀ (i : Nat) x, ((xs.take h).drop l)[i]? = some x → xs[l + i]? = some x := fun i x hx => by
        rw [List.getElem?_drop, List.getElem?_take] at hx
        split at hx
        · exact hx
        · simp at hx
      refine .isl f' es _ b (off + l * es) (m - l) (fun i j => us (l + i) j) (by omega) (fun hf1 => by have := hf hf1; omega) (fun x hx => he x (List.mem_of_mem_take (List.mem_of_mem_drop hx))) (fun i j x y hx hy => ?_) (fun i j x y hx hy => hR _ j x y (key i x hx) hy)
      have := hK (l + i) j x y (key i x hx) hy
      rwa [Nat.add_mul, ← Nat.add_assoc] at this

theorem R.isl_shape {K : Know} {f : Bool} {es : Nat} {xs : List (List LV)} {v : Value} (h : R K (.isl f es xs) v) : ∃ A c, v = .slice A xs.length c ∧ xs.length ≤ c ∧ (f = true → c = xs.length) := by
  cases h with
  | isln => exact ⟨none, 0, rfl, by simp, fun _ => rfl⟩
  | isle _ _ a => exact ⟨some a, 0, rfl, by simp, fun _ => rfl⟩
  | isl _ _ _ b off c us hc hf he hK hR => exact ⟨_, c, rfl, hc, hf⟩

theorem pf_slice {T : Tab} (hT : TOK P T) {t : TypeId} {p : Operand} {lo hi mx : Option Operand} (ho : o.op = .slice t p lo hi mx)
    (h : pfSlice T t (ev e p) (lo.map (ev e)) (hi.map (ev e)) (mx.map (ev e)) = some x) : Yields P o e B H x := by
  refine Yields.still fun K jj w a N g te => ?_
  have rp := te.ev p
  generalize ev e p = lp at h rp
  unfold pfSlice at h
  split at h
  · rename_i ti hti
    split at h
    · rename_i hk
      have hu := (hT t ti hti).run_str hk w
      split at h
      · rename_i s
        split at h
        · rename_i l h' m' hmx hb
          simp at h; subst h
          have hmx' : mx = none := by cases mx <;> simp at hmx ⊢
          subst hmx'
          have ep : a.eval p = .string s := rp.str
          refine ⟨.string (s.extract l h'), ?_, R.str _⟩
          have hr := run_bnds (P := P) te (mx := none) hb false w
          simp only [execOp, ho, ep, Instr.sliceAt]
          refine run_value ?_
          simp only [Option.map_none] at hr
          simp [hu, Instr.slice, hr]
        · simp at h
      · simp at h
    · rename_i el hk
      have hu := (hT t ti hti).run_slice hk w
      split at h
      · rename_i ei hei
        have hs := (hT el ei hei).run_size w
        split at h
        · rename_i b off len cap
          split at h
          · split at h
            · rename_i l h' m hb
              simp at h; subst h
              have r : R K (.sl b off len cap) (a.eval p) := rp
              have ep : a.eval p = .slice (some ⟨b, off, none⟩) len cap := by generalize a.eval p = u at r; cases r; rfl
              refine ⟨.slice (some ⟨b, if m = l then off else off + l * ei.size, none⟩) (h' - l) (m - l), ?_, R.sl _ _ _ _⟩
              have hr := run_bnds (P := P) te hb true w
              simp only [execOp, ho, ep, Instr.sliceAt]
              refine run_value ?_
              simp only [Sem.run_bind, hu, Result.andThen_ok, Instr.slice, hr, hs, Sem.run_pure]
              congr 2
              split <;> simp [Addr.add_lit]
            · simp at h
          · simp at h
        · rename_i f es xs
          split at h
          · rename_i hes
            subst hes
            split at h
            · rename_i l h' m hb
              simp at h; subst h
              have r : R K (.isl f ei.size xs) (a.eval p) := rp
              obtain ⟨A, c, ep, hc, hf⟩ := r.isl_shape
              have hle := bnds_le (Nat.le_refl _) hb
              have hb' := bnds_more hc hb
              have hr := run_bnds (P := P) te hb' true w
              refine ⟨_, ?_, (isl_sub ep r hle.1 (by omega) (m := if (mx.map (ev e)).isSome then m else c) (by split <;> omega) (by split <;> omega) ?_).re⟩
              · simp only [execOp, ho, ep, Instr.sliceAt]
                refine run_value ?_
                simp only [Sem.run_bind, hu, Result.andThen_ok, Instr.slice, hr, hs, Sem.run_pure]
              · intro hq
                split at hq
                · rename_i hsm; rw [if_pos (by simpa using hsm)]; simpa using hq
                · rename_i hsm
                  rw [if_neg (by simpa using hsm)]
                  simp at hq
                  rw [hf hq.1]; exact hq.2.symm
            · simp at h
          · simp at h
        · split at h
          · rename_i z hb
            simp at h; subst h
            have ep : a.eval p = .slice none 0 0 := by have r : R K .nilsl (a.eval p) := rp; generalize a.eval p = u at r; cases r; rfl
            obtain ⟨l, h', m⟩ := z
            have hle := bnds_le (Nat.le_refl _) hb
            obtain ⟨rfl, rfl, rfl⟩ : l = 0 ∧ h' = 0 ∧ m = 0 := by omega
            refine ⟨.slice none 0 0, ?_, R.nilsl⟩
            have hr := run_bnds (P := P) te hb true w
            simp only [execOp, ho, ep, Instr.sliceAt]
            refine run_value ?_
            simp [hu, Instr.slice, hr, hs]
          · simp at h
        · split at h
          · rename_i z hb
            simp at h; subst h
            obtain ⟨aa, ep⟩ : ∃ aa, a.eval p = .slice (some aa) 0 0 := by have r : R K .wsl (a.eval p) := rp; generalize a.eval p = u at r; cases r; exact ⟨_, rfl⟩
            obtain ⟨l, h', m⟩ := z
            have hle := bnds_le (Nat.le_refl _) hb
            obtain ⟨rfl, rfl, rfl⟩ : l = 0 ∧ h' = 0 ∧ m = 0 := by omega
            refine ⟨.slice (some aa) 0 0, ?_, R.wsl aa⟩
            have hr := run_bnds (P := P) te hb true w
            simp only [execOp, ho, ep, Instr.sliceAt]
            refine run_value ?_
            simp [hu, Instr.slice, hr, hs]
          · simp at h
        · simp at h
      · simp at h
    · rename_i n el hk
      have hu := (hT t ti hti).run_arr hk w
      split at h
      · rename_i ei b off hei
        have hs := (hT el ei hei).run_size w
        split at h
        · rename_i l h' m hb
          simp at h; subst h
          have r : R K (.ptr b off) (a.eval p) := rp
          have ep : a.eval p = .pointer (some ⟨b, off, none⟩) := by generalize a.eval p = u at r; cases r; rfl
          have hr := run_bnds (P := P) te hb false w
          refine ⟨.slice (some ⟨b, if m = l then off else off + l * ei.size, none⟩) (h' - l) (m - l), ?_, R.sl _ _ _ _⟩
          simp only [execOp, ho, ep, Instr.sliceAt]
          refine run_value ?_
          simp only [Sem.run_bind, hu, Result.andThen_ok, Instr.sureAddr, asAddr, Sem.run_pure, hr, hs]
          congr 2
          split <;> simp [Addr.add_lit]
        · simp at h
      · simp at h
    · simp at h
  · simp at h

end
end Go.Lv
/- Lv, part F: parts of results, function values, interface values, lengths, conversions, composite values; and 'pf', all operations that yield a value, in one function. Over any program; no condition. -/
namespace Go.Lv
open Go
set_option linter.unusedVariables false
set_option linter.unusedSimpArgs false

section
variable {P : Program} {e : Env} {B : Box} {H : OHeap} {o : Oper} {x : LV}

def pfExtract (p : LV) (i : Nat) : Option LV :=
  match p with
  | .tup vs => vs[i]?
  | _ => none

theorem pf_extract {p : Operand} {i : Nat} (ho : o.op = .extract p i) (h : pfExtract (ev e p) i = some x) : Yields P o e B H x := by
  refine Yields.still fun K jj w a N g te => ?_
  have rp := te.ev p
  generalize ev e p = lp at h rp
  unfold pfExtract at h
  split at h
  · rename_i vs
    have r : R K (.tup vs) (a.eval p) := rp
    obtain ⟨us, hvs, hrs⟩ : ∃ us : List Value, a.eval p = .tuple us.toArray ∧ Rs K vs us := by
      generalize a.eval p = u at r; cases r with | tup _ us hl hh => exact ⟨us, rfl, hl, hh⟩
    obtain ⟨v, h1, h2⟩ := hrs.get h
    refine ⟨v, ?_, h2.re⟩
    simp only [execOp, ho, hvs, Instr.extract]
    refine run_value ?_
    simp [h1]
  · simp at h

theorem LV.one_bp {y : LV} (h : y.one = true) : ∀ d ver off, y ≠ .bp d ver off := by intro d ver off hy; subst hy; simp [LV.one] at h

/-- A value that is no private box's address. -/
def LV.glob : LV → Bool
  | .bp .. => false
  | _ => true
theorem LV.glob_bp {y : LV} (h : y.glob = true) : ∀ d ver off, y ≠ .bp d ver off := by intro d ver off hy; subst hy; simp [LV.glob] at h

def pfIface (T : Tab) (t : TypeId) (p : LV) : Option LV :=
  match T t with
  | some ti => if ti.kind ≠ .iface ∧ p.glob = true then some (.ifc t p) else none
  | none => none

theorem pf_iface {T : Tab} (hT : TOK P T) {t : TypeId} {p : Operand} (ho : o.op = .makeInterface t p) (h : pfIface T t (ev e p) = some x) : Yields P o e B H x := by
  refine Yields.still fun K jj w a N g te => ?_
  unfold pfIface at h
  split at h
  · rename_i ti hti
    split at h
    · rename_i hk
      simp at h; subst h
      obtain ⟨d, h1, h2⟩ := (hT t ti hti).run_und
      refine ⟨.iface t (a.eval p), ?_, R.ifc _ _ _ ((te.ev p).r (LV.glob_bp hk.2))⟩
      simp only [execOp, ho, Instr.makeInterface]
      refine run_value ?_
      simp only [Sem.run_bind, h2 w, Result.andThen_ok]
      cases d <;> first | rfl | (exact absurd h1.symm hk.1)
    · simp at h
  · simp at h

def evs (e : Env) (l : Array Operand) : List LV := l.toList.map (ev e)

theorem TE.evs {K : Know} {jj : Nat → Nat} {N : Nat} {a : Act} (te : TE K jj B N e a.tmps) {l : Array Operand} (hg : (evs e l).all LV.glob = true) : Rs K (evs e l) (l.map a.eval).toList := by
  refine ⟨by simp [Lv.evs], fun i y v hy hv => ?_⟩
  simp only [Lv.evs, List.getElem?_map] at hy
  obtain ⟨p, hp, rfl⟩ := Option.map_eq_some_iff.1 hy
  simp only [Array.toList_map, List.getElem?_map, hp, Option.map_some, Option.some.injEq] at hv
  subst hv
  exact (te.ev p).r (LV.glob_bp (List.all_eq_true.1 hg _ (List.mem_map.2 ⟨p, List.mem_of_getElem? hp, rfl⟩)))

def pfFunc (e : Env) (fn : Fn) (fst caps : Array Operand) : Option LV :=
  match fn with
  | .func f => if (evs e fst).all LV.glob = true ∧ (evs e caps).all LV.glob = true then some (.fn f (evs e fst) (evs e caps)) else none
  | _ => none

theorem pf_func {fn : Fn} {fst caps : Array Operand} (ho : o.op = .makeFunc fn fst caps) (h : pfFunc e fn fst caps = some x) : Yields P o e B H x := by
  refine Yields.still fun K jj w a N g te => ?_
  unfold pfFunc at h
  split at h
  · rename_i f
    split at h
    · rename_i hg
      simp at h; subst h
      have h1 := te.evs hg.1
      have h2 := te.evs hg.2
      refine ⟨.func (.func f) (fst.map a.eval) (caps.map a.eval), by simp [execOp, ho, Instr.makeFunc], ?_⟩
      have := R.fn f (evs e fst) (evs e caps) (fst.map a.eval).toList (caps.map a.eval).toList h1.1 h2.1 h1.2 h2.2
      rw [Array.toArray_toList, Array.toArray_toList] at this
      exact R.re this
    · simp at h
  · simp at h

/-! #### Lengths, the least, the greatest -/
def pfLen (T : Tab) (H : OHeap) (t : TypeId) (p : LV) : Option LV :=
  match T t with
  | some ti => match ti.kind, p with
    | .str, .str s => some (.int .i64 s.size)
    | .arr n _, _ => some (.int .i64 n)
    | .slice _, .sl _ _ len _ => some (.int .i64 len)
    | .slice _, .isl _ _ xs => some (.int .i64 xs.length)
    | .slice _, .nilsl => some (.int .i64 0)
    | .slice _, .wsl => some (.int .i64 0)
    | .map .., .nilm => some (.int .i64 0)
    | .map .., .mp b => match H b with
      | some (.map m _) => some (.int .i64 m.length)
      | _ => none
    | _, _ => none
  | none => none

theorem pf_len {T : Tab} (hT : TOK P T) {t : TypeId} {p : Operand} (ho : o.op = .call ⟨.builtin .len, #[p], #[t]⟩) (h : pfLen T H t (ev e p) = some x) : Yields P o e B H x := by
  refine Yields.still fun K jj w a N g te => ?_
  have rp := te.ev p
  generalize ev e p = lp at h rp
  unfold pfLen at h
  split at h
  · rename_i ti hti
    suffices hs : ∃ v, (Builtin.len_ #[t] o.type #[a.eval p]).run P w = .ok v w ∧ R K x v by
      obtain ⟨v, h1, h2⟩ := hs
      exact ⟨v, by simp [execOp, ho, resolve, invoke, builtin, h1], h2.re⟩
    have hok := hT t ti hti
    split at h
    · rename_i s hk
      simp at h; subst h
      exact ⟨_, by simp [Builtin.len_, hok.run_str hk w, rp.str]; rfl, .int _ _⟩
    · rename_i n el hk
      simp at h; subst h
      exact ⟨_, by simp [Builtin.len_, hok.run_arr hk w]; rfl, .int _ _⟩
    · rename_i el b off len cap hk
      simp at h; subst h
      have r : R K (.sl b off len cap) (a.eval p) := rp
      generalize a.eval p = u at r; cases r
      exact ⟨_, by simp [Builtin.len_, hok.run_slice hk w]; rfl, .int _ _⟩
    · rename_i el f es xs hk
      simp at h; subst h
      have r : R K (.isl f es xs) (a.eval p) := rp
      obtain ⟨A, c, ep, _⟩ := r.isl_shape
      exact ⟨_, by simp [Builtin.len_, hok.run_slice hk w, ep]; rfl, .int _ _⟩
    · rename_i el hk
      simp at h; subst h
      have r : R K .nilsl (a.eval p) := rp
      generalize a.eval p = u at r; cases r
      exact ⟨_, by simp [Builtin.len_, hok.run_slice hk w]; rfl, .int _ _⟩
    · rename_i el hk
      simp at h; subst h
      have r : R K .wsl (a.eval p) := rp
      generalize a.eval p = u at r; cases r
      exact ⟨_, by simp [Builtin.len_, hok.run_slice hk w]; rfl, .int _ _⟩
    · rename_i k el hk
      simp at h; subst h
      have r : R K .nilm (a.eval p) := rp
      generalize a.eval p = u at r; cases r
      exact ⟨_, by simp [Builtin.len_, hok.run_map hk w]; rfl, .int _ _⟩
    · rename_i k el b hk
      split at h
      · rename_i m hm
        simp at h; subst h
        have r : R K (.mp b) (a.eval p) := rp
        generalize a.eval p = u at r; cases r
        obtain ⟨es, h1, h2, _⟩ := g.own b _ hm
        exact ⟨_, by simp [Builtin.len_, hok.run_map hk w, getObj, Sem.run, h1]; rfl, by rw [← h2]; exact .int _ _⟩
      · simp at h
    · simp at h
  · simp at h

def pfCap (T : Tab) (t : TypeId) (p : LV) : Option LV :=
  match T t with
  | some ti => match ti.kind, p with
    | .arr n _, _ => some (.int .i64 n)
    | .slice _, .sl _ _ _ cap => some (.int .i64 cap)
    | .slice _, .isl true _ xs => some (.int .i64 xs.length)
    | .slice _, .nilsl => some (.int .i64 0)
    | .slice _, .wsl => some (.int .i64 0)
    | _, _ => none
  | none => none

theorem pf_cap {T : Tab} (hT : TOK P T) {t : TypeId} {p : Operand} (ho : o.op = .call ⟨.builtin .cap, #[p], #[t]⟩) (h : pfCap T t (ev e p) = some x) : Yields P o e B H x := by
  refine Yields.still fun K jj w a N g te => ?_
  have rp := te.ev p
  generalize ev e p = lp at h rp
  unfold pfCap at h
  split at h
  · rename_i ti hti
    suffices hs : ∃ v, (Builtin.cap_ #[t] o.type #[a.eval p]).run P w = .ok v w ∧ R K x v by
      obtain ⟨v, h1, h2⟩ := hs
      exact ⟨v, by simp [execOp, ho, resolve, invoke, builtin, h1], h2.re⟩
    have hok := hT t ti hti
    split at h
    · rename_i n el hk
      simp at h; subst h
      exact ⟨_, by simp [Builtin.cap_, hok.run_arr hk w]; rfl, .int _ _⟩
    · rename_i el b off len cap hk
      simp at h; subst h
      have r : R K (.sl b off len cap) (a.eval p) := rp
      generalize a.eval p = u at r; cases r
      exact ⟨_, by simp [Builtin.cap_, hok.run_slice hk w]; rfl, .int _ _⟩
    · rename_i el es xs hk
      simp at h; subst h
      have r : R K (.isl true es xs) (a.eval p) := rp
      obtain ⟨A, c, ep, _, hc⟩ := r.isl_shape
      rw [← hc rfl]
      exact ⟨_, by simp [Builtin.cap_, hok.run_slice hk w, ep]; rfl, .int _ _⟩
    · rename_i el hk
      simp at h; subst h
      have r : R K .nilsl (a.eval p) := rp
      generalize a.eval p = u at r; cases r
      exact ⟨_, by simp [Builtin.cap_, hok.run_slice hk w]; rfl, .int _ _⟩
    · rename_i el hk
      simp at h; subst h
      have r : R K .wsl (a.eval p) := rp
      generalize a.eval p = u at r; cases r
      exact ⟨_, by simp [Builtin.cap_, hok.run_slice hk w]; rfl, .int _ _⟩
    · simp at h
  · simp at h

def pfMin (p q : LV) : Option LV :=
  match p, q with
  | .int k a, .int l b => if k = l then some (.int k (min a b)) else none
  | _, _ => none
def pfMax (p q : LV) : Option LV :=
  match p, q with
  | .int k a, .int l b => if k = l then some (.int k (max a b)) else none
  | _, _ => none

theorem pf_min {t u : TypeId} {p q : Operand} (ho : o.op = .call ⟨.builtin .min, #[p, q], #[t, u]⟩) (h : pfMin (ev e p) (ev e q) = some x) : Yields P o e B H x := by
  refine Yields.still fun K jj w a N g te => ?_
  have rp := te.ev p
  have rq := te.ev q
  generalize ev e p = lp at h rp
  generalize ev e q = lq at h rq
  unfold pfMin at h
  split at h
  · split at h
    · rename_i k y l z hkl
      simp at h; subst h; subst hkl
      refine ⟨.int k (min y z), ?_, R.int _ _⟩
      simp [execOp, ho, resolve, invoke, builtin, Builtin.min_, rp.int, rq.int, Builtin.min2]
      by_cases hlt : z < y
      · rw [if_pos hlt]; omega
      · rw [if_neg hlt]; omega
    · simp at h
  · simp at h

theorem pf_max {t u : TypeId} {p q : Operand} (ho : o.op = .call ⟨.builtin .max, #[p, q], #[t, u]⟩) (h : pfMax (ev e p) (ev e q) = some x) : Yields P o e B H x := by
  refine Yields.still fun K jj w a N g te => ?_
  have rp := te.ev p
  have rq := te.ev q
  generalize ev e p = lp at h rp
  generalize ev e q = lq at h rq
  unfold pfMax at h
  split at h
  · split at h
    · rename_i k y l z hkl
      simp at h; subst h; subst hkl
      refine ⟨.int k (max y z), ?_, R.int _ _⟩
      simp [execOp, ho, resolve, invoke, builtin, Builtin.max_, rp.int, rq.int, Builtin.max2]
      by_cases hlt : z > y
      · rw [if_pos hlt]; omega
      · rw [if_neg hlt]; omega
    · simp at h
  · simp at h

/-! #### Conversions, one operand -/
def pfConv (T : Tab) (s d : TypeId) (p : LV) : Option LV :=
  match T s, T d, p with
  | some _, some di, .int _ n => match di.kind with
    | .int k => some (.int k (k.wrap n))
    | _ => none
  | some _, some di, .str s => if di.kind = .str then some (.str s) else none
  | _, _, _ => none

theorem pf_conv {T : Tab} (hT : TOK P T) {s d : TypeId} {p : Operand} (ho : o.op = .convert s d p) (h : pfConv T s d (ev e p) = some x) : Yields P o e B H x := by
  refine Yields.still fun K jj w a N g te => ?_
  have rp := te.ev p
  generalize ev e p = lp at h rp
  unfold pfConv at h
  split at h
  · rename_i si di k' n hs hd
    split at h
    · rename_i k hk
      simp at h; subst h
      obtain ⟨ds, _, h2⟩ := (hT s si hs).run_und
      refine ⟨.int k (k.wrap n), ?_, R.int _ _⟩
      simp only [execOp, ho, rp.int]
      refine run_value ?_
      simp [convert, h2 w, (hT d di hd).run_int hk w, Conv.intToInt]
    · simp at h
  · rename_i si di str hs hd
    split at h
    · rename_i hk
      simp at h; subst h
      obtain ⟨ds, _, h2⟩ := (hT s si hs).run_und
      refine ⟨.string str, ?_, R.str _⟩
      simp only [execOp, ho, rp.str]
      refine run_value ?_
      simp [convert, h2 w, (hT d di hd).run_str hk w]
    · simp at h
  · simp at h

def pfUn (op : UnOp) (p : LV) : Option LV :=
  match op, p with
  | .not, .bool b => some (.bool (!b))
  | .neg, .int k n => some (.int k (k.wrap (-n)))
  | _, _ => none

theorem pf_un {op : UnOp} {t : TypeId} {p : Operand} (ho : o.op = .unOp op t p) (h : pfUn op (ev e p) = some x) : Yields P o e B H x := by
  refine Yields.still fun K jj w a N g te => ?_
  have rp := te.ev p
  generalize ev e p = lp at h rp
  unfold pfUn at h
  split at h
  · simp at h; subst h
    refine ⟨_, ?_, R.bool _⟩
    simp only [execOp, ho, rp.bool]
    rfl
  · simp at h; subst h
    refine ⟨_, ?_, R.int _ _⟩
    simp only [execOp, ho, rp.int]
    refine run_value ?_
    simp [Op.unary, Op.intArith]
  · simp at h

/-! #### Composite values -/
def cellsOf : LV → Option (List LV)
  | .agg cs => if cs.all LV.one = true then some cs else none
  | x => if x.one = true then some [x] else none

theorem cellsOf_ok {K : Know} {jj : Nat → Nat} {y : LV} {v : Value} {cs : List LV} (r : RE K jj B y v) (h : cellsOf y = some cs) : Rs K cs v.cells.toList ∧ (∀ c ∈ cs, c.one = true) := by
  unfold cellsOf at h
  split at h
  · split at h
    · rename_i l ha
      simp at h; subst h
      have r' : R K (.agg l) v := r
      cases r' with | agg _ vs hl hh => exact ⟨⟨by simpa [Value.cells] using hl, by simpa [Value.cells] using hh⟩, List.all_eq_true.1 ha⟩
    · simp at h
  · split at h
    · rename_i ho
      simp at h; subst h
      have r' := r.r (LV.one_bp ho)
      have hc := r'.oneCell ho
      have : v.cells.toList = [v] := by cases v <;> first | rfl | simp [Value.oneCell'] at hc
      rw [this]
      exact ⟨(Rs.nil K).cons r', fun c hc => by simp at hc; subst hc; exact ho⟩
    · simp at h

def putAt (cs : List LV) (off : Nat) : List LV → List LV
  | [] => cs
  | x :: r => putAt (cs.set off x) (off + 1) r
def putAtV (vs : List Value) (off : Nat) : List Value → List Value
  | [] => vs
  | x :: r => putAtV (vs.set off x) (off + 1) r

theorem putAt_length (new : List LV) : ∀ (cs : List LV) (off : Nat), (putAt cs off new).length = cs.length := by
  induction new with
  | nil => intro cs off; rfl
  | cons x r ih => intro cs off; simp [putAt, ih]
theorem Rs.putAt {K : Know} {new : List LV} : ∀ {cs : List LV} {vs us : List Value} {off : Nat}, Rs K cs vs → Rs K new us → Rs K (Lv.putAt cs off new) (putAtV vs off us) := by
  induction new with
  | nil =>
    intro cs vs us off h h'
    cases us with
    | nil => exact h
    | cons u us => have := h'.1; simp at this
  | cons x r ih =>
    intro cs vs us off h h'
    cases us with
    | nil => have := h'.1; simp at this
    | cons u us => exact ih (h.set off h'.head) h'.tail

theorem foldl_putAtV (us : List Value) : ∀ (arr : Array Value) (off k : Nat), (us.zipIdx k).foldl (fun cs (p : Value × Nat) => cs.setIfInBounds (off + p.2) p.1) arr = (putAtV arr.toList (off + k) us).toArray := by
  induction us with
  | nil => intro arr off k; simp [putAtV]
  | cons u us ih =>
    intro arr off k
    simp only [List.zipIdx_cons, List.foldl_cons, putAtV]
    rw [ih]
    simp [Nat.add_assoc]

/-- The cells of a composite value: zeros, overwritten part by part. -/
def fillL (place : Nat → Option (Nat × Nat)) (cells : List LV) : List (Nat × LV) → Option (List LV)
  | [] => some cells
  | (i, x) :: rest => match place i, cellsOf x with
    | some (off, size), some new => if new.length = size ∧ off + size ≤ cells.length then fillL place (putAt cells off new) rest else none
    | _, _ => none

theorem fillL_ok {K : Know} {jj : Nat → Nat} {place : Nat → Option (Nat × Nat)} : ∀ {parts : List (Nat × LV)} {vparts : List (Nat × Value)} {cells out : List LV} {arr : Array Value}, Rs K cells arr.toList → (∀ c ∈ cells, c.one = true) →
    vparts.length = parts.length → (∀ (i : Nat) p q, parts[i]? = some p → vparts[i]? = some q → q.1 = p.1 ∧ RE K jj B p.2 q.2) → fillL place cells parts = some out →
    ∃ arr', Instr.fill place arr vparts = some arr' ∧ Rs K out arr'.toList ∧ (∀ c ∈ out, c.one = true) ∧ out.length = cells.length
  | [], vparts, cells, out, arr, hr, ho, hl, _, h => by
    have : vparts = [] := by simpa using hl
    subst this
    simp [fillL] at h; subst h
    exact ⟨arr, by simp [Instr.fill], hr, ho, rfl⟩
  | (i, x) :: parts, [], cells, out, arr, hr, ho, hl, _, h => by simp at hl
  | (i, x) :: parts, (i', v) :: vparts, cells, out, arr, hr, ho, hl, hp, h => by
    obtain ⟨hi, hrx⟩ := hp 0 (i, x) (i', v) rfl rfl
    simp only at hi hrx
    subst hi
    simp only [fillL] at h
    split at h
    · rename_i off size new hpl hnew
      split at h
      · rename_i hc
        obtain ⟨hrn, hon⟩ := cellsOf_ok hrx hnew
        have hr' : Rs K (putAt cells off new) (v.cells.zipIdx.foldl (fun cs (p : Value × Nat) => cs.setIfInBounds (off + p.2) p.1) arr).toList := by
          have e1 : v.cells.zipIdx.foldl (fun cs (p : Value × Nat) => cs.setIfInBounds (off + p.2) p.1) arr = (putAtV arr.toList off v.cells.toList).toArray := by
            rw [← Array.foldl_toList, Array.toList_zipIdx, foldl_putAtV]; rfl
          rw [e1]
          exact hr.putAt hrn
        have ho' : ∀ c ∈ putAt cells off new, c.one = true := by
          clear hr' hr h hp hnew hpl hc hrn
          induction new generalizing cells off with
          | nil => exact ho
          | cons y r ih =>
            refine ih (cells := cells.set off y) (off := off + 1) (fun c hc => ?_) (fun c hc => hon c (List.mem_cons_of_mem _ hc))
            rcases List.mem_or_eq_of_mem_set hc with h1 | h1
            · exact ho c h1
            · rw [h1]; exact hon y (List.mem_cons_self ..)
        obtain ⟨arr', h1, h2, h3, h4⟩ := fillL_ok hr' ho' (by simpa using hl) (fun j p q hj hq => hp (j + 1) p q (by simpa using hj) (by simpa using hq)) h
        refine ⟨arr', ?_, h2, h3, by rw [h4, putAt_length]⟩
        have hsz : v.cells.size = size := by rw [← Array.length_toList, hrn.1, hc.1]
        have hac : arr.size = cells.length := by rw [← Array.length_toList, hr.1]
        simp only [Instr.fill, hpl]
        rw [if_neg (by simp; omega)]
        exact h1
      · simp at h
    · simp at h

def evParts (e : Env) (ps : Array (Nat × Operand)) : List (Nat × LV) := ps.toList.map fun p => (p.1, ev e p.2)

theorem TE.parts {K : Know} {jj : Nat → Nat} {N : Nat} {a : Act} (te : TE K jj B N e a.tmps) (ps : Array (Nat × Operand)) :
    ((ps.map fun (i, x) => (i, a.eval x)).toList).length = (evParts e ps).length ∧
    ∀ (i : Nat) p q, (evParts e ps)[i]? = some p → ((ps.map fun (i, x) => (i, a.eval x)).toList)[i]? = some q → q.1 = p.1 ∧ RE K jj B p.2 q.2 := by
  refine ⟨by simp [evParts], fun i p q hp hq => ?_⟩
  simp only [evParts, List.getElem?_map] at hp
  obtain ⟨r, hr, rfl⟩ := Option.map_eq_some_iff.1 hp
  simp only [Array.toList_map, List.getElem?_map, hr, Option.map_some, Option.some.injEq] at hq
  subst hq
  exact ⟨rfl, te.ev r.2⟩

theorem run_places {T : Tab} (hT : TOK P T) (w : World) : ∀ (fields : List Field), (fields.all fun f => (T f.type).isSome) = true →
    (fields.mapM fun f => (do pure (f.offset, ← sizeOf f.type) : Sem (Nat × Nat))).run P w = .ok (fields.map fun f => (f.offset, ((T f.type).map (·.size)).getD 0)) w
  | [], _ => by simp
  | f :: fields, h => by
    simp only [List.all_cons, Bool.and_eq_true] at h
    obtain ⟨ti, hti⟩ := Option.isSome_iff_exists.1 h.1
    have ih := run_places hT w fields h.2
    simp only [bind_pure_comp] at ih
    simp [(hT _ ti hti).run_size w, ih, hti]

def pfBuild (T : Tab) (e : Env) (t : TypeId) (ps : Array (Nat × Operand)) : Option LV :=
  match T t with
  | some ti => match ti.kind with
    | .struct fs => if (fs.all fun f => (T f.1).isSome) = true then
        (fillL (fun i => (fs[i]?).map fun f => (f.2, ((T f.1).map (·.size)).getD 0)) ti.zero (evParts e ps)).map .agg else none
    | .arr _ el => match T el with
      | some ei => (fillL (fun i => some (i * ei.size, ei.size)) ti.zero (evParts e ps)).map .agg
      | none => none
    | _ => none
  | none => none

theorem pf_build {T : Tab} (hT : TOK P T) {t : TypeId} {ps : Array (Nat × Operand)} (ho : o.op = .build t ps) (h : pfBuild T e t ps = some x) : Yields P o e B H x := by
  refine Yields.still fun K jj w a N g te => ?_
  unfold pfBuild at h
  split at h
  · rename_i ti hti
    have hok := hT t ti hti
    obtain ⟨z, hz, hzr, _, _, _, hone⟩ := hok.run_zero K
    obtain ⟨hl, hp⟩ := te.parts ps
    split at h
    · rename_i fs hk
      split at h
      · rename_i hall
        obtain ⟨cells, hf, rfl⟩ := Option.map_eq_some_iff.1 h
        obtain ⟨fields, h1, h2⟩ := hok.run_struct hk
        obtain ⟨arr', h3, h4, _⟩ := fillL_ok hzr hone hl hp hf
        refine ⟨.agg arr', ?_, R.re (by have := R.agg cells arr'.toList h4.1 h4.2; rwa [Array.toArray_toList] at this)⟩
        simp only [execOp, ho, Instr.build]
        refine run_value ?_
        have hall' : (fields.toList.all fun f => (T f.type).isSome) = true := by
          rw [← h1] at hall; simpa [List.all_map] using hall
        have hpl := run_places hT w fields.toList hall'
        simp only [Sem.run_bind, hz w, Result.andThen_ok, h2 w]
        rw [Array.mapM_eq_mapM_toList, Sem.run_map, hpl]
        simp only [Result.andThen_ok]
        have hpf : (fun x => (List.map (fun f => (f.offset, (Option.map (fun x => x.size) (T f.type)).getD 0)) fields.toList).toArray[x]?) =
            (fun (i : Nat) => Option.map (fun (f : TypeId × Nat) => (f.2, (Option.map (fun x => x.size) (T f.1)).getD 0)) fs[i]?) := by
          funext i
          rw [← h1]
          simp
          rfl
        rw [hpf]
        have h3' : Instr.fill (fun (i : Nat) => Option.map (fun (f : TypeId × Nat) => (f.2, (Option.map (fun x => x.size) (T f.1)).getD 0)) fs[i]?) z.cells (Array.map (fun x => (x.1, a.eval x.2)) ps).toList = some arr' := h3
        rw [h3']
        rfl
      · simp at h
    · rename_i n el hk
      split at h
      · rename_i ei hei
        obtain ⟨cells, hf, rfl⟩ := Option.map_eq_some_iff.1 h
        obtain ⟨arr', h3, h4, _⟩ := fillL_ok hzr hone hl hp hf
        refine ⟨.agg arr', ?_, R.re (by have := R.agg cells arr'.toList h4.1 h4.2; rwa [Array.toArray_toList] at this)⟩
        simp only [execOp, ho, Instr.build]
        refine run_value ?_
        simp only [Sem.run_bind, hz w, Result.andThen_ok, hok.run_arr hk w, (hT el ei hei).run_size w]
        simp only [h3]
        rfl
      · simp at h
    · simp at h
  · simp at h

/-! #### A new block that is sealed at once -/
def sealNew (K : Know) (b : Nat) (arr : Array Value) : Know := fun b' o => if b' = b then arr[o]? else K b' o

theorem sealNew_le {K : Know} {jj : Nat → Nat} {w : World} (g : Good K jj B H w) (arr : Array Value) : K.le (sealNew K w.heap.size arr) := by
  intro b o v hv
  have := g.klt hv
  simp [sealNew, Nat.ne_of_lt this, hv]

theorem heap_alloc_lt (w : World) (ob : Obj) {b : Nat} (h : b < w.heap.size) : (w.alloc ob).heap[b]? = w.heap[b]? := by
  show (w.heap.push ob)[b]? = _
  rw [Array.getElem?_push, if_neg (by omega)]
theorem heap_alloc_new (w : World) (ob : Obj) : (w.alloc ob).heap[w.heap.size]? = some ob := by
  show (w.heap.push ob)[w.heap.size]? = _
  simp

/-- A new block turns nothing that is owned. -/
theorem Good.alloc {K : Know} {jj : Nat → Nat} {w : World} (g : Good K jj B H w) (ob : Obj) : Good K jj B H (w.alloc ob) := {
  know b o v h := by rw [World.cell?_alloc_lt _ _ _ (g.klt h)]; exact g.know b o v h
  own b o h := (g.own b o h).same (heap_alloc_lt w ob (g.own b o h).lt)
  apart := g.apart
  box d ver cs h := (g.box d ver cs h).same (heap_alloc_lt w ob (g.box d ver cs h).lt)
  boxH := g.boxH
  boxne := g.boxne }

theorem Fr.alloc {D : Nat → Prop} {w : World} {K : Know} (ob : Obj) : Fr D w K D (w.alloc ob) K :=
  ⟨rfl, rfl, rfl, by simp, fun b hb _ => heap_alloc_lt w ob hb, K.le_refl, fun _ _ h h' => absurd h h', fun _ h => .inl h⟩

theorem Good.sealNew {K : Know} {jj : Nat → Nat} {w : World} (g : Good K jj B H w) (arr : Array Value) (T : TypeId) (fz : Nat × Nat) : Good (Lv.sealNew K w.heap.size arr) jj B H (w.alloc (.cells arr T fz)) := by
  have ga := g.alloc (.cells arr T fz)
  have hle := sealNew_le g arr
  refine ⟨fun b o v h => ?_, fun b o h => (ga.own b o h).mono hle, fun b o h => ?_, fun d ver cs h => (ga.box d ver cs h).mono hle, g.boxH, g.boxne⟩
  · unfold Lv.sealNew at h
    split at h
    · rename_i hb; subst hb
      unfold World.cell?
      rw [heap_alloc_new]
      exact h
    · exact ga.know b o v h
  · have := g.lt h
    simp [Lv.sealNew, Nat.ne_of_lt this, g.apart b o h]

theorem Fr.sealNew {K : Know} {jj : Nat → Nat} {w : World} (g : Good K jj B H w) (arr : Array Value) (T : TypeId) (fz : Nat × Nat) : Fr (dom H B jj) w K (dom H B jj) (w.alloc (.cells arr T fz)) (Lv.sealNew K w.heap.size arr) :=
  ⟨rfl, rfl, rfl, by simp, fun b hb _ => heap_alloc_lt w _ hb, sealNew_le g arr, fun b o h h' => by
    unfold Lv.sealNew at h'
    split at h'
    · rename_i hb; subst hb; exact .inr (Nat.le_refl _)
    · exact absurd h h', fun _ h => .inl h⟩

/-- A row of cells as elements of so many cells each. -/
def chunks (size : Nat) : Nat → List LV → List (List LV)
  | 0, _ => []
  | n + 1, cs => cs.take size :: chunks size n (cs.drop size)

theorem chunks_length (size n : Nat) (cs : List LV) : (chunks size n cs).length = n := by
  induction n generalizing cs with
  | zero => rfl
  | succ n ih => simp [chunks, ih]

theorem chunks_get {size n : Nat} {cs : List LV} (hl : cs.length = n * size) {i : Nat} {y : List LV} (h : (chunks size n cs)[i]? = some y) :
    i < n ∧ y.length = size ∧ ∀ j z, y[j]? = some z → cs[i * size + j]? = some z := by
  induction n generalizing cs i with
  | zero => simp [chunks] at h
  | succ n ih =>
    have hl' : cs.length = n * size + size := by rw [hl, Nat.succ_mul]
    cases i with
    | zero =>
      simp [chunks] at h; subst h
      refine ⟨by omega, by simp; omega, fun j z hz => ?_⟩
      rw [List.getElem?_take] at hz
      split at hz
      · simpa using hz
      · simp at hz
    | succ i =>
      simp only [chunks, List.getElem?_cons_succ] at h
      obtain ⟨h1, h2, h3⟩ := ih (cs := cs.drop size) (by simp; omega) h
      refine ⟨by omega, h2, fun j z hz => ?_⟩
      have := h3 j z hz
      rw [List.getElem?_drop] at this
      rwa [show (i + 1) * size + j = size + (i * size + j) by rw [Nat.succ_mul]; omega]

/-- What is sealed reads as a slice. -/
theorem R.chunks {K : Know} {b off size n c : Nat} {cs : List LV} {vs : List Value} (hl : cs.length = n * size) (hr : Rs K cs vs) (hK : ∀ (i : Nat) v, vs[i]? = some v → K b (off + i) = some v) (f : Bool) (hc : n ≤ c) (hf : f = true → c = n) :
    R K (.isl f size (Lv.chunks size n cs)) (.slice (some ⟨b, off, none⟩) n c) := by
  have hlen := chunks_length size n cs
  have := R.isl (K := K) f size (Lv.chunks size n cs) b off c (fun i j => (vs[i * size + j]?).getD undef) (by omega) (by intro h; rw [hlen]; exact hf h)
    (fun x hx => by obtain ⟨i, hi, rfl⟩ := List.getElem_of_mem hx; exact (chunks_get hl (List.getElem?_eq_getElem hi)).2.1)
    (fun i j x y hx hy => by
      obtain ⟨_, _, h3⟩ := chunks_get hl hx
      obtain ⟨v, h4, _⟩ := hr.get (h3 j y hy)
      rw [h4, Nat.add_assoc]; exact hK _ _ h4)
    (fun i j x y hx hy => by
      obtain ⟨_, _, h3⟩ := chunks_get hl hx
      obtain ⟨v, h4, h5⟩ := hr.get (h3 j y hy)
      rw [h4]; exact h5)
  rwa [hlen] at this

def zerosL (zero : List LV) : Nat → List LV
  | 0 => []
  | n + 1 => zero ++ zerosL zero n

theorem zerosL_length (zero : List LV) (n : Nat) : (zerosL zero n).length = n * zero.length := by
  induction n with
  | zero => simp [zerosL]
  | succ n ih => simp [zerosL, ih, Nat.succ_mul]; omega
theorem zerosL_one {zero : List LV} (h : ∀ x ∈ zero, x.one = true) (n : Nat) : ∀ x ∈ zerosL zero n, x.one = true := by
  induction n with
  | zero => intro x hx; simp [zerosL] at hx
  | succ n ih =>
    intro x hx
    simp only [zerosL, List.mem_append] at hx
    exact hx.elim (h x) (ih x)

theorem zerosL_get {zero : List LV} (n : Nat) : ∀ {i : Nat} {x : LV}, (zerosL zero n)[i]? = some x → 0 < zero.length ∧ zero[i % zero.length]? = some x := by
  induction n with
  | zero => intro i x h; simp [zerosL] at h
  | succ n ih =>
    intro i x h
    simp only [zerosL] at h
    rcases Nat.lt_or_ge i zero.length with hi | hi
    · rw [List.getElem?_append_left hi] at h
      exact ⟨by omega, by rw [Nat.mod_eq_of_lt hi]; exact h⟩
    · rw [List.getElem?_append_right hi] at h
      obtain ⟨h1, h2⟩ := ih h
      refine ⟨h1, ?_⟩
      rw [← Nat.sub_add_cancel hi, Nat.add_mod_right]
      exact h2

/-- The model's row of zeros. -/
theorem Rs.zeros {K : Know} {zero : List LV} {z : Array Value} (h : Rs K zero z.toList) (n : Nat) (hn : n * zero.length ≠ 0 ∨ True) :
    Rs K (zerosL zero n) (((Array.range (n * zero.length)).map (z[· % z.size]!)).toList) := by
  have hz : z.size = zero.length := by rw [← Array.length_toList, h.1]
  refine ⟨by simp [zerosL_length], fun i x v hx hv => ?_⟩
  obtain ⟨h0, h1⟩ := zerosL_get n hx
  obtain ⟨u, h2, h3⟩ := h.get h1
  simp only [Array.toList_map, List.getElem?_map, Array.toList_range] at hv
  obtain ⟨k, hk, rfl⟩ := Option.map_eq_some_iff.1 hv
  rw [List.getElem?_range (by have := (List.getElem?_eq_some_iff.1 hk).1; simpa using this)] at hk
  simp at hk; subst hk
  have hlt : i % z.size < z.size := Nat.mod_lt _ (by omega)
  have e : z[i % z.size]! = u := by
    rw [getElem!_pos z _ hlt]
    rw [hz] at hlt
    have := (List.getElem?_eq_some_iff.1 h2)
    rw [← hz] at this
    exact this.2
  rw [e]; exact h3

def pfBuildSlice (T : Tab) (e : Env) (t : TypeId) (n : Nat) (ps : Array (Nat × Operand)) : Option LV :=
  match T t with
  | some ti => match ti.kind with
    | .slice el => match T el with
      | some ei => if n * ei.size ≤ 16777216 then
          (fillL (fun i => some (i * ei.size, ei.size)) (zerosL ei.zero n) (evParts e ps)).map fun cells => .isl true ei.size (chunks ei.size n cells) else none
      | none => none
    | _ => none
  | none => none

theorem pf_buildSlice {T : Tab} (hT : TOK P T) {t : TypeId} {n : Nat} {ps : Array (Nat × Operand)} (ho : o.op = .buildSlice t n ps) (h : pfBuildSlice T e t n ps = some x) : Yields P o e B H x := by
  intro K jj w a N g te
  unfold pfBuildSlice at h
  split at h
  · rename_i ti hti
    split at h
    · rename_i el hk
      split at h
      · rename_i ei hei
        split at h
        · rename_i hle
          obtain ⟨cells, hf, rfl⟩ := Option.map_eq_some_iff.1 h
          have hok := hT t ti hti
          have hoe := hT el ei hei
          obtain ⟨z, hz, hzr, hzs, _, _, hone⟩ := hoe.run_zero K
          obtain ⟨hl, hp⟩ := te.parts ps
          have hzz := Rs.zeros hzr n (.inr trivial)
          rw [hoe.len] at hzz
          obtain ⟨arr', h3, h4, h5, h6⟩ := fillL_ok hzz (zerosL_one hone n) hl hp hf
          rw [zerosL_length, hoe.len] at h6
          have harr : ∀ (i : Nat) v, arr'.toList[i]? = some v → Lv.sealNew K w.heap.size arr' w.heap.size (0 + i) = some v := fun i v hv => by
            simp [Lv.sealNew]; simpa using hv
          have h4' := h4.mono (sealNew_le g arr')
          refine ⟨.slice (some ⟨w.heap.size, 0, none⟩) n n, w.alloc (.cells arr' el), Lv.sealNew K w.heap.size arr', ?_, g.sealNew arr' el _, (R.chunks h6 h4' harr true (Nat.le_refl _) (fun _ => rfl)).re, Fr.sealNew g arr' el _⟩
          simp only [execOp, ho, Instr.buildSlice]
          refine run_value ?_
          have hle' : ¬ n * ei.size > 2 ^ 24 := by omega
          simp only [Sem.run_bind, hok.run_slice hk w, Result.andThen_ok, hoe.run_size w, if_neg hle']
          by_cases h0 : n * ei.size = 0
          · have e2 : ∀ zz : Array Value, (Array.range (n * ei.size)).map (fun x => zz[x % zz.size]!) = #[] := fun zz => by rw [h0]; simp
            rw [e2] at h3
            simp only [if_pos h0, pure_bind, e2]
            rw [h3]
            rfl
          · simp only [if_neg h0, Sem.run_bind, hz w, Result.andThen_ok, Sem.run_pure]
            rw [h3]
            rfl
        · simp at h
      · simp at h
    · simp at h
  · simp at h

end
end Go.Lv
/- Lv, part G: lists of operations, calls, stores, new boxes; the function vc that says what is owed of straight code. Over any program; no condition. -/
namespace Go.Lv
open Go
set_option linter.unusedVariables false
set_option linter.unusedSimpArgs false

abbrev KPost := Env → Box → OHeap → Prop
def normQ (Q : KPost) : Post := fun x e B H => match x with | .norm => Q e B H | _ => False

/-- An operation that calls nobody. -/
def Step (P : Program) (o : Oper) (e : Env) (B : Box) (H : OHeap) (Q : LV → Box → OHeap → Prop) : Prop :=
  ∀ K jj w (a : Act) N, Good K jj B H w → TE K jj B N e a.tmps →
    ∃ nx v w', (execOp a.eval o).run P w = .ok nx w' ∧ (nx = .value v ∨ (nx = .skip ∧ v = undef)) ∧
      ∃ x B' H' K' jj', Good K' jj' B' H' w' ∧ RE K' jj' B' x v ∧ TE K' jj' B' N e a.tmps ∧ Fr (dom H B jj) w K (dom H' B' jj') w' K' ∧ Q x B' H'

/-- The list of operations that is left of a region. -/
def WPO (P : Program) (ρ : Option Nat) (N : Nat) (ops : Array Oper) (rest : List Oper) (Q : KPost) (e : Env) (B : Box) (H : OHeap) : Prop :=
  rest.all (opDst N) = true → ∀ n m K jj w a, Good K jj B H w → TE K jj B N e a.tmps → Dok m (dom H B jj) w a.defers → wpListIn (Fw ρ) n P ops (Lift N m (dom H B jj) w K (normQ Q)) rest a w

/-- A function that has a body. -/
def Enters (P : Program) (f : FuncId) : Prop := ∃ fn, P.funcs[f]? = some fn ∧ fn.body.isSome = true ∧ (fn.name == "runtime.NumGoroutine") = false

def nobox : Box := fun _ => (0, none)

/-- What a call of a function with a body does. -/
def EnterL (P : Program) (f : FuncId) (args : List LV) (H : OHeap) (Q : LV → OHeap → Prop) : Prop :=
  Enters P f ∧ ∀ K w (vs : List Value), Good K id nobox H w → Rs K args vs →
    Calls P f vs.toArray w fun en w' => ∃ v x K' H', en = .returned v ∧ Good K' id nobox H' w' ∧ R K' x v ∧ Fr (dom H nobox id) w K (dom H' nobox id) w' K' ∧ Q x H'
/-- What a call of a function without a body does that only looks. -/
def ExtL (P : Program) (f : FuncId) (args : List LV) (H : OHeap) (Q : LV → OHeap → Prop) : Prop :=
  ∀ K w (vs : List Value), Good K id nobox H w → Rs K args vs → ∃ v x, (callFunc f vs.toArray).run P w = .ok (.value v) w ∧ R K x v ∧ Q x H
/-- WHAT A CALL DOES: whatever is sealed, whatever is owned besides. -/
def CallL (P : Program) (f : FuncId) (args : List LV) (H : OHeap) (Q : LV → OHeap → Prop) : Prop := EnterL P f args H Q ∨ ExtL P f args H Q

theorem run_enters {P : Program} {f : FuncId} (he : Enters P f) (vs : Array Value) (w : World) : (callFunc f vs).run P w = .ok (.enter f vs) w := by
  obtain ⟨fn, hfn, hbody, hname⟩ := he
  have hbn : fn.body.isNone = false := by cases hb : fn.body with | none => simp [hb] at hbody | some _ => rfl
  simp only [callFunc, Sem.run_bind, run_program, Result.andThen_ok, hfn, hname, hbn, if_false, Bool.false_eq_true, Sem.run_pure]
theorem CallL.enter {P : Program} {f : FuncId} {args : List LV} {H : OHeap} {Q : LV → OHeap → Prop} (h : CallL P f args H Q) (he : Enters P f) : EnterL P f args H Q := by
  rcases h with h | h
  · exact h
  · refine ⟨he, fun K w vs g r => ?_⟩
    obtain ⟨v, x, h1, _⟩ := h K w vs g r
    rw [run_enters he] at h1
    cases h1

/-- WHAT A CALL OF yield DOES, of the loop whose record lies in block l. -/
def YieldL (P : Program) (l : Nat) (args : List LV) (H : OHeap) (Q : LV → OHeap → Prop) : Prop :=
  ∀ n K w (vs : List Value), Good K id nobox H w → Rs K args vs →
    YieldAt (Fw none) n P l vs.toArray w fun en w' => ∃ v x K' H', en = .returned v ∧ Good K' id nobox H' w' ∧ R K' x v ∧ Fr (dom H nobox id) w K (dom H' nobox id) w' K' ∧ Q x H'

section
variable {P : Program} {ρ : Option Nat} {N : Nat} {ops : Array Oper} {rest : List Oper} {o : Oper} {e : Env} {B : Box} {H : OHeap} {Q Q' : KPost}

theorem Yields.step {x : LV} (h : Yields P o e B H x) {Q : LV → Box → OHeap → Prop} (hq : Q x B H) : Step P o e B H Q := by
  intro K jj w a N g t
  obtain ⟨v, w', K', h1, h2, h3, h4⟩ := h K jj w a N g t
  exact ⟨_, v, w', h1, .inl rfl, x, B, H, K', jj, h2, h3, t.mono h4.le, h4, hq⟩

theorem CallL.mono {f : FuncId} {args : List LV} {Q Q' : LV → OHeap → Prop} (h : CallL P f args H Q) (hq : ∀ x H', Q x H' → Q' x H') : CallL P f args H Q' :=
  h.imp (fun h => ⟨h.1, fun K w vs g r => (h.2 K w vs g r).mono fun en w' ⟨v, x, K', H', h1, h2, h3, h4, h5⟩ => ⟨v, x, K', H', h1, h2, h3, h4, hq x H' h5⟩⟩)
    (fun h K w vs g r => let ⟨v, x, h1, h2, h3⟩ := h K w vs g r; ⟨v, x, h1, h2, hq x H h3⟩)

theorem YieldL.mono {l : Nat} {args : List LV} {Q Q' : LV → OHeap → Prop} (h : YieldL P l args H Q) (hq : ∀ x H', Q x H' → Q' x H') : YieldL P l args H Q' := fun n K w vs g r => by
  obtain ⟨fn, tmps, asg, body, h1, h2⟩ := h n K w vs g r
  exact ⟨fn, tmps, asg, body, h1, h2.mono fun en w' ⟨v, x, K', H', a, b, c, d, e⟩ => ⟨v, x, K', H', a, b, c, d, hq x H' e⟩⟩

theorem WPO.nil (h : Q e B H) : WPO P ρ N ops [] Q e B H := fun _ n m K jj w a g t d => wpListIn_nil (Lift.here (Q := normQ Q) .norm g t d h)

theorem lift_mono_list {n : Nat} {Q₁ Q₂ : Exit → Act → World → Prop} (hq : ∀ ex a w, Q₁ ex a w → Q₂ ex a w) : ∀ (rest : List Oper) (a : Act) (w : World), wpListIn (Fw ρ) n P ops Q₁ rest a w → wpListIn (Fw ρ) n P ops Q₂ rest a w
  | [], a, w, h => hq _ _ _ h
  | o :: rest, a, w, h => by
    simp only [wpListIn] at h ⊢
    have step : ∀ {K₁ K₂ : Act → World → Prop}, (∀ a w, K₁ a w → K₂ a w) → o.wpIn (Fw ρ) n P a w K₁ Q₁ → o.wpIn (Fw ρ) n P a w K₂ Q₂ := by
      intro K₁ K₂ hk hh
      refine ⟨hh.1, ?_⟩
      have hh := hh.2
      generalize (o.semAt (Fw ρ).round a.eval).run P w = r at *
      cases r with
      | ok x w' =>
        cases x <;> simp only [Oper.uponIn] at hh ⊢ <;>
          first
            | exact hk _ _ hh
            | exact ⟨hh.1, CallsIn.mono hh.2 (fun e w'' he => by cases e <;> first | exact hk _ _ he | exact hq _ _ _ he | (obtain ⟨a0, w0, h0⟩ := he; exact ⟨a0, w0, hq _ _ _ h0⟩))⟩
            | exact ⟨hh.1, RowsIn.mono hh.2 (fun _ _ he => hk _ _ he)⟩
            | exact ⟨hh.1, RoundIn.mono hh.2 (fun e w'' he => by cases e <;> first | exact hk _ _ he | exact hq _ _ _ he | (obtain ⟨a0, w0, h0⟩ := he; exact ⟨a0, w0, hq _ _ _ h0⟩))⟩
      | halt x w' => cases x <;> simp only [Oper.uponIn] at hh ⊢ <;> first | exact hq _ _ _ hh | exact hh
    split
    · rename_i hw
      rw [if_pos hw] at h
      exact step (fun a w => lift_mono_list hq rest a w) h
    · rename_i hw
      rw [if_neg hw] at h
      exact ⟨h.1, lift_mono_list hq rest _ _ h.2⟩

theorem semAt_call {ρ' : Operand → Value} (h : ∀ c, o.op ≠ .defer c) : o.semAt (Fw ρ).round ρ' = execOp ρ' o := Oper.semAt_eq _ _ _ h

theorem WPO.step_op (hdf : ∀ c, o.op ≠ .defer c) (hg : o.guard = none) (h : Step P o e B H fun x B' H' => WPO P ρ N ops rest Q (updo e o.dst x) B' H') : WPO P ρ N ops (o :: rest) Q e B H := by
  intro hdst n m K jj w a g t d
  simp only [List.all_cons, Bool.and_eq_true] at hdst
  refine wpListIn_plain hg fun K' hK' => ?_
  obtain ⟨nx, v, w', hrun, hnx, x, B', H', K1, jj', g', r', t', f, hq⟩ := h K jj w a N g t
  refine ⟨fun _ _ => trivial, ?_⟩
  rw [semAt_call hdf, hrun]
  have hput : Oper.uponIn (Fw ρ) n P o a K' (Lift N m (dom H B jj) w K (normQ Q)) (.ok nx w') = K' (a.put o.dst v) w' := by
    rcases hnx with rfl | ⟨rfl, rfl⟩ <;> rfl
  rw [hput]
  refine hK' _ _ ?_
  have hd : ∀ tt, o.dst = some tt → tt < N := fun tt ht => by have := hdst.1; simp [opDst, ht] at this; exact this
  have hdef : (a.put o.dst v).defers = a.defers := by cases o.dst <;> rfl
  refine lift_mono_list (fun _ _ _ hl => hl.fr f) rest _ _ (hq hdst.2 n m K1 jj' w' (a.put o.dst v) g' (t'.put hd r') ?_)
  rw [hdef]; exact d.fr f

/-- The test ahead of an operation. -/
def gv (ops : Array Oper) (e : Env) (j : Nat) : Option Bool :=
  match ops[j]? with
  | some o => match o.dst with
    | some t => match e t with
      | .bool b => some b
      | _ => none
    | none => none
  | none => none

theorem gv_ok {K : Know} {jj : Nat → Nat} {a : Act} (t : TE K jj B N e a.tmps) {j : Nat} {b : Bool} (h : gv ops e j = some b) : yielded ops a.tmps j = some b := by
  unfold gv at h
  split at h
  · rename_i o ho
    split at h
    · rename_i tt htt
      split at h
      · rename_i b' hb
        simp at h; subst h
        have r := t.get tt
        rw [hb] at r
        have hv := r.bool
        unfold yielded
        simp only [ho, Option.bind_some, htt]
        cases hg : a.tmps[tt]? with
        | none => simp [hg, undef] at hv
        | some v => simp [hg] at hv; subst hv; rfl
      · simp at h
    · simp at h
  · simp at h

theorem wanted_iff {K : Know} {jj : Nat → Nat} {a : Act} (t : TE K jj B N e a.tmps) {j : Nat} {want b : Bool} (hg : o.guard = some (j, want)) (h : gv ops e j = some b) :
    Region.wanted o (yielded ops a.tmps) = (b == want) := by
  simp only [Region.wanted, hg, gv_ok t h]
  cases b <;> cases want <;> rfl

theorem WPO.guard {j : Nat} {want b : Bool} (hg : o.guard = some (j, want)) (hb : gv ops e j = some b)
    (hy : b = want → WPO P ρ N ops ({ o with guard := none } :: rest) Q e B H) (hn : b ≠ want → WPO P ρ N ops rest Q (updo e o.dst (.tup [])) B H) : WPO P ρ N ops (o :: rest) Q e B H := by
  intro hdst n m K jj w a g t d
  simp only [wpListIn, wanted_iff t hg hb]
  by_cases hbw : b = want
  · subst hbw
    simp only [beq_self_eq_true, if_true]
    have h1 := hy rfl (by simpa [opDst] using hdst) n m K jj w a g t d
    simp only [wpListIn, Region.wanted] at h1
    exact h1
  · have : (b == want) = false := by simpa using hbw
    simp only [this]
    simp only [List.all_cons, Bool.and_eq_true] at hdst
    refine ⟨fun _ _ => trivial, ?_⟩
    have hd : ∀ tt, o.dst = some tt → tt < N := fun tt ht => by have := hdst.1; simp [opDst, ht] at this; exact this
    refine hn hbw hdst.2 n m K jj w _ g (t.put hd (R.tup [] [] rfl (fun i x v h => by simp at h)).re) ?_
    have hdef : (a.put o.dst undef).defers = a.defers := by cases o.dst <;> rfl
    rw [hdef]; exact d

/-- A region in the order of its text. -/
theorem WP.region {id : Nat} {Q : Post} (h : WPO P ρ N ops ops.toList (Q .norm) e B H) : WP P ρ N (.region id ops false) Q e B H := by
  intro hd n m K jj w a g t d
  refine wpIn_region_list (lift_mono_list (fun ex a w hl => ?_) _ _ _ (h hd n m K jj w a g t d))
  refine hl.mono fun x e B H hx => ?_
  cases x with
  | norm => exact hx
  | exit i => exact hx.elim
  | ret => exact hx.elim

/-! ### Calls -/

theorem Good.nobox {K : Know} {jj : Nat → Nat} {w : World} (g : Good K jj B H w) : Good K id Lv.nobox H w := {
  know := g.know
  own := g.own
  apart b o h := g.apart b o (by rcases h with h | ⟨d, h, _⟩; exact .inl h; simp [Lv.nobox] at h)
  box d ver cs h := by simp [Lv.nobox] at h
  boxH d h := by simp [Lv.nobox] at h
  boxne d d' h := by simp [Lv.nobox] at h }

theorem dom_nobox {b : Nat} : dom H nobox id b ↔ (H b).isSome = true :=
  ⟨fun h => by rcases h with h | ⟨d, h, _⟩; exact h; simp [nobox] at h, .inl⟩

/-- Private boxes come through a call. -/
theorem Good.back {K K' : Know} {jj : Nat → Nat} {w w' : World} {H' : OHeap} (g : Good K jj B H w) (g' : Good K' id Lv.nobox H' w') (f : Fr (dom H Lv.nobox id) w K (dom H' Lv.nobox id) w' K') :
    Good K' jj B H' w' ∧ Fr (dom H B jj) w K (dom H' B jj) w' K' := by
  have hb : ∀ d, (B d).2.isSome = true → jj d < w.heap.size ∧ ¬ dom H Lv.nobox id (jj d) := fun d hd => by
    refine ⟨g.lt (.inr ⟨d, hd, rfl⟩), fun x => ?_⟩
    have := g.boxH d hd
    rw [dom_nobox, this] at x; simp at x
  have hH : ∀ d, (B d).2.isSome = true → H' (jj d) = none := fun d hd => by
    obtain ⟨h1, h2⟩ := hb d hd
    cases hh : H' (jj d) with
    | none => rfl
    | some o => exact ((f.newD (jj d) (.inl (by simp [hh]))).elim h2 (fun x => by omega)).elim
  refine ⟨⟨g'.know, g'.own, fun b o h => ?_, fun d ver cs h => ?_, hH, g.boxne⟩, ⟨f.os, f.tape, f.output, f.size, fun b hlt hnd => f.old b hlt (fun x => hnd (.inl (dom_nobox.1 x))), f.le, fun b o h1 h2 => ?_, fun b h => ?_⟩⟩
  · rcases h with h | ⟨d, hd, rfl⟩
    · exact g'.apart b o (.inl h)
    · obtain ⟨h1, h2⟩ := hb d hd
      have hk := g.apart (jj d) o (.inr ⟨d, hd, rfl⟩)
      cases hk' : K' (jj d) o with
      | none => rfl
      | some v => exact ((f.newK (jj d) o hk (by simp [hk'])).elim h2 (fun x => by omega)).elim
  · have hd : (B d).2.isSome = true := by rw [h]; rfl
    obtain ⟨h1, h2⟩ := hb d hd
    exact ((g.box d ver cs h).same (f.old _ h1 h2)).mono f.le
  · exact (f.newK b o h1 h2).imp (fun x => .inl (dom_nobox.1 x)) id
  · rcases h with h | ⟨d, hd, rfl⟩
    · exact (f.newD b (.inl h)).imp (fun x => .inl (dom_nobox.1 x)) id
    · exact .inl (.inr ⟨d, hd, rfl⟩)

theorem RE.back {K K' : Know} {jj : Nat → Nat} {y : LV} {v : Value} (hle : K.le K') (h : RE K jj B y v) : RE K' jj B y v := h.mono hle

/-- What is called, with all its arguments. -/
def callee (e : Env) (c : Call) : Option (FuncId × List LV) :=
  match c.callee with
  | .value f => match ev e f with
    | .fn g fst caps => some (g, fst ++ evs e c.args ++ caps)
    | _ => none
  | _ => none

theorem run_callee {K : Know} {jj : Nat → Nat} {a : Act} {w : World} (t : TE K jj B N e a.tmps) {c : Call} (ho : o.op = .call c) {g : FuncId} {args : List LV} (h : callee e c = some (g, args))
    (hg : args.all LV.glob = true) : ∃ vs : List Value, Rs K args vs ∧ (execOp a.eval o).run P w = (callFunc g vs.toArray).run P w := by
  unfold callee at h
  split at h
  · rename_i f hf
    split at h
    · rename_i g' fst caps hev
      simp at h; obtain ⟨rfl, rfl⟩ := h
      have r := t.ev f
      rw [hev] at r
      have r' : R K (.fn g' fst caps) (a.eval f) := r
      obtain ⟨us, ws, hv, h1, h2⟩ : ∃ us ws : List Value, a.eval f = .func (.func g') us.toArray ws.toArray ∧ Rs K fst us ∧ Rs K caps ws := by
        generalize a.eval f = u at r'; cases r' with | fn _ _ _ us ws hl hm h h' => exact ⟨us, ws, rfl, ⟨hl, h⟩, ⟨hm, h'⟩⟩
      simp only [List.all_append, Bool.and_eq_true] at hg
      have h3 := t.evs hg.2.1
      refine ⟨us ++ ((c.args.map a.eval).toList ++ ws), h1.append (h3.append h2), ?_⟩
      simp only [execOp, ho, resolve, hf, hv, Deferred.ofValue]
      simp only [pure_bind, invoke]
      have : us.toArray ++ c.args.map a.eval ++ ws.toArray = (us ++ ((c.args.map a.eval).toList ++ ws)).toArray := by apply Array.ext'; simp
      rw [← this]
    · simp at h
  · simp at h

theorem WPO.call {c : Call} (ho : o.op = .call c) (hg : o.guard = none) {g : FuncId} {args : List LV} (hc : callee e c = some (g, args)) (hgl : args.all LV.glob = true)
    (h : CallL P g args H fun x H' => WPO P ρ N ops rest Q (updo e o.dst x) B H') : WPO P ρ N ops (o :: rest) Q e B H := by
  intro hdst n m K jj w a g0 t d
  simp only [List.all_cons, Bool.and_eq_true] at hdst
  refine wpListIn_plain hg fun K' hK' => ?_
  obtain ⟨vs, hrs, hrun⟩ := run_callee (P := P) (w := w) t ho hc hgl
  refine ⟨fun _ _ => trivial, ?_⟩
  rw [semAt_call (by simp [ho]), hrun]
  rcases h with h | h
  case inr =>
    obtain ⟨v, x, h1, r', hq⟩ := h K w vs g0.nobox hrs
    rw [h1]
    refine (show K' (a.put o.dst v) w from ?_)
    refine hK' _ _ ?_
    have hd : ∀ tt, o.dst = some tt → tt < N := fun tt ht => by have := hdst.1; simp [opDst, ht] at this; exact this
    have hdef : (a.put o.dst v).defers = a.defers := by cases o.dst <;> rfl
    exact hq hdst.2 n m K jj w (a.put o.dst v) g0 (t.put hd r'.re) (by rw [hdef]; exact d)
  rw [run_enters h.1]
  refine ⟨fun h => by simp at h, ?_⟩
  have hcalls := h.2 K w vs g0.nobox hrs
  refine (show CallsIn (Fw ρ) (n - 1) P g vs.toArray w _ from (callsIn_wide (n := n - 1)).2 (hcalls.mono ?_))
  rintro en w' ⟨v, x, K1, H', rfl, g', r', f, hq⟩
  obtain ⟨g'', f'⟩ := g0.back g' f
  refine hK' _ _ ?_
  have hd : ∀ tt, o.dst = some tt → tt < N := fun tt ht => by have := hdst.1; simp [opDst, ht] at this; exact this
  have hdef : (a.put o.dst v).defers = a.defers := by cases o.dst <;> rfl
  refine lift_mono_list (fun _ _ _ hl => hl.fr f') rest _ _ (hq hdst.2 n m K1 jj w' (a.put o.dst v) g'' ((t.mono f.le).put hd r'.re) ?_)
  rw [hdef]; exact d.fr f'

end
end Go.Lv
/- Lv, part H: a function's contract from its body; new boxes, stores, rows of the call's own, append, copy, clear. Over any program; no condition. -/
namespace Go.Lv
open Go
set_option linter.unusedVariables false
set_option linter.unusedSimpArgs false

/-! ### A function from its body -/

/-- Less may be said of a result, and what was owned may be sealed. -/
def Wk (r : LV) (H : OHeap) (r' : LV) (H' : OHeap) : Prop :=
  ∀ K w v, Good K id nobox H w → R K r v → ∃ K', Good K' id nobox H' w ∧ R K' r' v ∧ Fr (dom H nobox id) w K (dom H' nobox id) w K'

def Ends (Q : LV → OHeap → Prop) (r : LV) (H : OHeap) : Prop := ∃ r' H', Wk r H r' H' ∧ Q r' H'

theorem Wk.refl (r : LV) (H : OHeap) : Wk r H r H := fun K w v g h => ⟨K, g, h, Fr.refl _ _ _⟩
theorem Wk.trans {r r' r'' : LV} {H H' H'' : OHeap} (h : Wk r H r' H') (h' : Wk r' H' r'' H'') : Wk r H r'' H'' := fun K w v g hr => by
  obtain ⟨K', g', hr', f⟩ := h K w v g hr
  obtain ⟨K'', g'', hr'', f'⟩ := h' K' w v g' hr'
  exact ⟨K'', g'', hr'', f.trans f'⟩
theorem Ends.of {Q : LV → OHeap → Prop} {r : LV} {H : OHeap} (h : Q r H) : Ends Q r H := ⟨r, H, Wk.refl r H, h⟩

/-- One result variable. -/
def resOne (T : Tab) (e : Env) (B : Box) (H : OHeap) : ResultVar → Option LV
  | .tmp t => if (e t).glob = true then some (e t) else none
  | .cell a t => pfLoad T B H t (e a)

def resL (T : Tab) (rs : List ResultVar) (e : Env) (B : Box) (H : OHeap) : Option LV :=
  match rs with
  | [r] => resOne T e B H r
  | rs => (rs.mapM (resOne T e B H)).map .tup

def RetQ (T : Tab) (fn : Func) (Q : LV → OHeap → Prop) : Post := fun x e B H =>
  match x with
  | .exit _ => False
  | _ => ∃ r, resL T fn.results.toList e B H = some r ∧ Ends Q r H

/-- One result variable, read. -/
def resSem (tmps : Array Value) : ResultVar → Sem Value
  | .tmp t => pure (tmps.getD t undef)
  | .cell a t => do loadVar t (← asAddr (tmps.getD a undef))
theorem results_eq (fn : Func) (tmps : Array Value) : results fn tmps = (do
    let vs ← fn.results.mapM (resSem tmps)
    pure (if h : vs.size = 1 then vs[0] else .tuple vs)) := by
  unfold results
  rfl

section
variable {P : Program} {ρ : Option Nat} {N m : Nat} {o : Oper} {e : Env} {B : Box} {H : OHeap}

theorem run_resOne {T : Tab} (hT : TOK P T) {K : Know} {jj : Nat → Nat} {w : World} (g : Good K jj B H w) {tmps : Array Value} (t : TE K jj B N e tmps) {r : ResultVar} {x : LV} (h : resOne T e B H r = some x) :
    ∃ v, (resSem tmps r).run P w = .ok v w ∧ R K x v := by
  cases r with
  | tmp i =>
    simp only [resOne] at h
    split at h
    · rename_i hg
      simp at h; subst h
      exact ⟨_, rfl, (t.get i).r (LV.glob_bp hg)⟩
    · simp at h
  | cell a ty =>
    simp only [resOne, pfLoad] at h
    split at h
    · rename_i ti cs hti hcs
      obtain ⟨b, off, hv, hc⟩ := cellsAt_ok g (t.get a) hcs
      obtain ⟨v, h1, h2⟩ := run_loadVar (hT ty ti hti) hc h
      refine ⟨v, ?_, h2⟩
      simp only [resSem, hv, asAddr, pure_bind]
      exact h1
    · simp at h

theorem run_resL {T : Tab} (hT : TOK P T) {K : Know} {jj : Nat → Nat} {w : World} (g : Good K jj B H w) {tmps : Array Value} (t : TE K jj B N e tmps) {fn : Func} {x : LV}
    (h : resL T fn.results.toList e B H = some x) : ∃ v, (results fn tmps).run P w = .ok v w ∧ R K x v := by
  have key : ∀ (l : List ResultVar) (xs : List LV), l.mapM (resOne T e B H) = some xs → ∃ vs, Rs K xs vs ∧
      (l.mapM (resSem tmps)).run P w = .ok vs w := by
    intro l
    induction l with
    | nil => intro xs h; simp at h; subst h; exact ⟨[], Rs.nil K, by simp⟩
    | cons r l ih =>
      intro xs h
      simp only [List.mapM_cons] at h
      cases h1 : resOne T e B H r with
      | none => simp [h1] at h
      | some y =>
        cases h2 : l.mapM (resOne T e B H) with
        | none => simp [h1, h2] at h
        | some ys =>
          simp [h1, h2] at h; subst h
          obtain ⟨v, hv, hrv⟩ := run_resOne hT g t h1
          obtain ⟨vs, hrs, hvs⟩ := ih ys h2
          refine ⟨v :: vs, hrs.cons hrv, ?_⟩
          simp only [List.mapM_cons, Sem.run_bind, hv, Result.andThen_ok, hvs, Sem.run_pure]
  unfold resL at h
  rw [results_eq, Array.mapM_eq_mapM_toList]
  split at h
  · rename_i r hr
    obtain ⟨v, hv, hrv⟩ := run_resOne hT g t h
    refine ⟨v, ?_, hrv⟩
    rw [hr]
    simp [hv]
  · rename_i hne
    obtain ⟨xs, hxs, rfl⟩ := Option.map_eq_some_iff.1 h
    obtain ⟨vs, hrs, hvs⟩ := key _ xs hxs
    refine ⟨.tuple vs.toArray, ?_, .tup xs vs hrs.1 hrs.2⟩
    have hl : vs.length = fn.results.toList.length := by
      rw [hrs.1]
      clear hne h hvs hrs
      generalize fn.results.toList = l at hxs
      induction l generalizing xs with
      | nil => simp at hxs; simp [← hxs]
      | cons r l ih =>
        simp only [List.mapM_cons] at hxs
        cases h1 : resOne T e B H r with
        | none => simp [h1] at hxs
        | some y =>
          cases h2 : l.mapM (resOne T e B H) with
          | none => simp [h1, h2] at hxs
          | some ys => simp [h1, h2] at hxs; subst hxs; simp [ih ys h2]
    have hsz : ¬ vs.toArray.size = 1 := by
      intro h1
      rw [List.size_toArray, hl] at h1
      obtain ⟨r, hr⟩ := List.length_eq_one_iff.1 h1
      exact hne r hr
    simp only [Sem.run_bind, Sem.run_map, hvs, Result.andThen_ok, Sem.run_pure]
    rw [dif_neg hsz]

def argEnv (args : List LV) : Env := fun i => args.getD i .any

/-- Setting an unowned block that holds no cells. -/
def setOb (w : World) (b : Nat) (ob : Obj) : World := { w with heap := w.heap.setIfInBounds b ob }
theorem setOb_other {w : World} {b b' : Nat} {ob : Obj} (h : b' ≠ b) : (setOb w b ob).heap[b']? = w.heap[b']? := by
  simp only [setOb]; rw [Array.getElem?_setIfInBounds_ne (fun x => h x.symm)]
theorem setOb_same {w : World} {b : Nat} {ob : Obj} (h : b < w.heap.size) : (setOb w b ob).heap[b]? = some ob := by
  simp [setOb, h]
theorem setOb_size {w : World} {b : Nat} {ob : Obj} : (setOb w b ob).heap.size = w.heap.size := by simp [setOb]

theorem Good.setOb {K : Know} {jj : Nat → Nat} {w : World} (g : Good K jj B H w) {b : Nat} (hd : ¬ dom H B jj b) {ob : Obj} (hk : ∀ o, K b o = none) : Good K jj B H (Lv.setOb w b ob) := {
  know b' o v h := by
    have hne : b' ≠ b := fun x => by subst x; rw [hk] at h; simp at h
    rw [World.cell?_of_block (w := w) (setOb_other hne)]; exact g.know b' o v h
  own b' o h := (g.own b' o h).same (setOb_other (fun x => hd (by subst x; exact .inl (by simp [h]))))
  apart := g.apart
  box d ver cs h := (g.box d ver cs h).same (setOb_other (fun x => hd (.inr ⟨d, by rw [h]; rfl, x⟩)))
  boxH := g.boxH
  boxne := g.boxne }

theorem noK_of_deferred {K : Know} {jj : Nat → Nat} {w : World} (g : Good K jj B H w) {b : Nat} {x : Option (List Deferred)} (h : w.heap[b]? = some (.deferred x)) (o : Nat) : K b o = none := by
  cases hk : K b o with
  | none => rfl
  | some v => have := g.know b o v hk; simp [World.cell?, h] at this

theorem leaves_marks {T : Tab} (hT : TOK P T) {fn : Func} {n : Nat} {r : LV} {R0 : Ending → World → Prop} {tmps : Array Value} :
    ∀ (bs : List Nat) (w : World) (K : Know) (jj : Nat → Nat), bs.Nodup → (∀ b ∈ bs, ¬ dom H B jj b ∧ w.heap[b]? = some (.deferred (some []))) → Good K jj B H w → TE K jj B N e tmps → resL T fn.results.toList e B H = some r →
      (∀ w' v, Good K jj B H w' → R K r v → (∀ b, b ∉ bs → w'.heap[b]? = w.heap[b]?) → w'.heap.size = w.heap.size → w'.os = w.os → w'.tape = w.tape → w'.output = w.output → R0 (.returned v) w') →
      LeavesInM (Fw none) n P fn tmps R0 (bs.map dmark) .returning w
  | [], w, K, jj, _, _, g, t, hr, h => by
    obtain ⟨v, h1, h2⟩ := run_resL hT g t hr
    exact ⟨v, h1, h w v g h2 (fun _ _ => rfl) rfl rfl rfl rfl⟩
  | b :: bs, w, K, jj, hnd, hb, g, t, hr, h => by
    obtain ⟨h1, h2⟩ := hb b (List.mem_cons_self ..)
    have hlt := (Array.getElem?_eq_some_iff.1 h2).1
    simp only [List.nodup_cons] at hnd
    refine ⟨by simp, .inl ⟨b, setOb w b (.deferred none), rfl, ?_, ?_⟩⟩
    · simp [Instr.takeDeferred, getObj, setObj, Sem.run, h2, setOb]
    · have g' := g.setOb h1 (ob := .deferred none) (noK_of_deferred g h2)
      refine leaves_marks hT bs (setOb w b (.deferred none)) K jj hnd.2 (fun b' hb' => ?_) g' t hr ?_
      · have hne : b' ≠ b := fun x => hnd.1 (x ▸ hb')
        rw [setOb_other hne]
        exact hb b' (List.mem_cons_of_mem _ hb')
      · intro w' v gw hv hold hsz h1 h2 h3
        refine h w' v gw hv (fun b' hb' => ?_) (by rw [hsz, setOb_size]) h1 h2 h3
        simp only [List.mem_cons, not_or] at hb'
        rw [hold b' hb'.2, setOb_other hb'.1]

/-- THE CONTRACT FROM THE BODY. -/
theorem CallL.of_WP {T : Tab} (hT : TOK P T) {f : FuncId} {fn : Func} {c : Code} {args : List LV} {Q : LV → OHeap → Prop} (hf : P.funcs[f]? = some fn) (hb : fn.body = some c) (hname : (fn.name == "runtime.NumGoroutine") = false)
    (hdst : dstOk fn.ntmps c = true) (hargs : args.length ≤ fn.ntmps) (h : WP P none fn.ntmps c (RetQ T fn Q) (argEnv args) nobox H) : CallL P f args H Q := by
  refine .inl ⟨⟨fn, hf, by simp [hb], hname⟩, fun K w vs g hrs => ?_⟩
  have hvl : vs.length = args.length := hrs.1
  have te : TE K id nobox fn.ntmps (argEnv args) (vs.toArray ++ Array.replicate (fn.ntmps - vs.toArray.size) undef) := by
    refine ⟨by simp; omega, fun i => ?_⟩
    by_cases hi : i < vs.length
    · have h1 : args[i]? = some args[i] := List.getElem?_eq_getElem (by omega)
      have h2 : vs[i]? = some vs[i] := List.getElem?_eq_getElem hi
      have e1 : argEnv args i = args[i] := by simp [argEnv, List.getD_eq_getElem?_getD, h1]
      have e2 : (vs.toArray ++ Array.replicate (fn.ntmps - vs.toArray.size) undef).getD i undef = vs[i] := by
        rw [Array.getD_eq_getD_getElem?, Array.getElem?_append_left (by simpa using hi)]; simp [hi]
      rw [e1, e2]
      exact (hrs.2 i _ _ h1 h2).re
    · have e1 : argEnv args i = .any := by
        simp [argEnv, List.getD_eq_getElem?_getD, List.getElem?_eq_none (by omega : args.length ≤ i)]
      rw [e1]; exact (R.any _).re
  rw [← callsIn_wide (n := 0)]
  refine callsIn_of_wp_marks (F := Fence.wide) hf hb trivial ?_
  have hw := h hdst 0 w.heap.size K id w { tmps := vs.toArray ++ Array.replicate (fn.ntmps - vs.toArray.size) undef, defers := [] } g te (Dok.nil _ (Nat.le_refl _))
  rw [← Fw_none]
  refine wpIn_mono hw ?_
  rintro ex a' w' ⟨x, K', jj', e', B', H', rfl, g', t', ⟨_, bs, hds, hnd, hbs⟩, fr, hq⟩
  have fin : (∃ r, resL T fn.results.toList e' B' H' = some r ∧ Ends Q r H') → LeavesInM (Fw none) 0 P fn a'.tmps (fun en w'' => ∃ v x K'' H'', en = .returned v ∧ Good K'' id nobox H'' w'' ∧ R K'' x v ∧ Fr (dom H nobox id) w K (dom H'' nobox id) w'' K'' ∧ Q x H'') a'.defers .returning w' := by
    rintro ⟨r, hr, r', H'', hwk, hQ⟩
    rw [hds]
    refine leaves_marks hT bs w' K' jj' hnd (fun b hb => (hbs b hb).2) g' t' hr ?_
    intro w'' v gw hv hold hsz h1 h2 h3
    obtain ⟨K'', g'', hv'', f''⟩ := hwk K' w'' v gw.nobox hv
    refine ⟨v, r', K'', H'', rfl, g'', hv'', ?_, hQ⟩
    have f1 : Fr (dom H nobox id) w K (dom H' nobox id) w'' K' := by
      refine ⟨h1.trans fr.os, h2.trans fr.tape, h3.trans fr.output, by rw [hsz]; exact fr.size, fun b hlt hd => ?_, fr.le, fr.newK, fun b hb => fr.newD b (.inl (dom_nobox.1 hb))⟩
      by_cases hbm : b ∈ bs
      · exact absurd (hbs b hbm).1 (by omega)
      · rw [hold b hbm, fr.old b hlt hd]
    exact f1.trans f''
  cases x with
  | norm => exact fin hq
  | exit i => exact hq.elim
  | ret => exact fin hq

end
end Go.Lv
/- Lv, part I: what turns memory: new boxes, stores, rows of the call's own. Over any program; no condition. -/
namespace Go.Lv
open Go
set_option linter.unusedVariables false
set_option linter.unusedSimpArgs false

/-! ### Writing into a block -/

/-- Cells laid over others, from the place k on. -/
def seg (cs : List LV) (k : Nat) (ns : List LV) : List LV := cs.take k ++ ns ++ cs.drop (k + ns.length)

theorem seg_length {cs ns : List LV} {k : Nat} (h : k + ns.length ≤ cs.length) : (seg cs k ns).length = cs.length := by simp [seg]; omega
theorem seg_get {cs ns : List LV} {k : Nat} (hk : k ≤ cs.length) (i : Nat) : (seg cs k ns)[i]? = if i < k then cs[i]? else if i < k + ns.length then ns[i - k]? else cs[i]? := by
  have h1 : (cs.take k).length = k := by simp; omega
  unfold seg
  by_cases hi : i < k
  · rw [if_pos hi, List.append_assoc, List.getElem?_append_left (by omega), List.getElem?_take, if_pos hi]
  · rw [if_neg hi]
    by_cases hj : i < k + ns.length
    · rw [if_pos hj, List.append_assoc, List.getElem?_append_right (by omega), List.getElem?_append_left (by omega), h1]
    · rw [if_neg hj, List.getElem?_append_right (by simp [h1]; omega), List.getElem?_drop]
      congr 1
      simp [h1]; omega

def arrs (arr : Array Value) (k : Nat) : List Value → Array Value
  | [] => arr
  | v :: r => arrs (arr.setIfInBounds k v) (k + 1) r

theorem arrs_size (vs : List Value) : ∀ (arr : Array Value) (k : Nat), (arrs arr k vs).size = arr.size := by
  induction vs with
  | nil => intro arr k; rfl
  | cons v r ih => intro arr k; simp [arrs, ih]
theorem arrs_get (vs : List Value) : ∀ (arr : Array Value) (k : Nat), k + vs.length ≤ arr.size → ∀ i, (arrs arr k vs)[i]? = if i < k then arr[i]? else if i < k + vs.length then vs[i - k]? else arr[i]? := by
  induction vs with
  | nil => intro arr k _ i; simp [arrs]; intro _ h; omega
  | cons v r ih =>
    intro arr k hk i
    simp only [List.length_cons] at hk
    rw [arrs, ih _ _ (by simp; omega), Array.getElem?_setIfInBounds]
    by_cases hi : i < k
    · rw [if_pos hi, if_pos (by omega), if_neg (by omega)]
    · rw [if_neg hi]
      by_cases he : i = k
      · subst he
        simp; omega
      · have : ¬ i < k + 1 := by omega
        rw [if_neg this]
        simp only [List.length_cons]
        by_cases hj : i < k + 1 + r.length
        · rw [if_pos hj, if_pos (by omega), show i - k = (i - (k + 1)) + 1 by omega, List.getElem?_cons_succ]
        · rw [if_neg hj, if_neg (by omega), if_neg (by omega)]

theorem setCell_block {w : World} {b k : Nat} {arr : Array Value} {T : TypeId} {fz : Nat × Nat} (h : w.heap[b]? = some (.cells arr T fz)) (v : Value) :
    (w.setCell ⟨b, k, none⟩ v).heap[b]? = some (.cells (arr.setIfInBounds k v) T fz) := by
  simp [World.setCell, Array.getElem?_modify, h]
theorem setCell_other {w : World} {b b' k : Nat} (h : b' ≠ b) (v : Value) : (w.setCell ⟨b, k, none⟩ v).heap[b']? = w.heap[b']? := by
  simp only [World.setCell, Array.getElem?_modify]
  rw [if_neg (fun x => h x.symm)]

/-- Nothing but this block. -/
structure Wrote (w : World) (b : Nat) (w' : World) : Prop where
  os : w'.os = w.os
  tape : w'.tape = w.tape
  output : w'.output = w.output
  size : w'.heap.size = w.heap.size
  other : ∀ b', b' ≠ b → w'.heap[b']? = w.heap[b']?

theorem Wrote.refl (w : World) (b : Nat) : Wrote w b w := ⟨rfl, rfl, rfl, rfl, fun _ _ => rfl⟩
theorem Wrote.trans {w w' w'' : World} {b : Nat} (h : Wrote w b w') (h' : Wrote w' b w'') : Wrote w b w'' :=
  ⟨h'.os.trans h.os, h'.tape.trans h.tape, h'.output.trans h.output, h'.size.trans h.size, fun b' hb => (h'.other b' hb).trans (h.other b' hb)⟩

theorem setCell_wrote (w : World) (b k : Nat) (v : Value) : Wrote w b (w.setCell ⟨b, k, none⟩ v) :=
  ⟨rfl, rfl, rfl, by simp [World.setCell], fun b' h => setCell_other h v⟩
theorem setCells_wrote (b : Nat) : ∀ (vs : List Value) (k : Nat) (w : World), Wrote w b (w.setCells b k vs)
  | [], _, w => Wrote.refl w b
  | v :: r, k, w => (setCell_wrote w b k v).trans (setCells_wrote b r (k + 1) _)
theorem setCells_block (b : Nat) : ∀ (vs : List Value) (k : Nat) (w : World) (arr : Array Value) (T : TypeId) (fz : Nat × Nat), w.heap[b]? = some (.cells arr T fz) → (w.setCells b k vs).heap[b]? = some (.cells (arrs arr k vs) T fz)
  | [], _, _, _, _, _, h => h
  | v :: r, k, w, arr, T, fz, h => setCells_block b r (k + 1) _ _ T fz (setCell_block h v)

theorem frozen_of_block {w w' : World} {b : Nat} {arr arr' : Array Value} {T : TypeId} {fz : Nat × Nat} (h : w.heap[b]? = some (.cells arr T fz)) (h' : w'.heap[b]? = some (.cells arr' T fz)) (o : Nat) : w'.frozen? ⟨b, o, none⟩ = w.frozen? ⟨b, o, none⟩ := by
  simp [World.frozen?, h, h']

/-- A WRITE INTO WHAT IS OWNED. -/
theorem own_store {P : Program} {K : Know} {w : World} {b k n : Nat} {cs ns : List LV} {vs : List Value} (ho : ownObj K w b (.cells cs n)) (hr : Rs K ns vs) (h1 : ∀ v ∈ vs, v.oneCell' = true) (hk : k ≤ cs.length) (hn : k + ns.length ≤ n) :
    (storeCells ⟨b, k, none⟩ vs).run P w = .ok () (w.setCells b k vs) ∧ ownObj K (w.setCells b k vs) b (.cells (seg cs k ns) n) ∧ Wrote w b (w.setCells b k vs) := by
  obtain ⟨arr, T, fz, hb, hsz, hle, hcs, hfz⟩ := ho
  have hvl : vs.length = ns.length := hr.1
  refine ⟨?_, ?_, setCells_wrote b vs k w⟩
  · have := run_storeCells_cells (P := P) b k vs 0 w (fun j hj => by
        have : k + 0 + j < arr.size := by omega
        simp [World.cell?, hb]; omega) (fun j hj => hfz _) h1
    simpa using this
  · have hb' := setCells_block b vs k w arr T fz hb
    refine ⟨_, T, fz, hb', by rw [arrs_size, hsz], ?_, fun i x hx => ?_, fun o => by rw [frozen_of_block hb hb']; exact hfz o⟩
    · simp only [seg, List.length_append, List.length_take, List.length_drop]; omega
    · rw [seg_get hk] at hx
      rw [arrs_get vs arr k (by omega)]
      by_cases hi : i < k
      · rw [if_pos hi] at hx ⊢; exact hcs i x hx
      · rw [if_neg hi] at hx ⊢
        rw [hvl]
        by_cases hj : i < k + ns.length
        · rw [if_pos hj] at hx ⊢
          obtain ⟨v, h2, h3⟩ := hr.get hx
          exact ⟨v, h2, h1 v (List.mem_of_getElem? h2), h3⟩
        · rw [if_neg hj] at hx ⊢; exact hcs i x hx

def setH (H : OHeap) (b : Nat) (o : LO) : OHeap := fun i => if i = b then some o else H i
def delH (H : OHeap) (b : Nat) : OHeap := fun i => if i = b then none else H i
def setB (B : Box) (d : Nat) (cs : List LV) : Box := fun i => if i = d then ((B d).1, some cs) else B i
def newB (B : Box) (d : Nat) (cs : List LV) : Box := fun i => if i = d then ((B d).1 + 1, some cs) else B i
def delB (B : Box) (d : Nat) : Box := fun i => if i = d then ((B d).1, none) else B i
@[simp] theorem setH_apply (H : OHeap) (b : Nat) (o : LO) (i : Nat) : setH H b o i = if i = b then some o else H i := rfl
@[simp] theorem delH_apply (H : OHeap) (b : Nat) (i : Nat) : delH H b i = if i = b then none else H i := rfl
@[simp] theorem setB_apply (B : Box) (d : Nat) (cs : List LV) (i : Nat) : setB B d cs i = if i = d then ((B d).1, some cs) else B i := rfl
@[simp] theorem newB_apply (B : Box) (d : Nat) (cs : List LV) (i : Nat) : newB B d cs i = if i = d then ((B d).1 + 1, some cs) else B i := rfl
@[simp] theorem delB_apply (B : Box) (d : Nat) (i : Nat) : delB B d i = if i = d then ((B d).1, none) else B i := rfl

section
variable {P : Program} {N : Nat} {o : Oper} {e : Env} {B : Box} {H : OHeap} {K : Know} {jj : Nat → Nat} {w w' : World}

theorem Good.wroteH (g : Good K jj B H w) {b : Nat} {o' : LO} (hb : (H b).isSome = true) (ho : ownObj K w' b o') (hw : Wrote w b w') : Good K jj B (setH H b o') w' ∧ Fr (dom H B jj) w K (dom (setH H b o') B jj) w' K := by
  have hd : ∀ x, dom (setH H b o') B jj x → dom H B jj x := fun x h => by
    rcases h with h | h
    · by_cases hx : x = b
      · subst hx; exact .inl hb
      · exact .inl (by simpa [hx] using h)
    · exact .inr h
  have hK : ∀ o, K b o = none := fun o => g.apart b o (.inl hb)
  refine ⟨⟨fun b' o v h => ?_, fun b' o h => ?_, fun b' o h => g.apart b' o (hd b' h), fun d ver cs h => ?_, fun d h => ?_, g.boxne⟩, ⟨hw.os, hw.tape, hw.output, by rw [hw.size]; exact Nat.le_refl _, fun b' hlt hnd => hw.other b' (fun x => hnd (by subst x; exact .inl hb)), K.le_refl, fun _ _ h h' => absurd h h', fun b' h => .inl (hd b' h)⟩⟩
  · have hne : b' ≠ b := fun x => by subst x; rw [hK] at h; simp at h
    rw [World.cell?_of_block (w := w) (hw.other b' hne)]; exact g.know b' o v h
  · by_cases hx : b' = b
    · subst hx; simp at h; subst h; exact ho
    · simp [hx] at h; exact (g.own b' o h).same (hw.other b' hx)
  · have hne : jj d ≠ b := fun x => by
      have := g.boxH d (by rw [h]; rfl)
      rw [x] at this; rw [this] at hb; simp at hb
    exact (g.box d ver cs h).same (hw.other _ hne)
  · have := g.boxH d h
    have hne : jj d ≠ b := fun x => by rw [x] at this; rw [this] at hb; simp at hb
    simp [hne, this]

theorem Good.wroteB (g : Good K jj B H w) {d : Nat} {cs : List LV} (hd : (B d).2.isSome = true) (ho : ownObj K w' (jj d) (.cells cs cs.length)) (hw : Wrote w (jj d) w') : Good K jj (setB B d cs) H w' ∧ Fr (dom H B jj) w K (dom H (setB B d cs) jj) w' K := by
  have hB : ∀ x, (setB B d cs x).2.isSome = true → (B x).2.isSome = true := fun x h => by
    by_cases hx : x = d
    · subst hx; exact hd
    · simpa [hx] using h
  have hd' : ∀ x, dom H (setB B d cs) jj x → dom H B jj x := fun x h => by
    rcases h with h | ⟨d', h, h'⟩
    · exact .inl h
    · exact .inr ⟨d', hB d' h, h'⟩
  have hK : ∀ o, K (jj d) o = none := fun o => g.apart (jj d) o (.inr ⟨d, hd, rfl⟩)
  refine ⟨⟨fun b' o v h => ?_, fun b' o h => ?_, fun b' o h => g.apart b' o (hd' b' h), fun d' ver cs' h => ?_, fun d' h => g.boxH d' (hB d' h), fun d1 d2 h1 h2 => g.boxne d1 d2 (hB d1 h1) (hB d2 h2)⟩, ⟨hw.os, hw.tape, hw.output, by rw [hw.size]; exact Nat.le_refl _, fun b' hlt hnd => hw.other b' (fun x => hnd (by subst x; exact .inr ⟨d, hd, rfl⟩)), K.le_refl, fun _ _ h h' => absurd h h', fun b' h => .inl (hd' b' h)⟩⟩
  · have hne : b' ≠ jj d := fun x => by subst x; rw [hK] at h; simp at h
    rw [World.cell?_of_block (w := w) (hw.other b' hne)]; exact g.know b' o v h
  · have hne : b' ≠ jj d := fun x => by have := g.boxH d hd; rw [← x, h] at this; simp at this
    exact (g.own b' o h).same (hw.other b' hne)
  · by_cases hx : d' = d
    · subst hx; simp at h; obtain ⟨_, rfl⟩ := h; exact ho
    · simp [hx] at h
      have hne : jj d' ≠ jj d := fun x => hx (g.boxne d' d (by rw [h]; rfl) hd x)
      exact (g.box d' ver cs' h).same (hw.other _ hne)

theorem RE.setB {x : LV} {v : Value} {d : Nat} {cs : List LV} (hd : (B d).2.isSome = true) (h : RE K jj B x v) : RE K jj (Lv.setB B d cs) x v := by
  cases x <;> try exact h
  rename_i d' ver off
  obtain ⟨h1, h2⟩ := h
  by_cases hx : d' = d
  · subst hx; exact ⟨by simpa using h1, fun hv _ => h2 (by simpa using hv) hd⟩
  · exact ⟨by simpa [hx] using h1, fun hv hs => h2 (by simpa [hx] using hv) (by simpa [hx] using hs)⟩
theorem TE.setB {tmps : Array Value} {d : Nat} {cs : List LV} (hd : (B d).2.isSome = true) (t : TE K jj B N e tmps) : TE K jj (Lv.setB B d cs) N e tmps := ⟨t.size, fun i => (t.get i).setB hd⟩

/-! ### New blocks -/

theorem ownObj.alloc {arr : Array Value} {T : TypeId} {cs : List LV} (hr : Rs K cs (arr.toList.take cs.length)) (hle : cs.length ≤ arr.size) (h1 : ∀ v ∈ arr.toList, v.oneCell' = true) : ownObj K (w.alloc (.cells arr T)) w.heap.size (.cells cs arr.size) := by
  refine ⟨arr, T, (0, 0), heap_alloc_new w _, rfl, hle, fun i x hx => ?_, fun o => by unfold World.frozen?; rw [heap_alloc_new]; simp⟩
  obtain ⟨v, h2, h3⟩ := hr.get hx
  rw [List.getElem?_take] at h2
  split at h2
  · exact ⟨v, by simpa using h2, h1 v (List.mem_of_getElem? h2), h3⟩
  · simp at h2

/-- A new block, owned by name. -/
theorem Good.newH (g : Good K jj B H w) {ob : Obj} {o' : LO} (ho : ownObj K (w.alloc ob) w.heap.size o') : H w.heap.size = none ∧ Good K jj B (setH H w.heap.size o') (w.alloc ob) ∧ Fr (dom H B jj) w K (dom (setH H w.heap.size o') B jj) (w.alloc ob) K := by
  have ga := g.alloc ob
  have hn : ∀ b, dom H B jj b → b ≠ w.heap.size := fun b h => Nat.ne_of_lt (g.lt h)
  have hd : ∀ b, dom (setH H w.heap.size o') B jj b → dom H B jj b ∨ b = w.heap.size := fun b h => by
    rcases h with h | h
    · by_cases hb : b = w.heap.size
      · exact .inr hb
      · exact .inl (.inl (by simpa [hb] using h))
    · exact .inl (.inr h)
  refine ⟨?_, ⟨ga.know, fun b o h => ?_, fun b o h => ?_, ga.box, fun d h => ?_, ga.boxne⟩, ⟨rfl, rfl, rfl, by simp, fun b hb _ => heap_alloc_lt w ob hb, K.le_refl, fun _ _ h h' => absurd h h', fun b h => (hd b h).imp id (fun x => by omega)⟩⟩
  · cases h : H w.heap.size with
    | none => rfl
    | some o => exact absurd rfl (hn _ (.inl (by rw [h]; rfl)))
  · by_cases hb : b = w.heap.size
    · subst hb; simp at h; subst h; exact ho
    · simp [hb] at h; exact ga.own b o h
  · rcases hd b h with h | rfl
    · exact g.apart b o h
    · cases hk : K w.heap.size o with
      | none => rfl
      | some v => have := g.klt hk; omega
  · have := hn (jj d) (.inr ⟨d, h, rfl⟩)
    simp [this, g.boxH d h]

/-- A new box of the slot's own. -/
theorem Good.newB (g : Good K jj B H w) {arr : Array Value} {T : TypeId} {cs : List LV} (d : Nat) (hr : Rs K cs arr.toList) (h1 : ∀ v ∈ arr.toList, v.oneCell' = true) :
    Good K (fun i => if i = d then w.heap.size else jj i) (Lv.newB B d cs) H (w.alloc (.cells arr T)) ∧
    Fr (dom H B jj) w K (dom H (Lv.newB B d cs) (fun i => if i = d then w.heap.size else jj i)) (w.alloc (.cells arr T)) K := by
  have ga := g.alloc (.cells arr T)
  have hn : ∀ b, dom H B jj b → b ≠ w.heap.size := fun b h => Nat.ne_of_lt (g.lt h)
  have hsz : arr.size = cs.length := by rw [← Array.length_toList, hr.1]
  have ho : ownObj K (w.alloc (.cells arr T)) w.heap.size (.cells cs cs.length) := by
    have := ownObj.alloc (w := w) (T := T) (arr := arr) (cs := cs) (K := K) (by rw [List.take_of_length_le (by rw [Array.length_toList]; omega)]; exact hr) (by omega) h1
    rwa [hsz] at this
  have hd : ∀ b, dom H (Lv.newB B d cs) (fun i => if i = d then w.heap.size else jj i) b → dom H B jj b ∨ b = w.heap.size := fun b h => by
    rcases h with h | ⟨d', h, h'⟩
    · exact .inl (.inl h)
    · by_cases hx : d' = d
      · simp [hx] at h'; exact .inr h'.symm
      · simp [hx] at h h'; exact .inl (.inr ⟨d', h, h'⟩)
  refine ⟨⟨ga.know, ga.own, fun b o h => ?_, fun d' ver cs' h => ?_, fun d' h => ?_, fun d1 d2 h1 h2 h3 => ?_⟩, ⟨rfl, rfl, rfl, by simp, fun b hb _ => heap_alloc_lt w _ hb, K.le_refl, fun _ _ h h' => absurd h h', fun b h => (hd b h).imp id (fun x => by omega)⟩⟩
  · rcases hd b h with h | rfl
    · exact g.apart b o h
    · cases hk : K w.heap.size o with
      | none => rfl
      | some v => have := g.klt hk; omega
  · by_cases hx : d' = d
    · subst hx; simp at h; obtain ⟨_, rfl⟩ := h; simpa using ho
    · simp [hx] at h ⊢; exact ga.box d' ver cs' h
  · by_cases hx : d' = d
    · simp only [hx, if_true]
      cases h : H w.heap.size with
      | none => rfl
      | some o => exact absurd rfl (hn _ (.inl (by rw [h]; rfl)))
    · simp [hx] at h ⊢; exact g.boxH d' h
  · by_cases e1 : d1 = d <;> by_cases e2 : d2 = d
    · rw [e1, e2]
    · simp [e1, e2] at h2 h3; exact absurd h3.symm (hn _ (.inr ⟨d2, h2, rfl⟩))
    · simp [e1, e2] at h1 h3; exact absurd h3 (hn _ (.inr ⟨d1, h1, rfl⟩))
    · simp [e1, e2] at h1 h2 h3; exact g.boxne d1 d2 h1 h2 h3

theorem RE.newB {x : LV} {v : Value} {d : Nat} {cs : List LV} (h : RE K jj B x v) (n : Nat) : RE K (fun i => if i = d then n else jj i) (Lv.newB B d cs) x v := by
  cases x <;> try exact h
  rename_i d' ver off
  obtain ⟨h1, h2⟩ := h
  by_cases hx : d' = d
  · subst hx; exact ⟨by simp; omega, fun hv _ => by simp at hv; omega⟩
  · exact ⟨by simpa [hx] using h1, fun hv hs => by simp [hx] at hv hs ⊢; exact h2 hv hs⟩
theorem TE.newB {tmps : Array Value} {d : Nat} {cs : List LV} (t : TE K jj B N e tmps) (n : Nat) : TE K (fun i => if i = d then n else jj i) (Lv.newB B d cs) N e tmps := ⟨t.size, fun i => (t.get i).newB n⟩

/-! ### The operations -/

/-- What cells a value has. -/
def lcells : LV → Option (List LV)
  | .agg cs => if cs.all LV.one = true then some cs else none
  | x => if x.one = true then some [x] else none

theorem lcells_ok {x : LV} {v : Value} {cs : List LV} (hr : RE K jj B x v) (h : lcells x = some cs) : Rs K cs v.cells.toList ∧ ∀ u ∈ v.cells.toList, u.oneCell' = true := by
  have one : x.one = true → cs = [x] → Rs K cs v.cells.toList ∧ ∀ u ∈ v.cells.toList, u.oneCell' = true := fun ho hc => by
    have r := hr.r (LV.one_bp ho)
    have h1 := r.oneCell ho
    have hv : v.cells.toList = [v] := by cases v <;> first | rfl | (simp [Value.oneCell'] at h1)
    rw [hv, hc]
    exact ⟨(Rs.nil K).cons r, fun u hu => by simp at hu; subst hu; exact h1⟩
  cases x <;> simp only [lcells] at h <;> try (split at h <;> simp at h <;> rename_i ho <;> exact one ho h.symm)
  rename_i cs'
  split at h
  · rename_i hall
    simp at h; subst h
    have r : R K (.agg cs') v := hr
    cases r with
    | agg _ vs hl hh =>
      refine ⟨⟨by simpa [Value.cells] using hl, fun i x v hx hv => hh i x v hx (by simpa [Value.cells] using hv)⟩, fun u hu => ?_⟩
      simp only [Value.cells] at hu
      obtain ⟨i, hi, rfl⟩ := List.getElem_of_mem hu
      have hi' : i < cs'.length := by simpa [hl] using hi
      have hx : cs'[i]? = some cs'[i] := List.getElem?_eq_getElem hi'
      have hv : vs[i]? = some vs[i] := List.getElem?_eq_getElem (by omega)
      have := (hh i _ _ hx hv).oneCell (List.all_eq_true.1 hall _ (List.getElem_mem hi'))
      simpa using this
  · simp at h

theorem step_alloc {T : Tab} (hT : TOK P T) {t : TypeId} {d : Nat} {ti : TI} (ho : o.op = .alloc t) (hd : o.dst = some d) (hti : T t = some ti) {Q : LV → Box → OHeap → Prop} (h : Q (.bp d ((B d).1 + 1) 0) (newB B d ti.zero) H) : Step P o e B H Q := by
  intro K jj w a N g te
  obtain ⟨z, hz, hzr, _, _, _, hone⟩ := (hT t ti hti).run_zero K
  have h1 : ∀ v ∈ z.cells.toList, v.oneCell' = true := fun v hv => by
    obtain ⟨i, hi, rfl⟩ := List.getElem_of_mem hv
    have hi' : i < ti.zero.length := by rw [← hzr.1]; exact hi
    have := hzr.2 i _ _ (List.getElem?_eq_getElem hi') (List.getElem?_eq_getElem hi)
    exact this.oneCell (hone _ (List.getElem_mem hi'))
  obtain ⟨g', f⟩ := g.newB (T := t) d hzr h1
  refine ⟨_, .pointer (some ⟨w.heap.size, 0, none⟩), w.alloc (.cells z.cells t), ?_, .inl rfl, _, _, _, K, _, g', ?_, te.newB _, f, h⟩
  · simp [execOp, ho, Instr.alloc, hz w, newVar, newRow]
  · exact ⟨by simp, fun _ _ => by simp⟩

theorem step_box {t : TypeId} {x : Operand} {d : Nat} {cs : List LV} (ho : o.op = .box t x) (hd : o.dst = some d) (hx : lcells (ev e x) = some cs) {Q : LV → Box → OHeap → Prop} (h : Q (.bp d ((B d).1 + 1) 0) (newB B d cs) H) : Step P o e B H Q := by
  intro K jj w a N g te
  obtain ⟨hr, h1⟩ := lcells_ok (te.ev x) hx
  obtain ⟨g', f⟩ := g.newB (T := t) d hr h1
  refine ⟨_, .pointer (some ⟨w.heap.size, 0, none⟩), w.alloc (.cells (a.eval x).cells t), ?_, .inl rfl, _, _, _, K, _, g', ?_, te.newB _, f, h⟩
  · simp [execOp, ho, Instr.box, newVar, newRow]
  · exact ⟨by simp, fun _ _ => by simp⟩

theorem run_storeAt {T : Tab} (hT : TOK P T) {t : TypeId} {ti : TI} (hti : T t = some ti) {b off : Nat} {v : Value} (hsz : v.cells.size = ti.size) (hs : (storeCells ⟨b, off, none⟩ v.cells.toList).run P w = .ok () w') :
    (Instr.storeAt t (.pointer (some ⟨b, off, none⟩)) v).run P w = .ok () w' := by
  simp only [Instr.storeAt, Instr.sureAddr, asAddr, pure_bind, storeVar, Sem.run_bind, (hT t ti hti).run_size w, Result.andThen_ok, hsz]
  simp [hs]

theorem step_store_box {T : Tab} (hT : TOK P T) {t : TypeId} {p x : Operand} {d ver off : Nat} {cs ns : List LV} {ti : TI} (ho : o.op = .store t p x) (hp : ev e p = .bp d ver off) (hB : B d = (ver, some cs)) (hti : T t = some ti)
    (hx : lcells (ev e x) = some ns) (hsz : ns.length = ti.size) (hle : off + ns.length ≤ cs.length) {Q : LV → Box → OHeap → Prop} (h : Q .any (setB B d (seg cs off ns)) H) : Step P o e B H Q := by
  intro K jj w a N g te
  obtain ⟨hr, h1⟩ := lcells_ok (te.ev x) hx
  have hp' := te.ev p
  rw [hp] at hp'
  have hsome : (B d).2.isSome = true := by rw [hB]; rfl
  have hv := hp'.2 (by rw [hB]) hsome
  obtain ⟨h2, h3, h4⟩ := own_store (P := P) (g.box d ver cs hB) hr h1 (by omega : off ≤ cs.length) hle
  have hl : (seg cs off ns).length = cs.length := seg_length hle
  rw [← hl] at h3
  obtain ⟨g', f⟩ := g.wroteB hsome h3 h4
  refine ⟨.skip, undef, _, ?_, .inr ⟨rfl, rfl⟩, .any, _, _, K, jj, g', (R.any _).re, te.setB hsome, f, h⟩
  have := run_storeAt hT hti (by rw [← Array.length_toList, hr.1, hsz]) h2
  simp only [execOp, ho, hv, Sem.run_bind, this, Result.andThen_ok, Sem.run_pure]

theorem step_store_ptr {T : Tab} (hT : TOK P T) {t : TypeId} {p x : Operand} {b off n : Nat} {cs ns : List LV} {ti : TI} (ho : o.op = .store t p x) (hp : ev e p = .ptr b off) (hH : H b = some (.cells cs n)) (hti : T t = some ti)
    (hx : lcells (ev e x) = some ns) (hsz : ns.length = ti.size) (hk : off ≤ cs.length) (hle : off + ns.length ≤ n) {Q : LV → Box → OHeap → Prop} (h : Q .any B (setH H b (.cells (seg cs off ns) n))) : Step P o e B H Q := by
  intro K jj w a N g te
  obtain ⟨hr, h1⟩ := lcells_ok (te.ev x) hx
  have hp' := te.ev p
  rw [hp] at hp'
  have hv : a.eval p = .pointer (some ⟨b, off, none⟩) := by
    have r : R K (.ptr b off) (a.eval p) := hp'
    generalize a.eval p = u at r; cases r; rfl
  obtain ⟨h2, h3, h4⟩ := own_store (P := P) (g.own b _ hH) hr h1 hk hle
  obtain ⟨g', f⟩ := g.wroteH (by rw [hH]; rfl) h3 h4
  refine ⟨.skip, undef, _, ?_, .inr ⟨rfl, rfl⟩, .any, _, _, K, jj, g', (R.any _).re, te, f, h⟩
  have := run_storeAt hT hti (by rw [← Array.length_toList, hr.1, hsz]) h2
  simp only [execOp, ho, hv, Sem.run_bind, this, Result.andThen_ok, Sem.run_pure]

end
end Go.Lv
