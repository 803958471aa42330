/- Lv, part C: the table of types, loads, and the operations that yield a value and change nothing that is owned. Over any program; no condition. -/
import Derived.Test.YtoimfngeoiljeaaLvB
namespace Go.Lv
open Go
set_option linter.unusedVariables false
set_option linter.unusedSimpArgs false

/-! ### The table of types -/
inductive TK where
  | bool
  | int (k : IntKind)
  | str
  | ptr (e : TypeId)
  | slice (e : TypeId)
  | arr (n : Nat) (e : TypeId)
  | map (k e : TypeId)
  | struct (fs : List (TypeId × Nat))
  | func
  | iface
  | other
  deriving DecidableEq

def TK.ofDesc : TypeDesc → TK
  | .bool => .bool
  | .int k => .int k
  | .string => .str
  | .pointer e => .ptr e
  | .slice e => .slice e
  | .array n e => .arr n e
  | .map k e => .map k e
  | .struct fs => .struct (fs.toList.map fun f => (f.type, f.offset))
  | .func .. => .func
  | .interface _ => .iface
  | _ => .other

def TK.agg : TK → Bool
  | .arr .. | .struct _ => true
  | _ => false

structure TI where
  kind : TK
  size : Nat
  bytes : Nat
  zero : List LV

abbrev Tab := TypeId → Option TI

/-- Two values of one cell that are known. -/
def LV.beq1 : LV → LV → Bool
  | .bool a, .bool b => a == b
  | .int k a, .int l b => k == l && a == b
  | .str s, .str t => s.data == t.data
  | .nilp, .nilp | .nilsl, .nilsl | .nilm, .nilm | .nilf, .nilf | .nilif, .nilif => true
  | _, _ => false

theorem LV.beq1_eq {x y : LV} (h : x.beq1 y = true) : x = y := by
  cases x <;> cases y <;> simp [LV.beq1] at h ⊢ <;> first | exact h | (rename_i s t; cases s; cases t; simpa using h)

def LV.beqs : List LV → List LV → Bool
  | [], [] => true
  | x :: xs, y :: ys => x.beq1 y && LV.beqs xs ys
  | _, _ => false
theorem LV.beqs_eq : ∀ {xs ys : List LV}, LV.beqs xs ys = true → xs = ys
  | [], [], _ => rfl
  | x :: xs, y :: ys, h => by simp [LV.beqs] at h; rw [LV.beq1_eq h.1, LV.beqs_eq h.2]
  | [], _ :: _, h => by simp [LV.beqs] at h
  | _ :: _, [], h => by simp [LV.beqs] at h

def tiOk (P : Program) (t : TypeId) (ti : TI) : Bool :=
  match P.info? t, P.underlying t with
  | some i, some d => decide (TK.ofDesc d = ti.kind) && i.size == ti.size && i.bytes == ti.bytes && ti.zero.length == ti.size && ti.zero.all LV.one &&
      (match i.zero with | some z => LV.beqs (z.cells.toList.map ofV1) ti.zero && (match z with | .agg _ => ti.kind.agg | _ => !ti.kind.agg) | none => false)
  | _, _ => false

structure TIok (P : Program) (t : TypeId) (ti : TI) : Prop where
  und : ∃ d, P.underlying t = some d ∧ TK.ofDesc d = ti.kind
  info : ∃ i z, P.info? t = some i ∧ i.size = ti.size ∧ i.bytes = ti.bytes ∧ i.zero = some z ∧ z.cells.toList.map ofV1 = ti.zero ∧ ((∃ cs, z = .agg cs) ↔ ti.kind.agg = true)
  len : ti.zero.length = ti.size
  one : ∀ x ∈ ti.zero, x.one = true

theorem TIok.of {P : Program} {t : TypeId} {ti : TI} (h : tiOk P t ti = true) : TIok P t ti := by
  unfold tiOk at h
  split at h
  · rename_i i d hi hd
    simp only [Bool.and_eq_true, decide_eq_true_eq, beq_iff_eq] at h
    obtain ⟨⟨⟨⟨⟨h1, h2⟩, h3⟩, h4⟩, h4'⟩, h5⟩ := h
    split at h5
    · rename_i z hz
      simp only [Bool.and_eq_true] at h5
      refine ⟨⟨d, hd, h1⟩, ⟨i, z, hi, h2, h3, hz, LV.beqs_eq h5.1, ?_⟩, h4, List.all_eq_true.1 h4'⟩
      have h6 := h5.2
      split at h6
      · exact ⟨fun _ => h6, fun _ => ⟨_, rfl⟩⟩
      · rename_i hne
        refine ⟨fun ⟨cs, hc⟩ => absurd hc (hne cs), fun ha => by simp [ha] at h6⟩
    · simp at h5
  · simp at h

def TK.flat : TK → Bool | .bool | .int _ | .str => true | _ => false
/-- All its fields are whole numbers, truth values, strings. -/
def flatT (T : Tab) (fs : List (TypeId × Nat)) : Bool := fs.all fun f => match T f.1 with | some fi => fi.kind.flat | none => false
/-- What the model asks ahead of == at a struct. -/
def eqChk (P : Program) (t : TypeId) : Bool := !P.stoodInHeld t && !P.eqGuardType P.depth t && (match P.underlying t with | some (.struct fields) => fields.toList.all fun f => f.name != "_" | _ => false)
structure TOK (P : Program) (T : Tab) : Prop where
  ok : ∀ t ti, T t = some ti → TIok P t ti
  eqs : ∀ t ti fs, T t = some ti → ti.kind = .struct fs → flatT T fs = true → eqChk P t = true
instance {P : Program} {T : Tab} : CoeFun (TOK P T) fun _ => ∀ t ti, T t = some ti → TIok P t ti := ⟨TOK.ok⟩

/-- A table given by a list is held against the program by one computation. -/
def Tab.ofList (l : List (TypeId × TI)) : Tab := fun t => (l.find? fun x => x.1 == t).map (·.2)
theorem TOK.ofList {P : Program} {l : List (TypeId × TI)} (hh : (l.all fun x => tiOk P x.1 x.2 && (match x.2.kind with | .struct fs => !flatT (Tab.ofList l) fs || eqChk P x.1 | _ => true)) = true) : TOK P (Tab.ofList l) := by
  have h : (l.all fun x => tiOk P x.1 x.2) = true := by
    rw [List.all_eq_true] at hh ⊢
    intro x hx
    have := hh x hx
    simp only [Bool.and_eq_true] at this
    exact this.1
  refine ⟨?_, ?_⟩
  case refine_2 =>
    intro t ti fs ht hk hf
    simp only [Tab.ofList, Option.map_eq_some_iff] at ht
    obtain ⟨x, hx, rfl⟩ := ht
    have h1 := List.find?_some hx
    have h2 := List.mem_of_find?_eq_some hx
    simp only [beq_iff_eq] at h1
    rw [List.all_eq_true] at hh
    have := hh x h2
    simp only [Bool.and_eq_true, hk, hf, Bool.not_true, Bool.false_or] at this
    rw [← h1]; exact this.2
  intro t ti ht
  simp only [Tab.ofList, Option.map_eq_some_iff] at ht
  obtain ⟨x, hx, rfl⟩ := ht
  have h1 := List.find?_some hx
  have h2 := List.mem_of_find?_eq_some hx
  simp only [beq_iff_eq] at h1
  rw [← h1]
  exact TIok.of (List.all_eq_true.1 h x h2)

section
variable {P : Program} {t : TypeId} {ti : TI}

theorem TIok.run_und (h : TIok P t ti) : ∃ d, TK.ofDesc d = ti.kind ∧ ∀ w, (underlying t).run P w = .ok d w := by
  obtain ⟨d, hd, hk⟩ := h.und
  exact ⟨d, hk, fun w => run_underlying hd w⟩

theorem ofDesc_slice {d : TypeDesc} {e : TypeId} (h : TK.ofDesc d = .slice e) : d = .slice e := by cases d <;> simp [TK.ofDesc] at h <;> simp [h]
theorem ofDesc_arr {d : TypeDesc} {n : Nat} {e : TypeId} (h : TK.ofDesc d = .arr n e) : d = .array n e := by cases d <;> simp [TK.ofDesc] at h <;> simp [h]
theorem ofDesc_map {d : TypeDesc} {k e : TypeId} (h : TK.ofDesc d = .map k e) : d = .map k e := by cases d <;> simp [TK.ofDesc] at h <;> simp [h]
theorem ofDesc_int {d : TypeDesc} {k : IntKind} (h : TK.ofDesc d = .int k) : d = .int k := by cases d <;> simp [TK.ofDesc] at h <;> simp [h]
theorem ofDesc_str {d : TypeDesc} (h : TK.ofDesc d = .str) : d = .string := by cases d <;> simp [TK.ofDesc] at h <;> rfl
theorem ofDesc_bool {d : TypeDesc} (h : TK.ofDesc d = .bool) : d = .bool := by cases d <;> simp [TK.ofDesc] at h <;> rfl
theorem ofDesc_ptr {d : TypeDesc} {e : TypeId} (h : TK.ofDesc d = .ptr e) : d = .pointer e := by cases d <;> simp [TK.ofDesc] at h <;> simp [h]
theorem ofDesc_func {d : TypeDesc} (h : TK.ofDesc d = .func) : ∃ a b c, d = .func a b c := by cases d <;> simp [TK.ofDesc] at h; exact ⟨_, _, _, rfl⟩
theorem ofDesc_iface {d : TypeDesc} (h : TK.ofDesc d = .iface) : ∃ m, d = .interface m := by cases d <;> simp [TK.ofDesc] at h; exact ⟨_, rfl⟩
theorem ofDesc_struct {d : TypeDesc} {fs : List (TypeId × Nat)} (h : TK.ofDesc d = .struct fs) : ∃ fields : Array Field, d = .struct fields ∧ fields.toList.map (fun f => (f.type, f.offset)) = fs := by
  cases d <;> simp [TK.ofDesc] at h; exact ⟨_, rfl, h⟩

theorem TIok.run_slice {e : TypeId} (h : TIok P t ti) (hk : ti.kind = .slice e) (w : World) : (underlying t).run P w = .ok (.slice e) w := by
  obtain ⟨d, h1, h2⟩ := h.run_und; rw [hk] at h1; rw [ofDesc_slice h1] at h2; exact h2 w
theorem TIok.run_arr {n : Nat} {e : TypeId} (h : TIok P t ti) (hk : ti.kind = .arr n e) (w : World) : (underlying t).run P w = .ok (.array n e) w := by
  obtain ⟨d, h1, h2⟩ := h.run_und; rw [hk] at h1; rw [ofDesc_arr h1] at h2; exact h2 w
theorem TIok.run_map {k e : TypeId} (h : TIok P t ti) (hk : ti.kind = .map k e) (w : World) : (underlying t).run P w = .ok (.map k e) w := by
  obtain ⟨d, h1, h2⟩ := h.run_und; rw [hk] at h1; rw [ofDesc_map h1] at h2; exact h2 w
theorem TIok.run_int {k : IntKind} (h : TIok P t ti) (hk : ti.kind = .int k) (w : World) : (underlying t).run P w = .ok (.int k) w := by
  obtain ⟨d, h1, h2⟩ := h.run_und; rw [hk] at h1; rw [ofDesc_int h1] at h2; exact h2 w
theorem TIok.run_str (h : TIok P t ti) (hk : ti.kind = .str) (w : World) : (underlying t).run P w = .ok .string w := by
  obtain ⟨d, h1, h2⟩ := h.run_und; rw [hk] at h1; rw [ofDesc_str h1] at h2; exact h2 w
theorem TIok.run_bool (h : TIok P t ti) (hk : ti.kind = .bool) (w : World) : (underlying t).run P w = .ok .bool w := by
  obtain ⟨d, h1, h2⟩ := h.run_und; rw [hk] at h1; rw [ofDesc_bool h1] at h2; exact h2 w
theorem TIok.run_ptr {e : TypeId} (h : TIok P t ti) (hk : ti.kind = .ptr e) (w : World) : (underlying t).run P w = .ok (.pointer e) w := by
  obtain ⟨d, h1, h2⟩ := h.run_und; rw [hk] at h1; rw [ofDesc_ptr h1] at h2; exact h2 w
theorem TIok.run_struct {fs : List (TypeId × Nat)} (h : TIok P t ti) (hk : ti.kind = .struct fs) : ∃ fields : Array Field, fields.toList.map (fun f => (f.type, f.offset)) = fs ∧ ∀ w, (underlying t).run P w = .ok (.struct fields) w := by
  obtain ⟨d, h1, h2⟩ := h.run_und; rw [hk] at h1
  obtain ⟨fields, rfl, hf⟩ := ofDesc_struct h1
  exact ⟨fields, hf, h2⟩

theorem TIok.run_size (h : TIok P t ti) (w : World) : (sizeOf t).run P w = .ok ti.size w := by
  obtain ⟨i, z, hi, hs, _⟩ := h.info
  simp [sizeOf, typeInfo, hi, hs]

theorem TIok.run_agg (h : TIok P t ti) (w : World) : (isAgg t).run P w = .ok ti.kind.agg w := by
  obtain ⟨d, h1, h2⟩ := h.run_und
  simp only [isAgg, Sem.run_bind, h2 w, Result.andThen_ok]
  rw [← h1]
  cases d <;> simp [TK.ofDesc, TK.agg]

theorem TIok.run_zero (h : TIok P t ti) (K : Know) : ∃ z, (∀ w, (zeroValue t).run P w = .ok z w) ∧ Rs K ti.zero z.cells.toList ∧ z.cells.size = ti.size ∧
    (ti.kind.agg = true → z = .agg z.cells) ∧ (ti.kind.agg = false → ∃ x, ti.zero = [x] ∧ R K x z ∧ x.one = true) ∧ (∀ x ∈ ti.zero, x.one = true) := by
  obtain ⟨i, z, hi, hs, _, hz, hm, ha⟩ := h.info
  have hone := h.one
  refine ⟨z, fun w => by simp [zeroValue, typeInfo, hi, hz], ?_, ?_, ?_, ?_, hone⟩
  · rw [← hm]
    refine ⟨by simp, fun j x v hx hv => ?_⟩
    rw [List.getElem?_map, hv] at hx
    simp at hx; subst hx; exact R.ofV1 K v
  · rw [← Array.length_toList, ← h.len, ← hm]; simp
  · intro h1; obtain ⟨cs, rfl⟩ := ha.2 h1; rfl
  · intro h1
    have hn : ∀ cs, z ≠ .agg cs := fun cs hc => by have := ha.1 ⟨cs, hc⟩; simp [h1] at this
    have hc : z.cells = #[z] := by cases z <;> first | rfl | exact absurd rfl (hn _)
    refine ⟨ofV1 z, by rw [← hm, hc]; simp, R.ofV1 K z, hone _ (by rw [← hm, hc]; simp)⟩
end

/-! ### Loads -/
section
variable {P : Program} {K : Know} {jj : Nat → Nat} {B : Box} {H : OHeap} {w : World}

/-- The cells from a pointer on, as far as they are known. -/
def cellsAt (B : Box) (H : OHeap) : LV → Option (List LV)
  | .bp d ver off => if (B d).1 = ver then (B d).2.map (·.drop off) else none
  | .ptr b off => match H b with
    | some (.cells cs _) => some (cs.drop off)
    | _ => none
  | .iptr cs => some cs
  | _ => none

theorem cellsAt_ok (g : Good K jj B H w) {p : LV} {v : Value} {cs : List LV} (hp : RE K jj B p v) (hc : cellsAt B H p = some cs) :
    ∃ b o, v = .pointer (some ⟨b, o, none⟩) ∧ ∀ (j : Nat) y, cs[j]? = some y → ∃ u, w.cell? ⟨b, o + j, none⟩ = some u ∧ R K y u := by
  unfold cellsAt at hc
  split at hc
  · rename_i d ver off
    split at hc
    · rename_i hv
      obtain ⟨l, hl, rfl⟩ := Option.map_eq_some_iff.1 hc
      have hb := g.box d (B d).1 l (by rw [← hl])
      obtain ⟨arr, T, fz, h1, h2, h3, h4, h5⟩ := hb
      refine ⟨jj d, off, hp.2 hv.symm (by simp [hl]), fun j y hy => ?_⟩
      rw [List.getElem?_drop] at hy
      obtain ⟨u, a1, _, a3⟩ := h4 _ y hy
      exact ⟨u, by simp [World.cell?, h1, a1], a3⟩
    · simp at hc
  · rename_i b off
    split at hc
    · rename_i l n hl
      simp at hc; subst hc
      obtain ⟨arr, T, fz, h1, h2, h3, h4, h5⟩ := g.own b _ hl
      have hv : R K (.ptr b off) v := hp
      cases hv
      refine ⟨b, off, rfl, fun j y hy => ?_⟩
      rw [List.getElem?_drop] at hy
      obtain ⟨u, a1, _, a3⟩ := h4 _ y hy
      exact ⟨u, by simp [World.cell?, h1, a1], a3⟩
    · simp at hc
  · rename_i l
    simp at hc; subst hc
    have hv : R K (.iptr l) v := hp
    cases hv with
    | iptr _ b o us hK hR => exact ⟨b, o, rfl, fun j y hy => ⟨us j, g.know _ _ _ (hK j y hy), hR j y hy⟩⟩
  · simp at hc

theorem run_loadCellsFrom (b o : Nat) : ∀ (l : List Value) (i : Nat) (acc : Array Value), (∀ (j : Nat) v, l[j]? = some v → w.cell? ⟨b, o + (i + j), none⟩ = some v) →
    (loadCellsFrom ⟨b, o, none⟩ i l.length acc).run P w = .ok (acc ++ l.toArray) w
  | [], i, acc, _ => by simp [loadCellsFrom]
  | v :: l, i, acc, h => by
    have h0 := h 0 v rfl
    simp only [List.length_cons, loadCellsFrom, Addr.add_lit, Sem.run_bind, run_load]
    rw [show o + (i + 0) = o + i by omega] at h0
    simp only [h0, Result.andThen_ok]
    rw [run_loadCellsFrom b o l (i + 1) (acc.push v) (fun j u hu => by have := h (j + 1) u (by simpa using hu); rwa [show i + 1 + j = i + (j + 1) by omega])]
    congr 1
    apply Array.ext'
    simp

theorem run_loadCells (b o : Nat) (l : List Value) (h : ∀ (j : Nat) v, l[j]? = some v → w.cell? ⟨b, o + j, none⟩ = some v) :
    (loadCells ⟨b, o, none⟩ l.length).run P w = .ok l.toArray w := by
  unfold loadCells
  rw [run_loadCellsFrom b o l 0 #[] (fun j v hv => by rw [Nat.zero_add]; exact h j v hv)]
  simp

/-- Known cells have values. -/
theorem cells_vals {b o : Nat} {cs : List LV} (h : ∀ (j : Nat) y, cs[j]? = some y → ∃ u, w.cell? ⟨b, o + j, none⟩ = some u ∧ R K y u) :
    ∃ vs, Rs K cs vs ∧ ∀ (j : Nat) v, vs[j]? = some v → w.cell? ⟨b, o + j, none⟩ = some v := by
  induction cs generalizing o with
  | nil => exact ⟨[], Rs.nil K, fun j v h => by simp at h⟩
  | cons x cs ih =>
    obtain ⟨u, h1, h2⟩ := h 0 x rfl
    obtain ⟨vs, h3, h4⟩ := ih (o := o + 1) (fun j y hy => by have := h (j + 1) y (by simpa using hy); rwa [show o + (j + 1) = o + 1 + j by omega] at this)
    refine ⟨u :: vs, h3.cons h2, fun j v hv => ?_⟩
    cases j with
    | zero => simp at hv; subst hv; simpa using h1
    | succ j => have := h4 j v (by simpa using hv); rwa [show o + 1 + j = o + (j + 1) by omega] at this

/-- A variable of a type, out of the cells from its address on. -/
def pick (ti : TI) (cs : List LV) : Option LV :=
  if ti.kind.agg then (if ti.size ≤ cs.length then some (.agg (cs.take ti.size)) else none) else cs.head?

theorem run_loadVar {t : TypeId} {ti : TI} (ht : TIok P t ti) {b o : Nat} {cs : List LV} {x : LV} (h : ∀ (j : Nat) y, cs[j]? = some y → ∃ u, w.cell? ⟨b, o + j, none⟩ = some u ∧ R K y u)
    (hx : pick ti cs = some x) : ∃ v, (loadVar t ⟨b, o, none⟩).run P w = .ok v w ∧ R K x v := by
  unfold pick at hx
  split at hx
  · rename_i ha
    split at hx
    · rename_i hle
      simp at hx; subst hx
      obtain ⟨vs, h1, h2⟩ := cells_vals h
      have hl : (vs.take ti.size).length = ti.size := by rw [List.length_take, h1.1]; omega
      refine ⟨.agg (vs.take ti.size).toArray, ?_, .agg _ _ (h1.take _).1 (h1.take _).2⟩
      simp only [loadVar, Sem.run_bind, ht.run_agg w, Result.andThen_ok, ha, if_true, ht.run_size w, Sem.run_pure]
      have := run_loadCells (P := P) (w := w) b o (vs.take ti.size) (fun j v hv => h2 j v (by rw [List.getElem?_take] at hv; split at hv <;> first | exact hv | simp at hv))
      rw [hl] at this
      simp [this]
    · simp at hx
  · rename_i ha
    cases cs with
    | nil => simp at hx
    | cons y cs =>
      simp at hx; subst hx
      obtain ⟨u, h1, h2⟩ := h 0 y rfl
      refine ⟨u, ?_, h2⟩
      have h1' : w.cell? ⟨b, o, none⟩ = some u := by simpa using h1
      have ha' : ti.kind.agg = false := by simpa using ha
      simp [loadVar, ht.run_agg w, ha', h1']
end
end Go.Lv
