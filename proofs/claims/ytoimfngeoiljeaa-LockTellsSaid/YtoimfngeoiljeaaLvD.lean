/- Lv, part D: the operations that yield a value and change nothing that is owned: what they yield (pf), and that it is so. Over any program; no condition. -/
import Derived.Test.YtoimfngeoiljeaaLvC
namespace Go.Lv
open Go
set_option linter.unusedVariables false
set_option linter.unusedSimpArgs false

/-- In any state that fits, the operation yields x. -/
def Yields (P : Program) (o : Oper) (e : Env) (B : Box) (H : OHeap) (x : LV) : Prop :=
  ∀ K jj w (a : Act) N, Good K jj B H w → TE K jj B N e a.tmps →
    ∃ v w' K', (execOp a.eval o).run P w = .ok (.value v) w' ∧ Good K' jj B H w' ∧ RE K' jj B x v ∧ Fr (dom H B jj) w K (dom H B jj) w' K'

section
variable {P : Program} {e : Env} {B : Box} {H : OHeap} {o : Oper} {x : LV}

theorem Yields.still (h : ∀ K jj w (a : Act) N, Good K jj B H w → TE K jj B N e a.tmps → ∃ v, (execOp a.eval o).run P w = .ok (.value v) w ∧ RE K jj B x v) : Yields P o e B H x :=
  fun K jj w a N g t => let ⟨v, h1, h2⟩ := h K jj w a N g t; ⟨v, w, K, h1, g, h2, Fr.refl _ _ _⟩

theorem run_value {s : Sem Value} {v : Value} {w w' : World} (h : s.run P w = .ok v w') : (do pure (Next.value (← s)) : Sem Next).run P w = .ok (.value v) w' := by
  simp [h]

theorem beqd {α : Type} [BEq α] [LawfulBEq α] [DecidableEq α] (a b : α) : (a == b) = decide (a = b) := by
  by_cases h : a = b <;> simp [h]

/-! #### Arithmetic -/
def binI (op : BinOp) (k : IntKind) (a b : Int) : Option LV :=
  match op with
  | .add => some (.int k (k.wrap (a + b)))
  | .sub => some (.int k (k.wrap (a - b)))
  | .mul => some (.int k (k.wrap (a * b)))
  | .quo => if b = 0 then none else some (.int k (k.wrap (a.tdiv b)))
  | .rem => if b = 0 then none else some (.int k (a.tmod b))
  | .and => some (.int k (bits .and k a b))
  | .or => some (.int k (bits .or k a b))
  | .xor => some (.int k (bits .xor k a b))
  | .andNot => some (.int k (bits .andNot k a b))
  | .eql => some (.bool (decide (a = b)))
  | .neq => some (.bool (!decide (a = b)))
  | .lss => some (.bool (decide (a < b)))
  | .leq => some (.bool (decide (a ≤ b)))
  | .gtr => some (.bool (decide (b < a)))
  | .geq => some (.bool (decide (b ≤ a)))
  | _ => none

def shiftI (op : BinOp) (k : IntKind) (a b : Int) : Option LV :=
  if b < 0 then none else
  match op with
  | .shl => some (.int k (k.wrap (a * 2 ^ (min b.toNat k.bits))))
  | .shr => some (.int k (a / 2 ^ (min b.toNat k.bits)))
  | _ => none

def BinOp.isShift : BinOp → Bool
  | .shl | .shr => true
  | _ => false

def eqB (op : BinOp) (b : Bool) : Option LV :=
  match op with
  | .eql => some (.bool b)
  | .neq => some (.bool (!b))
  | _ => none

def binS (op : BinOp) (s t : ByteArray) : Option LV :=
  match op with
  | .add => if s.size + t.size ≤ 9223372036854775807 then some (.str (s ++ t)) else none
  | .eql => some (.bool (decide (s.toList = t.toList)))
  | .neq => some (.bool (!decide (s.toList = t.toList)))
  | _ => none

/-- Is it surely not nil, or nil? -/
def nilB : LV → Option Bool
  | .nilp | .nilsl | .nilm | .nilf | .nilif => some true
  | .isl _ _ xs => if xs.isEmpty = true then none else some false
  | .ptr .. | .iptr _ | .sl .. | .mp _ | .fn .. | .yld _ | .ifc .. | .bp .. => some false
  | _ => none

def isNilC : LV → Bool
  | .nilp | .nilsl | .nilm | .nilf | .nilif => true
  | _ => false

/-- Which kinds may be held against nil, and what stands for it there. -/
def nilK : TK → LV → Bool
  | .ptr _, .nilp | .ptr _, .ptr .. | .ptr _, .iptr _ => true
  | .slice _, .nilsl | .slice _, .sl .. | .slice _, .isl .. => true
  | .map .., .nilm | .map .., .mp _ => true
  | .func, .nilf | .func, .fn .. | .func, .yld _ => true
  | _, _ => false

def eq1 : TK → LV → LV → Option Bool
  | .int _, .int k a, .int l b => if k = l then some (decide (a = b)) else none
  | .bool, .bool a, .bool b => some (a == b)
  | .str, .str s, .str u => some (decide (s = u))
  | _, _, _ => none
def eqF (T : Tab) : List (TypeId × Nat) → List LV → List LV → Option Bool
  | [], _, _ => some true
  | (t, off) :: fs, cs, ds => match T t, cs[off]?, ds[off]? with
    | some ti, some x, some y => (eq1 ti.kind x y).bind fun b => (eqF T fs cs ds).map (b && ·)
    | _, _, _ => none

def binL (T : Tab) (op : BinOp) (t : TypeId) (x y : LV) : Option LV :=
  match x, y with
  | .int k a, .int l b => if BinOp.isShift op then shiftI op k a b else if k = l then binI op k a b else none
  | .str s, .str u => binS op s u
  | .bool a, .bool b => match T t with
    | some ti => if ti.kind = .bool then eqB op (a == b) else none
    | none => none
  | .agg cs, .agg ds => match T t with
    | some ti => match ti.kind with
      | .struct fs => if flatT T fs = true then (eqF T fs cs ds).bind (eqB op) else none
      | _ => none
    | none => none
  | x, y => match T t with
    | some ti =>
      if nilK ti.kind x && nilK ti.kind y then
        (if isNilC y then (nilB x).bind (eqB op) else if isNilC x then (nilB y).bind (eqB op) else none)
      else none
    | none => none

theorem run_binI {op : BinOp} {k : IntKind} {a b : Int} {x : LV} (t : TypeId) (h : binI op k a b = some x) (hs : BinOp.isShift op = false) (K : Know) (w : World) :
    ∃ v, (binOp op t (.int k a) (.int k b)).run P w = .ok v w ∧ R K x v := by
  cases op <;> simp only [binI, reduceCtorEq, Option.some.injEq] at h <;> first
    | (subst h; exact ⟨_, by first | (rw [binOp_add]; rfl) | (rw [binOp_sub]; rfl) | (rw [binOp_mul]; rfl) | (rw [binOp_and]; rfl) | (rw [binOp_or]; rfl) | (rw [binOp_xor]; rfl) | (rw [binOp_andNot]; rfl), .int _ _⟩)
    | (subst h; exact ⟨_, by first | (rw [binOp_lss]; rfl) | (rw [binOp_leq]; rfl) | (rw [binOp_gtr]; rfl) | (rw [binOp_geq]; rfl), .bool _⟩)
    | (subst h; rw [binOp_eql]; exact ⟨_, rfl, by rw [show (a == b) = decide (a = b) from rfl]; exact .bool _⟩)
    | (subst h; rw [binOp_neq]; exact ⟨_, rfl, by rw [show (a != b) = !decide (a = b) from rfl]; exact .bool _⟩)
    | (split at h
       · simp at h
       · rename_i hb
         simp at h; subst h
         first
           | (rw [binOp_quo]; simp only [Op.intDiv, hb, if_false]; exact ⟨_, rfl, .int _ _⟩)
           | (rw [binOp_rem]; simp only [Op.intDiv, hb, if_false]; exact ⟨_, rfl, .int _ _⟩))
    | (simp [BinOp.isShift] at hs)

theorem run_shiftI {op : BinOp} {k l : IntKind} {a b : Int} {x : LV} (t : TypeId) (h : shiftI op k a b = some x) (K : Know) (w : World) :
    ∃ v, (binOp op t (.int k a) (.int l b)).run P w = .ok v w ∧ R K x v := by
  unfold shiftI at h
  split at h
  · simp at h
  · rename_i hb
    cases op <;> simp only [reduceCtorEq, Option.some.injEq] at h
    · subst h; rw [binOp_shl]; simp only [Op.shift, hb, if_false]; exact ⟨_, rfl, .int _ _⟩
    · subst h; rw [binOp_shr]; simp only [Op.shift, hb, if_false]
      refine ⟨_, rfl, ?_⟩
      rw [Int.fdiv_eq_ediv_of_nonneg _ (Int.pow_nonneg (by decide))]
      exact .int _ _

theorem run_binS {op : BinOp} {s u : ByteArray} {x : LV} (t : TypeId) (h : binS op s u = some x) (K : Know) (w : World) :
    ∃ v, (binOp op t (.string s) (.string u)).run P w = .ok v w ∧ R K x v := by
  cases op <;> simp only [binS, reduceCtorEq, Option.some.injEq] at h
  · split at h
    · rename_i hle
      simp at h; subst h
      refine ⟨.string (s ++ u), ?_, .str _⟩
      simp [binOp, Op.stringOp]
      omega
    · simp at h
  · subst h; exact ⟨.bool (decide (s.toList = u.toList)), by simp [binOp, Op.stringOp, beqd], .bool _⟩
  · subst h; exact ⟨.bool (!decide (s.toList = u.toList)), by simp [binOp, Op.stringOp, beqd], .bool _⟩

/-! #### == at a struct of flat fields -/
theorem run_eq1 {P : Program} {t : TypeId} {ti : TI} (ht : TIok P t ti) {K : Know} {x y : LV} {u v : Value} {b : Bool} (h : eq1 ti.kind x y = some b) (rx : R K x u) (ry : R K y v) (d : Nat) (w : World) : (Op.equalIn (d + 1) t u v).run P w = .ok b w := by
  unfold eq1 at h
  split at h
  · rename_i k0 k a l b' hk
    cases rx; cases ry
    split at h
    · rename_i hkl; subst hkl
      simp at h; subst h
      unfold Op.equalIn
      simp [ht.run_int hk w]
      rfl
    · simp at h
  · rename_i a b' hk
    cases rx; cases ry
    simp at h; subst h
    unfold Op.equalIn
    simp [ht.run_bool hk w]
  · rename_i s u' hk
    cases rx; cases ry
    simp at h; subst h
    unfold Op.equalIn
    simp only [Sem.run_bind, ht.run_str hk w, Result.andThen_ok, Sem.run_pure]
    congr 1
    rw [Bool.eq_iff_iff]
    obtain ⟨a⟩ := s
    obtain ⟨b⟩ := u'
    simp only [decide_eq_true_eq, ByteArray.mk.injEq]
    show (a == b) = true ↔ a = b
    simp
  · simp at h

theorem eq1_flat {k : TK} {x y : LV} {b : Bool} (h : eq1 k x y = some b) : k.agg = false := by
  cases k <;> first | rfl | simp [eq1] at h

theorem run_part1 {P : Program} {t : TypeId} {ti : TI} (ht : TIok P t ti) (ha : ti.kind.agg = false) {us : List Value} {off : Nat} {u : Value} (hu : us[off]? = some u) (w : World) : (part t us.toArray off).run P w = .ok u w := by
  simp [part, ht.run_agg w, ha, hu]

theorem run_eqF {P : Program} {T : Tab} (hT : TOK P T) {t : TypeId} {fields : Array Field} {K : Know} {cs ds : List LV} {us vs : List Value} (hu : P.underlying t = some (.struct fields)) (hs : P.stoodInHeld t = false) (hc : Rs K cs us) (hd : Rs K ds vs) (d : Nat) (w : World) (b : Bool)
    (h : eqF T (fields.toList.map fun f => (f.type, f.offset)) cs ds = some b) (hn : (fields.toList.all fun f => f.name != "_") = true) : (Op.equalIn (d + 2) t (.agg us.toArray) (.agg vs.toArray)).run P w = .ok b w := by
  unfold Op.equalIn
  simp only [Sem.run_bind, run_underlying hu, Result.andThen_ok, run_program, hs]
  simp only [Bool.false_eq_true, if_false]
  rw [← Array.forIn_toList]
  have key : ∀ (l : List Field) (b : Bool), eqF T (l.map fun f => (f.type, f.offset)) cs ds = some b → (l.all fun f => f.name != "_") = true →
      Sem.run P (forIn (m := Sem) l ((none : Option Bool), ()) fun f __s =>
              if f.name ≠ "_" then do
                let __do_lift ← part f.type us.toArray f.offset
                let __do_lift_1 ← part f.type vs.toArray f.offset
                let __do_lift ← Op.equalIn (d + 1) f.type __do_lift __do_lift_1
                if (!__do_lift) = true then pure (ForInStep.done (some false, ()))
                  else pure (ForInStep.yield (none, ()))
              else pure (ForInStep.yield (none, ()))) w = .ok (if b = true then (none, ()) else (some false, ())) w := by
    intro l
    induction l with
    | nil => intro b h _; simp [eqF] at h; subst h; simp
    | cons f l ih =>
      intro b h hn
      simp only [List.all_cons, Bool.and_eq_true, bne_iff_ne, ne_eq] at hn
      simp only [List.map_cons, eqF] at h
      split at h
      · rename_i ti x y hti hx hy
        obtain ⟨b1, h1, h⟩ := Option.bind_eq_some_iff.1 h
        obtain ⟨b2, h2, rfl⟩ := Option.map_eq_some_iff.1 h
        obtain ⟨u, hu1, hu2⟩ := hc.get hx
        obtain ⟨v, hv1, hv2⟩ := hd.get hy
        have e1 := run_part1 (hT _ _ hti) (eq1_flat h1) hu1 w
        have e2 := run_part1 (hT _ _ hti) (eq1_flat h1) hv1 w
        have e3 := run_eq1 (hT _ _ hti) h1 hu2 hv2 d w
        have ih2 := ih b2 h2 hn.2
        rw [List.forIn_cons]
        simp only [ne_eq, hn.1, not_false_eq_true, if_true, Sem.run_bind, e1, e2, e3, Result.andThen_ok]
        cases b1 <;> simp [ih2]
        simpa using ih2
      · simp at h
  have hk := key fields.toList b h hn
  simp only [Sem.run_bind, hk, Result.andThen_ok]
  cases b <;> simp

/-! #### Against nil -/
theorem run_equal_nil {T : TypeId} {ti : TI} (ht : TIok P T ti) {K : Know} {x y : LV} {u v : Value} {b : Bool} (hx : nilK ti.kind x = true) (hy : nilK ti.kind y = true) (rx : R K x u) (ry : R K y v)
    (hn : isNilC y = true) (hb : nilB x = some b) (w : World) : (Op.equal T u v).run P w = .ok b w := by
  unfold Op.equal Op.maxDepth Op.equalIn
  generalize hk : ti.kind = k at hx hy
  cases k <;> cases y <;> simp only [nilK, isNilC, reduceCtorEq, Bool.false_eq_true] at hy hn <;> cases ry <;>
    cases x <;> simp only [nilK, reduceCtorEq, Bool.false_eq_true] at hx <;> cases rx <;> simp only [nilB, Option.some.injEq, reduceCtorEq] at hb <;>
    first
      | (subst hb; simp [ht.run_ptr hk w])
      | (subst hb; simp [ht.run_slice hk w])
      | (split at hb
         · simp at hb
         · simp only [Option.some.injEq] at hb; subst hb
           first
             | (simp [ht.run_slice hk w]; done)
             | (exfalso; simp at *; done))
      | (subst hb; simp [ht.run_map hk w])
      | (subst hb; obtain ⟨d, h1, h2⟩ := ht.run_und; rw [hk] at h1; obtain ⟨a, b, c, rfl⟩ := ofDesc_func h1; simp [h2 w])

theorem run_equal_nil' {T : TypeId} {ti : TI} (ht : TIok P T ti) {K : Know} {x y : LV} {u v : Value} {b : Bool} (hx : nilK ti.kind x = true) (hy : nilK ti.kind y = true) (rx : R K x u) (ry : R K y v)
    (hn : isNilC x = true) (hb : nilB y = some b) (w : World) : (Op.equal T u v).run P w = .ok b w := by
  unfold Op.equal Op.maxDepth Op.equalIn
  generalize hk : ti.kind = k at hx hy
  cases k <;> cases x <;> simp only [nilK, isNilC, reduceCtorEq, Bool.false_eq_true] at hx hn <;> cases rx <;>
    cases y <;> simp only [nilK, reduceCtorEq, Bool.false_eq_true] at hy <;> cases ry <;> simp only [nilB, Option.some.injEq, reduceCtorEq] at hb <;>
    first
      | (subst hb; simp [ht.run_ptr hk w])
      | (subst hb; simp [ht.run_slice hk w])
      | (split at hb
         · simp at hb
         · simp only [Option.some.injEq] at hb; subst hb
           first
             | (simp [ht.run_slice hk w]; done)
             | (exfalso; simp at *; done))
      | (subst hb; simp [ht.run_map hk w])
      | (subst hb; obtain ⟨d, h1, h2⟩ := ht.run_und; rw [hk] at h1; obtain ⟨a, b, c, rfl⟩ := ofDesc_func h1; simp [h2 w])

theorem eqGuard_nilK {op : BinOp} {t : TypeId} {p q : Operand} {k : TK} {K : Know} {x : LV} {u v : Value} (hx : nilK k x = true) (rx : R K x u) : eqGuard op t p q u v = pure () := by
  cases k <;> cases x <;> simp only [nilK, reduceCtorEq, Bool.false_eq_true] at hx <;> cases rx <;> simp only [eqGuard_at_pointer, eqGuard_at_slice, eqGuard_at_map, eqGuard_at_func, eqGuard_at_nilFunc]

theorem nilK_bp {k : TK} {x : LV} (hx : nilK k x = true) : ∀ d ver off, x ≠ .bp d ver off := by
  intro d ver off h; subst h; cases k <;> simp [nilK] at hx

theorem binOp_eq {op : BinOp} {t : TypeId} {k : TK} {K : Know} {x : LV} {u v : Value} (hx : nilK k x = true) (rx : R K x u) {b : Bool} {z : LV} (hz : eqB op b = some z) {w : World}
    (he : (Op.equal t u v).run P w = .ok b w) : ∃ r, (binOp op t u v).run P w = .ok r w ∧ R K z r := by
  cases op <;> simp only [eqB, reduceCtorEq, Option.some.injEq] at hz <;> subst hz <;>
    cases k <;> cases x <;> simp only [nilK, reduceCtorEq, Bool.false_eq_true] at hx <;> cases rx <;>
    first
      | exact ⟨.bool b, by simp [binOp, he], .bool _⟩
      | exact ⟨.bool (!b), by simp [binOp, he], .bool _⟩

theorem pf_binOp {T : Tab} (hT : TOK P T) {op : BinOp} {t yt : TypeId} {p q : Operand} (ho : o.op = .binOp op t p q yt) (h : binL T op t (ev e p) (ev e q) = some x) : Yields P o e B H x := by
  refine Yields.still fun K jj w a N g te => ?_
  have rp := te.ev p
  have rq := te.ev q
  generalize ev e p = lp at h rp
  generalize ev e q = lq at h rq
  suffices hs : ∃ v, ((do eqGuard op t p q (a.eval p) (a.eval q); binOp op t (a.eval p) (a.eval q)) : Sem Value).run P w = .ok v w ∧ R K x v by
    obtain ⟨v, h1, h2⟩ := hs
    exact ⟨v, by simp only [execOp, ho]; exact run_value h1, h2.re⟩
  unfold binL at h
  split at h
  · rename_i k a' l b'
    have e1 : a.eval p = .int k a' := rp.int
    have e2 : a.eval q = .int l b' := rq.int
    rw [e1, e2, eqGuard_at_int]
    simp only [pure_bind]
    split at h
    · exact run_shiftI t h K w
    · rename_i hsh
      split at h
      · rename_i hkl; subst hkl
        exact run_binI t h (by simpa using hsh) K w
      · simp at h
  · rename_i s u
    have e1 : a.eval p = .string s := rp.str
    have e2 : a.eval q = .string u := rq.str
    rw [e1, e2, eqGuard_at_string]
    simp only [pure_bind]
    exact run_binS t h K w
  · rename_i b1 b2
    have e1 : a.eval p = .bool b1 := rp.bool
    have e2 : a.eval q = .bool b2 := rq.bool
    rw [e1, e2, eqGuard_at_bool]
    simp only [pure_bind]
    split at h
    · rename_i ti hti
      split at h
      · rename_i hk
        have he : (Op.equal t (.bool b1) (.bool b2)).run P w = .ok (b1 == b2) w := by
          unfold Op.equal Op.maxDepth Op.equalIn
          simp [(hT t ti hti).run_bool hk w]
        cases op <;> simp only [eqB, reduceCtorEq, Option.some.injEq] at h <;> subst h
        · exact ⟨_, by simp [binOp, he], .bool _⟩
        · exact ⟨_, by simp [binOp, he], .bool _⟩
      · simp at h
    · simp at h
  · rename_i cs ds
    split at h
    · rename_i ti hti
      split at h
      · rename_i fs hk
        split at h
        · rename_i hfl
          obtain ⟨b, hb, hz⟩ := Option.bind_eq_some_iff.1 h
          have hck := hT.eqs t ti fs hti hk hfl
          obtain ⟨desc, hd1, hd2⟩ := (hT t ti hti).und
          rw [hk] at hd2
          obtain ⟨fields, rfl, hf1⟩ := ofDesc_struct hd2
          simp only [eqChk, hd1, Bool.and_eq_true, Bool.not_eq_true'] at hck
          obtain ⟨⟨hc1, hc2⟩, hc3⟩ := hck
          have r1 : R K (.agg cs) (a.eval p) := rp
          have r2 : R K (.agg ds) (a.eval q) := rq
          obtain ⟨us, hus, hc⟩ : ∃ us : List Value, a.eval p = .agg us.toArray ∧ Rs K cs us := by
            generalize a.eval p = u at r1; cases r1 with | agg _ us hl hh => exact ⟨us, rfl, hl, hh⟩
          obtain ⟨vs, hvs, hd⟩ : ∃ vs : List Value, a.eval q = .agg vs.toArray ∧ Rs K ds vs := by
            generalize a.eval q = u at r2; cases r2 with | agg _ us hl hh => exact ⟨us, rfl, hl, hh⟩
          rw [← hf1] at hb
          have he : (Op.equal t (.agg us.toArray) (.agg vs.toArray)).run P w = .ok b w := run_eqF hT hd1 hc1 hc hd 9998 w b hb hc3
          rw [hus, hvs]
          have hg : (eqGuard op t p q (.agg us.toArray) (.agg vs.toArray)).run P w = .ok () w := by
            unfold eqGuard
            cases op <;> simp [hc2]
          cases op <;> simp only [eqB, reduceCtorEq, Option.some.injEq] at hz <;> subst hz
          · exact ⟨.bool b, by simp [Sem.run_bind, hg, binOp, he], .bool _⟩
          · exact ⟨.bool (!b), by simp [Sem.run_bind, hg, binOp, he], .bool _⟩
        · simp at h
      · simp at h
    · simp at h
  · split at h
    · rename_i ti hti
      split at h
      · rename_i hk
        simp only [Bool.and_eq_true] at hk
        have r1 := rp.r (nilK_bp hk.1)
        have r2 := rq.r (nilK_bp hk.2)
        rw [eqGuard_nilK hk.1 r1]
        simp only [pure_bind]
        split at h
        · rename_i hn
          obtain ⟨b, hb, hz⟩ := Option.bind_eq_some_iff.1 h
          exact binOp_eq hk.1 r1 hz (run_equal_nil (hT t ti hti) hk.1 hk.2 r1 r2 hn hb w)
        · split at h
          · rename_i hn
            obtain ⟨b, hb, hz⟩ := Option.bind_eq_some_iff.1 h
            exact binOp_eq hk.1 r1 hz (run_equal_nil' (hT t ti hti) hk.1 hk.2 r1 r2 hn hb w)
          · simp at h
      · simp at h
    · simp at h

/-! #### Moves, choices, loads, addresses -/
def pfPick (c a b : LV) : Option LV :=
  match c with
  | .bool t => some (bif t then a else b)
  | _ => none

theorem RE.cond {K : Know} {jj : Nat → Nat} {t : Bool} {y z : LV} {u v : Value} (h : RE K jj B y u) (h' : RE K jj B z v) : RE K jj B (bif t then y else z) (if t = true then u else v) := by
  cases t
  · exact h'
  · exact h

theorem pf_move {p : Operand} (ho : o.op = .move p ∨ o.op = .assign p) : Yields P o e B H (ev e p) :=
  Yields.still fun K jj w a N g te => ⟨a.eval p, by rcases ho with ho | ho <;> simp [execOp, ho], te.ev p⟩

theorem pf_pick {c p q : Operand} (ho : o.op = .pick c p q) (h : pfPick (ev e c) (ev e p) (ev e q) = some x) : Yields P o e B H x := by
  refine Yields.still fun K jj w a N g te => ?_
  have rc := te.ev c
  generalize ev e c = lc at h rc
  unfold pfPick at h
  split at h
  · rename_i t
    simp at h; subst h
    refine ⟨if t = true then a.eval p else a.eval q, ?_, RE.cond (te.ev p) (te.ev q)⟩
    have e1 : a.eval c = .bool t := rc.bool
    simp only [execOp, ho, e1, asBool]
    cases t <;> simp
  · simp at h

def pfLoad (T : Tab) (B : Box) (H : OHeap) (t : TypeId) (p : LV) : Option LV :=
  match T t, cellsAt B H p with
  | some ti, some cs => pick ti cs
  | _, _ => none

theorem pf_load {T : Tab} (hT : TOK P T) {t : TypeId} {p : Operand} (ho : o.op = .load t p) (h : pfLoad T B H t (ev e p) = some x) : Yields P o e B H x := by
  refine Yields.still fun K jj w a N g te => ?_
  unfold pfLoad at h
  split at h
  · rename_i ti cs hti hcs
    obtain ⟨b, off, hv, hc⟩ := cellsAt_ok g (te.ev p) hcs
    obtain ⟨v, h1, h2⟩ := run_loadVar (hT t ti hti) hc h
    refine ⟨v, ?_, h2.re⟩
    simp only [execOp, ho, Instr.loadAt, Instr.sureAddr, hv, pure_bind]
    exact run_value h1
  · simp at h

def notNil : LV → Bool
  | .ptr .. | .iptr _ | .fn .. | .bool _ | .int .. | .str _ | .sl .. | .isl .. | .nilsl | .mp _ | .nilm | .agg _ | .ifc .. | .yld _ => true
  | _ => false

theorem pf_nilCheck {p : Operand} (ho : o.op = .nilCheck p) (h : notNil (ev e p) = true) : Yields P o e B H (ev e p) := by
  refine Yields.still fun K jj w a N g te => ⟨a.eval p, ?_, te.ev p⟩
  have rp := te.ev p
  generalize ev e p = lp at h rp
  simp only [execOp, ho]
  generalize a.eval p = v at rp
  cases lp <;> simp only [notNil, reduceCtorEq, Bool.false_eq_true] at h <;> cases rp <;> rfl

theorem pf_nilCheck_bp {p : Operand} {d ver off : Nat} (ho : o.op = .nilCheck p) (h : ev e p = .bp d ver off) (hv : (B d).1 = ver) (hs : (B d).2.isSome = true) : Yields P o e B H (.bp d ver off) := by
  refine Yields.still fun K jj w a N g te => ⟨a.eval p, ?_, by rw [← h]; exact te.ev p⟩
  have rp := te.ev p
  rw [h] at rp
  simp only [execOp, ho, rp.2 hv.symm hs]
  rfl

def ptrAdd (B : Box) (p : LV) (n : Nat) : Option LV :=
  match p with
  | .bp d ver off => if (B d).1 = ver ∧ (B d).2.isSome = true then some (.bp d ver (off + n)) else none
  | .ptr b off => some (.ptr b (off + n))
  | .iptr cs => if n ≤ cs.length then some (.iptr (cs.drop n)) else none
  | _ => none

theorem ptrAdd_ok {K : Know} {jj : Nat → Nat} {p x : LV} {n : Nat} {v : Value} (rp : RE K jj B p v) (h : ptrAdd B p n = some x) :
    ∃ b off, v = .pointer (some ⟨b, off, none⟩) ∧ RE K jj B x (.pointer (some ⟨b, off + n, none⟩)) := by
  unfold ptrAdd at h
  split at h
  · rename_i d ver off
    split at h
    · rename_i hc
      simp at h; subst h
      exact ⟨jj d, off, rp.2 hc.1.symm hc.2, rp.1, fun _ _ => rfl⟩
    · simp at h
  · rename_i b off
    simp at h; subst h
    have r : R K (.ptr b off) v := rp
    cases r; exact ⟨b, off, rfl, R.ptr b (off + n)⟩
  · rename_i cs
    split at h
    · simp at h; subst h
      have r : R K (.iptr cs) v := rp
      cases r with
      | iptr _ b off us hK hR =>
        refine ⟨b, off, rfl, R.iptr _ b (off + n) (fun j => us (n + j)) (fun j y hy => ?_) (fun j y hy => ?_)⟩
        · rw [List.getElem?_drop] at hy; have := hK _ y hy; rwa [← Nat.add_assoc] at this
        · rw [List.getElem?_drop] at hy; exact hR _ y hy
    · simp at h
  · simp at h

def pfFieldAddr (T : Tab) (B : Box) (s : TypeId) (p : LV) (f : Nat) : Option LV :=
  match T s with
  | some ti => match ti.kind with
    | .struct fs => match fs[f]? with
      | some (ft, off) => match T ft with
        | some fi => if fi.size = 0 then none else ptrAdd B p off
        | none => none
      | none => none
    | _ => none
  | none => none

theorem struct_field {fields : Array Field} {fs : List (TypeId × Nat)} (hf : fields.toList.map (fun f => (f.type, f.offset)) = fs) {f : Nat} {ft : TypeId} {off : Nat} (h : fs[f]? = some (ft, off)) :
    ∃ fd, fields[f]? = some fd ∧ fd.type = ft ∧ fd.offset = off := by
  rw [← hf, List.getElem?_map] at h
  obtain ⟨fd, h1, h2⟩ := Option.map_eq_some_iff.1 h
  simp at h2
  exact ⟨fd, by simpa using h1, h2.1, h2.2⟩

theorem pf_fieldAddr {T : Tab} (hT : TOK P T) {s : TypeId} {p : Operand} {f : Nat} (ho : o.op = .fieldAddr s p f) (h : pfFieldAddr T B s (ev e p) f = some x) : Yields P o e B H x := by
  refine Yields.still fun K jj w a N g te => ?_
  unfold pfFieldAddr at h
  split at h
  · rename_i ti hti
    split at h
    · rename_i fs hk
      split at h
      · rename_i ft off hfo
        split at h
        · rename_i fi hfi
          split at h
          · simp at h
          · rename_i hsz
            obtain ⟨b, o', hv, hr⟩ := ptrAdd_ok (te.ev p) h
            obtain ⟨fields, h1, h2⟩ := (hT s ti hti).run_struct hk
            obtain ⟨fd, h3, h4, h5⟩ := struct_field h1 hfo
            refine ⟨_, ?_, hr⟩
            have hs := (hT ft fi hfi).run_size w
            rw [← h4] at hs
            simp only [execOp, ho, Instr.fieldAt, hv]
            refine run_value ?_
            simp [h2 w, h3, Instr.sureAddr, fieldPlace, hs, hsz, h5, Addr.add_lit]
        · simp at h
      · simp at h
    · simp at h
  · simp at h

def pfField (T : Tab) (t : TypeId) (s : LV) (f : Nat) : Option LV :=
  match T t, s with
  | some ti, .agg cs => match ti.kind with
    | .struct fs => match fs[f]? with
      | some (ft, off) => match T ft with
        | some fi => pick fi (cs.drop off)
        | none => none
      | none => none
    | _ => none
  | _, _ => none

theorem run_part {T : Tab} (hT : TOK P T) {ft : TypeId} {fi : TI} (hfi : T ft = some fi) {K : Know} {cs : List LV} {vs : List Value} (hr : Rs K cs vs) {off : Nat} (h : pick fi (cs.drop off) = some x) (w : World) :
    ∃ v, (part ft vs.toArray off).run P w = .ok v w ∧ R K x v := by
  have ht := hT ft fi hfi
  unfold pick at h
  split at h
  · rename_i ha
    split at h
    · rename_i hle
      simp at h; subst h
      refine ⟨.agg ((vs.drop off).take fi.size).toArray, ?_, .agg _ _ ((hr.drop off).take fi.size).1 ((hr.drop off).take fi.size).2⟩
      simp [part, ht.run_agg w, ha, ht.run_size w]
    · simp at h
  · rename_i ha
    have ha' : fi.kind.agg = false := by simpa using ha
    rw [List.head?_drop] at h
    obtain ⟨v, h1, h2⟩ := hr.get h
    exact ⟨v, by simp [part, ht.run_agg w, ha', h1], h2⟩

theorem pf_field {T : Tab} (hT : TOK P T) {t : TypeId} {p : Operand} {f : Nat} (ho : o.op = .field t p f) (h : pfField T t (ev e p) f = some x) : Yields P o e B H x := by
  refine Yields.still fun K jj w a N g te => ?_
  have rp := te.ev p
  generalize ev e p = lp at h rp
  unfold pfField at h
  split at h
  · rename_i ti cs hti
    split at h
    · rename_i fs hk
      split at h
      · rename_i ft off hfo
        split at h
        · rename_i fi hfi
          have r : R K (.agg cs) (a.eval p) := rp
          obtain ⟨vs, hvs, hrs⟩ : ∃ vs : List Value, a.eval p = .agg vs.toArray ∧ Rs K cs vs := by
            generalize a.eval p = u at r; cases r with | agg _ vs hl hh => exact ⟨vs, rfl, hl, hh⟩
          obtain ⟨fields, h1, h2⟩ := (hT t ti hti).run_struct hk
          obtain ⟨fd, h3, h4, h5⟩ := struct_field h1 hfo
          obtain ⟨v, h6, h7⟩ := run_part hT hfi hrs h w
          refine ⟨v, ?_, h7.re⟩
          simp only [execOp, ho, Instr.field, hvs]
          refine run_value ?_
          simp [h2 w, h3, asAgg, h4, h5, h6]
        · simp at h
      · simp at h
    · simp at h
  · simp at h

end
end Go.Lv
