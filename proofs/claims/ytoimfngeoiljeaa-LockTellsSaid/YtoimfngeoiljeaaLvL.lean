/- Lv, part L: the condition of a whole body, computed by simp. Over any program; no condition. -/
import Derived.Test.YtoimfngeoiljeaaLvK
namespace Go.Lv
open Go
set_option linter.unusedVariables false
set_option linter.unusedSimpArgs false

/-- A test's two sides. -/
def ifB (b : Bool) (X Y : Prop) : Prop := (b = true → X) ∧ (b = false → Y)
@[simp] theorem ifB_true (X Y : Prop) : ifB true X Y = X := by simp [ifB]
@[simp] theorem ifB_false (X Y : Prop) : ifB false X Y = Y := by simp [ifB]
@[simp] theorem ifB_not (b : Bool) (X Y : Prop) : ifB (!b) X Y = ifB b Y X := by cases b <;> simp [ifB]
theorem ifB_intro {b : Bool} {X Y : Prop} (h : b = true → X) (h' : b = false → Y) : ifB b X Y := ⟨h, h'⟩
theorem ifB_mono {b : Bool} {X Y X' Y' : Prop} (h : ifB b X Y) (hx : X → X') (hy : Y → Y') : ifB b X' Y' := ⟨fun x => hx (h.1 x), fun y => hy (h.2 y)⟩

/-- A test of a slot: each side goes on with what it knows. -/
def cnd (v : LV) (X Y : LV → Prop) : Prop := match v with | .bool b => ifB b (X (.bool true)) (Y (.bool false)) | _ => False
@[simp] theorem cnd_true (X Y : LV → Prop) : cnd (.bool true) X Y = X (.bool true) := by simp [cnd]
@[simp] theorem cnd_false (X Y : LV → Prop) : cnd (.bool false) X Y = Y (.bool false) := by simp [cnd]
theorem cnd_bool (b : Bool) (X Y : LV → Prop) : cnd (.bool b) X Y = ifB b (X (.bool true)) (Y (.bool false)) := rfl

/-- A guard: a test, or a slot that nothing was laid into. -/
def gcnd (v : LV) (X Y : LV → Prop) (Z : Prop) : Prop := match v with | .bool b => ifB b (X (.bool true)) (Y (.bool false)) | .tup [] => Z | _ => False

theorem upd_self {e : Env} {t : Nat} {x : LV} (h : e t = x) : upd e t x = e := by
  funext i; simp only [upd_apply]; split
  · rename_i hi; rw [hi]; exact h.symm
  · rfl

section
variable {P : Program} {ρ : Option Nat} {N : Nat} {T : Tab} {ops : Array Oper} {e : Env} {B : Box} {H : OHeap}

/-- A region's list, in the order of the text. -/
def vcO (P : Program) (T : Tab) (ops : Array Oper) : List Oper → KPost → Env → Box → OHeap → Prop
  | [], Q, e, B, H => Q e B H
  | o :: r, Q, e, B, H => match o.guard with
    | none => oneS P T o e B H fun x B' H' => vcO P T ops r Q (updo e o.dst x) B' H'
    | some (j, want) => match (ops[j]?).bind (·.dst) with
      | some t => gcnd (e t)
          (fun v => if want = true then oneS P T { o with guard := none } (upd e t v) B H fun x B' H' => vcO P T ops r Q (updo (upd e t v) o.dst x) B' H'
            else vcO P T ops r Q (updo (upd e t v) o.dst (.tup [])) B H)
          (fun v => if want = true then vcO P T ops r Q (updo (upd e t v) o.dst (.tup [])) B H
            else oneS P T { o with guard := none } (upd e t v) B H fun x B' H' => vcO P T ops r Q (updo (upd e t v) o.dst x) B' H')
          (vcO P T ops r Q (updo e o.dst (.tup [])) B H)
      | none => False

theorem WPO.one {o : Oper} {rest : List Oper} {Q : KPost} (hg : o.guard = none) (h : One P ρ N o e B H fun x B' H' => WPO P ρ N ops rest Q (updo e o.dst x) B' H') : WPO P ρ N ops (o :: rest) Q e B H := by
  intro hdst n m K jj w a g t d
  simp only [List.all_cons, Bool.and_eq_true] at hdst
  refine wpListIn_plain hg fun K' hK' => ?_
  refine h hdst.1 n m K jj w a g t d _ _ ?_
  intro a' w' x K1 jj' B' H' g' t' d' f hq
  exact hK' _ _ (lift_mono_list (fun _ _ _ hl => hl.fr f) rest _ _ (hq hdst.2 n m K1 jj' w' a' g' t' d'))

theorem One.mono {o : Oper} {Q Q' : LV → Box → OHeap → Prop} (h : One P ρ N o e B H Q) (hq : ∀ x B' H', Q x B' H' → Q' x B' H') : One P ρ N o e B H Q' := by
  intro hdst n m K jj w a g t d K' Qx hK
  exact h hdst n m K jj w a g t d K' Qx fun a' w' x K1 jj' B' H' g' t' d' f hq' => hK a' w' x K1 jj' B' H' g' t' d' f (hq _ _ _ hq')

theorem WPO.unguarded {o : Oper} {rest : List Oper} {Q : KPost} {j t : Nat} {want : Bool} (hg : o.guard = some (j, want)) (ht : (ops[j]?).bind (·.dst) = some t) (hb : e t = .tup [])
    (h : WPO P ρ N ops rest Q (updo e o.dst (.tup [])) B H) : WPO P ρ N ops (o :: rest) Q e B H := by
  intro hdst n m K jj w a g te d
  have hw : Region.wanted o (yielded ops a.tmps) = false := by
    have r := te.get t
    rw [hb] at r
    have r' : R K (.tup []) (a.tmps.getD t undef) := r
    have hv : a.tmps.getD t undef = .tuple #[] := by
      generalize a.tmps.getD t undef = u at r'
      cases r' with | tup _ vs hl hh =>
        have : vs = [] := by simpa using hl
        subst this; rfl
    have hy : yielded ops a.tmps j = none := by
      unfold yielded
      rw [ht]
      simp only [Option.bind_some]
      cases hq : a.tmps[t]? with
      | none => rfl
      | some v => simp [hq] at hv; subst hv; rfl
    simp [Region.wanted, hg, hy]
  simp only [wpListIn, hw]
  simp only [List.all_cons, Bool.and_eq_true] at hdst
  refine ⟨fun _ _ => trivial, ?_⟩
  have hd : ∀ tt, o.dst = some tt → tt < N := fun tt ht => by have := hdst.1; simp [opDst, ht] at this; exact this
  refine h hdst.2 n m K jj w _ g (te.put hd (R.tup [] [] rfl (fun i x v h => by simp at h)).re) ?_
  have hdef : (a.put o.dst undef).defers = a.defers := by cases o.dst <;> rfl
  rw [hdef]; exact d

theorem vcO_sound (hT : TOK P T) : ∀ (rest : List Oper) (Q : KPost) (e : Env) (B : Box) (H : OHeap), vcO P T ops rest Q e B H → WPO P ρ N ops rest Q e B H
  | [], Q, e, B, H, h => WPO.nil h
  | o :: r, Q, e, B, H, h => by
    unfold vcO at h
    split at h
    · rename_i hg
      refine WPO.one hg ((oneS_sound hT h).mono fun x B' H' hq => ?_)
      exact vcO_sound hT r Q _ _ _ hq
    · rename_i j want hg
      split at h
      · rename_i t ht
        unfold gcnd at h
        split at h
        · rename_i b hb
          have hgv : gv ops e j = some b := by
            obtain ⟨o', ho', hd'⟩ := Option.bind_eq_some_iff.1 ht
            simp [gv, ho', hd', hb]
          have go : ∀ v : Bool, b = v → oneS P T { o with guard := none } (upd e t (.bool v)) B H (fun x B' H' => vcO P T ops r Q (updo (upd e t (.bool v)) o.dst x) B' H') → WPO P ρ N ops ({ o with guard := none } :: r) Q e B H := by
            intro v hv h1
            rw [upd_self (by rw [hb, hv])] at h1
            refine WPO.one rfl ((oneS_sound hT h1).mono fun x B' H' hq => ?_)
            exact vcO_sound hT r Q _ _ _ hq
          have no : ∀ v : Bool, b = v → vcO P T ops r Q (updo (upd e t (.bool v)) o.dst (.tup [])) B H → WPO P ρ N ops r Q (updo e o.dst (.tup [])) B H := by
            intro v hv h1
            rw [upd_self (by rw [hb, hv])] at h1
            exact vcO_sound hT r Q _ _ _ h1
          refine WPO.guard hg hgv (fun hbw => ?_) (fun hbw => ?_)
          · subst hbw
            cases b with
            | true => have h1 := h.1 rfl; simp only [if_true] at h1; exact go true rfl h1
            | false => have h1 := h.2 rfl; simp only [Bool.false_eq_true, if_false] at h1; exact go false rfl h1
          · cases b with
            | true =>
              have hw : want = false := by cases want <;> simp_all
              subst hw
              have h1 := h.1 rfl; simp only [Bool.false_eq_true, if_false] at h1; exact no true rfl h1
            | false =>
              have hw : want = true := by cases want <;> simp_all
              subst hw
              have h1 := h.2 rfl; simp only [if_true] at h1; exact no false rfl h1
        · rename_i hb
          exact WPO.unguarded hg ht hb (vcO_sound hT r Q _ _ _ h)
        · exact h.elim
      · exact h.elim

/-- Behind a piece. -/
def After (y : Post → Env → Box → OHeap → Prop) (Q : Post) : Post := fun x e B H =>
  match x with
  | .norm => y Q e B H
  | .exit i => Q (.exit i) e B H
  | .ret => Q .ret e B H

def condV (x y : Post → Env → Box → OHeap → Prop) (c : Operand) (Q : Post) (e : Env) (B : Box) (H : OHeap) : Prop :=
  match c with
  | .tmp t => cnd (e t) (fun v => x Q (upd e t v) B H) (fun v => y Q (upd e t v) B H)
  | c => cnd (ev e c) (fun _ => x Q e B H) (fun _ => y Q e B H)

/-- THE CONDITION OF A PIECE: loops, range over functions and drawn regions stay as they are. -/
def vc (P : Program) (T : Tab) (ρ : Option Nat) (N : Nat) : Code → Post → Env → Box → OHeap → Prop
  | .skip, Q, e, B, H => Q .norm e B H
  | .label _, Q, e, B, H => Q .norm e B H
  | .exit i, Q, e, B, H => Q (.exit i) e B H
  | .ret, Q, e, B, H => Q .ret e B H
  | .region id ops false, Q, e, B, H => vcO P T ops ops.toList (Q .norm) e B H
  | .seq x y, Q, e, B, H => vc P T ρ N x (After (vc P T ρ N y) Q) e B H
  | .cond c x y, Q, e, B, H => condV (vc P T ρ N x) (vc P T ρ N y) c Q e B H
  | .block id c, Q, e, B, H => vc P T ρ N c (InBlock id Q) e B H
  | .scope c, Q, e, B, H => vc P T ρ N c Q e B H
  | c, Q, e, B, H => WP P ρ N c Q e B H

theorem vc_sound (hT : TOK P T) : ∀ (c : Code) (Q : Post) (e : Env) (B : Box) (H : OHeap), vc P T ρ N c Q e B H → WP P ρ N c Q e B H := by
  intro c
  induction c with
  | skip => intro Q e B H h; exact WP.skip h
  | label l => intro Q e B H h; exact WP.label h
  | exit i => intro Q e B H h; exact WP.exit h
  | ret => intro Q e B H h; exact WP.ret h
  | region id ops d =>
    intro Q e B H h
    cases d with
    | true => exact h
    | false => exact WP.region (vcO_sound hT _ _ _ _ _ h)
  | seq x y ihx ihy =>
    intro Q e B H h
    refine WP.seq ((ihx _ _ _ _ h).mono ?_)
    intro z e' B' H' hz
    cases z with
    | norm => exact ihy _ _ _ _ hz
    | exit i => exact hz
    | ret => exact hz
  | cond c x y ihx ihy =>
    intro Q e B H h
    unfold vc condV at h
    split at h
    · rename_i t
      unfold cnd at h
      split at h
      · rename_i b hb
        refine WP.cond (b := b) hb (fun hbt => ?_) (fun hbf => ?_)
        · subst hbt
          have h1 : vc P T ρ N x Q (upd e t (.bool true)) B H := h.1 rfl
          rw [upd_self hb] at h1
          exact ihx _ _ _ _ h1
        · subst hbf
          have h1 : vc P T ρ N y Q (upd e t (.bool false)) B H := h.2 rfl
          rw [upd_self hb] at h1
          exact ihy _ _ _ _ h1
      · exact h.elim
    · unfold cnd at h
      split at h
      · rename_i b hb
        exact WP.cond hb (fun hbt => ihx _ _ _ _ (h.1 hbt)) (fun hbf => ihy _ _ _ _ (h.2 hbf))
      · exact h.elim
  | block id c ih => intro Q e B H h; exact WP.block (ih _ _ _ _ h)
  | scope c ih => intro Q e B H h; exact WP.scope (ih _ _ _ _ h)
  | loop c ih => intro Q e B H h; exact h
  | rangeFunc f ps a b iha ihb => intro Q e B H h; exact h
  | goto l => intro Q e B H h; exact h
  | refuse why => intro Q e B H h; exact h

/-! ### How simp goes: what is still to come stands in words without a binder, so that simp does not walk into it -/
theorem ifB_congr {b b' : Bool} {X X' Y Y' : Prop} (h : b = b') (hx : b' = true → X = X') (hy : b' = false → Y = Y') : ifB b X Y = ifB b' X' Y' := by
  subst h; cases b
  · simp [hy rfl]
  · simp [hx rfl]

/-- What comes behind an operation. -/
def kont (P : Program) (T : Tab) (ops : Array Oper) (r : List Oper) (dst : Option Tmp) (Q : KPost) (e : Env) (B : Box) : LV → OHeap → Prop := fun x H => vcO P T ops r Q (updo e dst x) B H
@[simp↓] theorem kont_apply (r : List Oper) (dst : Option Tmp) (Q : KPost) (x : LV) : kont P T ops r dst Q e B x H = vcO P T ops r Q (updo e dst x) B H := rfl
def vK (x : Option LV) (P : Program) (T : Tab) (ops : Array Oper) (r : List Oper) (dst : Option Tmp) (Q : KPost) (e : Env) (B : Box) (H : OHeap) : Prop := ob x fun x => vcO P T ops r Q (updo e dst x) B H
@[simp] theorem vK_some (x : LV) (r : List Oper) (dst : Option Tmp) (Q : KPost) : vK (some x) P T ops r dst Q e B H = vcO P T ops r Q (updo e dst x) B H := rfl
@[simp] theorem vK_none (r : List Oper) (dst : Option Tmp) (Q : KPost) : vK none P T ops r dst Q e B H = False := rfl
@[simp] theorem vK_ite (c : Prop) [Decidable c] (x : Option LV) (r : List Oper) (dst : Option Tmp) (Q : KPost) : vK (if c then x else none) P T ops r dst Q e B H = (c ∧ vK x P T ops r dst Q e B H) := by by_cases h : c <;> simp [h]
@[simp] theorem vK_ite' (c : Prop) [Decidable c] (x : Option LV) (r : List Oper) (dst : Option Tmp) (Q : KPost) : vK (if c then none else x) P T ops r dst Q e B H = (¬ c ∧ vK x P T ops r dst Q e B H) := by by_cases h : c <;> simp [h]

/-- A function value with its arguments. -/
def clK (v : LV) (as : List LV) (P : Program) (T : Tab) (ops : Array Oper) (r : List Oper) (dst : Option Tmp) (Q : KPost) (e : Env) (B : Box) (H : OHeap) : Prop := match v with
  | .fn g fst caps => (fst ++ as ++ caps).all LV.glob = true ∧ CallL P g (fst ++ as ++ caps) H (kont P T ops r dst Q e B)
  | _ => False
@[simp] theorem clK_fn (g : FuncId) (fst caps as : List LV) (r : List Oper) (dst : Option Tmp) (Q : KPost) :
    clK (.fn g fst caps) as P T ops r dst Q e B H = ((fst ++ as ++ caps).all LV.glob = true ∧ CallL P g (fst ++ as ++ caps) H (kont P T ops r dst Q e B)) := rfl

def alK (z : Option TI) (d : Nat) (P : Program) (T : Tab) (ops : Array Oper) (r : List Oper) (Q : KPost) (e : Env) (B : Box) (H : OHeap) : Prop :=
  ob z fun ti => vcO P T ops r Q (upd e d (.bp d ((B d).1 + 1) 0)) (newB B d ti.zero) H
@[simp] theorem alK_some (q : TK) (n by_ : Nat) (z : List LV) (d : Nat) (r : List Oper) (Q : KPost) : alK (some ⟨q, n, by_, z⟩) d P T ops r Q e B H = vcO P T ops r Q (upd e d (.bp d ((B d).1 + 1) 0)) (newB B d z) H := rfl
def bxK (z : Option (List LV)) (d : Nat) (P : Program) (T : Tab) (ops : Array Oper) (r : List Oper) (Q : KPost) (e : Env) (B : Box) (H : OHeap) : Prop :=
  ob z fun cs => vcO P T ops r Q (upd e d (.bp d ((B d).1 + 1) 0)) (newB B d cs) H
@[simp] theorem bxK_some (z : List LV) (d : Nat) (r : List Oper) (Q : KPost) : bxK (some z) d P T ops r Q e B H = vcO P T ops r Q (upd e d (.bp d ((B d).1 + 1) 0)) (newB B d z) H := rfl
@[simp] theorem bxK_ite (c : Prop) [Decidable c] (x : Option (List LV)) (d : Nat) (r : List Oper) (Q : KPost) : bxK (if c then x else none) d P T ops r Q e B H = (c ∧ bxK x d P T ops r Q e B H) := by by_cases h : c <;> simp [h, bxK]

def cellsO : Option LO → Option (List LV × Nat) | some (.cells cs n) => some (cs, n) | _ => none
@[simp] theorem cellsO_cells (cs : List LV) (n : Nat) : cellsO (some (.cells cs n)) = some (cs, n) := rfl
@[simp] theorem cellsO_none : cellsO none = none := rfl
def stB (bx : Option (List LV)) (d o : Nat) (ns : List LV) (P : Program) (T : Tab) (ops : Array Oper) (r : List Oper) (dst : Option Tmp) (Q : KPost) (e : Env) (B : Box) (H : OHeap) : Prop :=
  ob bx fun cs => o + ns.length ≤ cs.length ∧ vcO P T ops r Q (updo e dst .any) (setB B d (seg cs o ns)) H
@[simp] theorem stB_some (cs : List LV) (d o : Nat) (ns : List LV) (r : List Oper) (dst : Option Tmp) (Q : KPost) : stB (some cs) d o ns P T ops r dst Q e B H = (o + ns.length ≤ cs.length ∧ vcO P T ops r Q (updo e dst .any) (setB B d (seg cs o ns)) H) := rfl
def stP (hx : Option (List LV × Nat)) (b o : Nat) (ns : List LV) (P : Program) (T : Tab) (ops : Array Oper) (r : List Oper) (dst : Option Tmp) (Q : KPost) (e : Env) (B : Box) (H : OHeap) : Prop :=
  ob hx fun x => (o ≤ x.1.length ∧ o + ns.length ≤ x.2) ∧ vcO P T ops r Q (updo e dst .any) B (setH H b (.cells (seg x.1 o ns) x.2))
@[simp] theorem stP_some (cs : List LV) (n b o : Nat) (ns : List LV) (r : List Oper) (dst : Option Tmp) (Q : KPost) : stP (some (cs, n)) b o ns P T ops r dst Q e B H = ((o ≤ cs.length ∧ o + ns.length ≤ n) ∧ vcO P T ops r Q (updo e dst .any) B (setH H b (.cells (seg cs o ns) n))) := rfl
def stK (z : Option TI) (nz : Option (List LV)) (p : LV) (P : Program) (T : Tab) (ops : Array Oper) (r : List Oper) (dst : Option Tmp) (Q : KPost) (e : Env) (B : Box) (H : OHeap) : Prop :=
  ob z fun ti => ob nz fun ns => ns.length = ti.size ∧ stL B H p ns fun B' H' => vcO P T ops r Q (updo e dst .any) B' H'
@[simp] theorem stK_bp (q : TK) (n by_ : Nat) (z ns : List LV) (d v o : Nat) (r : List Oper) (dst : Option Tmp) (Q : KPost) :
    stK (some ⟨q, n, by_, z⟩) (some ns) (.bp d v o) P T ops r dst Q e B H = (ns.length = n ∧ (B d).1 = v ∧ stB (B d).2 d o ns P T ops r dst Q e B H) := by
  simp only [stK, ob_some, stL, stB]; cases (B d).2 <;> rfl
@[simp] theorem stK_ptr (q : TK) (n by_ : Nat) (z ns : List LV) (b o : Nat) (r : List Oper) (dst : Option Tmp) (Q : KPost) :
    stK (some ⟨q, n, by_, z⟩) (some ns) (.ptr b o) P T ops r dst Q e B H = (ns.length = n ∧ stP (cellsO (H b)) b o ns P T ops r dst Q e B H) := by
  simp only [stK, ob_some, stL, stP]; cases h : H b with
  | none => rfl
  | some lo => cases lo <;> rfl
@[simp] theorem stK_ite (z : Option TI) (c : Prop) [Decidable c] (x : Option (List LV)) (p : LV) (r : List Oper) (dst : Option Tmp) (Q : KPost) : stK z (if c then x else none) p P T ops r dst Q e B H = (c ∧ stK z x p P T ops r dst Q e B H) := by
  by_cases h : c <;> cases z <;> simp [h, stK]

def apK (z zx : Option TI) (s x : LV) (P : Program) (T : Tab) (ops : Array Oper) (r : List Oper) (dst : Option Tmp) (Q : KPost) (e : Env) (B : Box) (H : OHeap) : Prop :=
  ob z fun ti => ob zx fun tix => match ti.kind with
        | .slice el => ob (T el) fun ei => srcKind tix.kind x ∧ appL H ei.size ei.bytes s x (kont P T ops r dst Q e B)
        | _ => False
def apE (z : Option TI) (q : TK) (s x : LV) (k : LV → OHeap → Prop) (H : OHeap) : Prop := ob z fun ei => srcKind q x ∧ appL H ei.size ei.bytes s x k
@[simp] theorem apE_some (q : TK) (n by_ : Nat) (z : List LV) (qx : TK) (s x : LV) (k : LV → OHeap → Prop) : apE (some ⟨q, n, by_, z⟩) qx s x k H = (srcKind qx x ∧ appL H n by_ s x k) := rfl
@[simp] theorem apK_some (el : TypeId) (n by_ : Nat) (z : List LV) (qx : TK) (nx bx : Nat) (zx : List LV) (s x : LV) (r : List Oper) (dst : Option Tmp) (Q : KPost) :
    apK (some ⟨.slice el, n, by_, z⟩) (some ⟨qx, nx, bx, zx⟩) s x P T ops r dst Q e B H = apE (T el) qx s x (kont P T ops r dst Q e B) H := rfl

def mkE (z : Option TI) (l c : LV) (k : LV → OHeap → Prop) (H : OHeap) : Prop := match z, l, c with
  | some ei, .int _ ln, .int _ cn => (0 ≤ ln ∧ ln ≤ cn ∧ (ei.bytes : Int) * cn ≤ 281474976710656 ∧ cn ≤ 9223372036854775807) ∧
            ∀ b, H b = none → k (.sl b 0 ln.toNat cn.toNat) (setH H b (.cells (zerosL ei.zero cn.toNat) (cn.toNat * ei.size)))
  | _, _, _ => False
@[simp] theorem mkE_some (q : TK) (n by_ : Nat) (z : List LV) (k1 k2 : IntKind) (ln cn : Int) (k : LV → OHeap → Prop) : mkE (some ⟨q, n, by_, z⟩) (.int k1 ln) (.int k2 cn) k H = ((0 ≤ ln ∧ ln ≤ cn ∧ (by_ : Int) * cn ≤ 281474976710656 ∧ cn ≤ 9223372036854775807) ∧
            ∀ b, H b = none → k (.sl b 0 ln.toNat cn.toNat) (setH H b (.cells (zerosL z cn.toNat) (cn.toNat * n)))) := rfl
def mkK (z : Option TI) (l c : LV) (P : Program) (T : Tab) (ops : Array Oper) (r : List Oper) (dst : Option Tmp) (Q : KPost) (e : Env) (B : Box) (H : OHeap) : Prop :=
  ob z fun ti => match ti.kind with | .slice el => mkE (T el) l c (kont P T ops r dst Q e B) H | _ => False
@[simp] theorem mkK_some (el : TypeId) (n by_ : Nat) (z : List LV) (l c : LV) (r : List Oper) (dst : Option Tmp) (Q : KPost) :
    mkK (some ⟨.slice el, n, by_, z⟩) l c P T ops r dst Q e B H = mkE (T el) l c (kont P T ops r dst Q e B) H := rfl

def cpE (z : Option TI) (s x : LV) (k : LV → OHeap → Prop) (H : OHeap) : Prop := match z, s with
          | some ei, .sl b off len cap => (match x with | .str _ => False | _ => True) ∧ match H b, srcL H ei.size x with
            | some (.cells cs m), some (n, ns) => (ns.all LV.one = true ∧ off ≤ cs.length ∧ off + min n len * ei.size ≤ m) ∧
                k (.int .i64 (min n len : Nat)) (setH H b (.cells (seg cs off (ns.take (min n len * ei.size))) m))
            | _, _ => False
          | _, _ => False
def cpK (z : Option TI) (s x : LV) (P : Program) (T : Tab) (ops : Array Oper) (r : List Oper) (dst : Option Tmp) (Q : KPost) (e : Env) (B : Box) (H : OHeap) : Prop :=
  ob z fun ti => match ti.kind with | .slice el => cpE (T el) s x (kont P T ops r dst Q e B) H | _ => False
@[simp] theorem cpK_some (el : TypeId) (n by_ : Nat) (z : List LV) (l c : LV) (r : List Oper) (dst : Option Tmp) (Q : KPost) :
    cpK (some ⟨.slice el, n, by_, z⟩) l c P T ops r dst Q e B H = cpE (T el) l c (kont P T ops r dst Q e B) H := rfl
def crE (z : Option TI) (s : LV) (k : LV → OHeap → Prop) (H : OHeap) : Prop := match z, s with
          | some ei, .sl b off len cap => ob (cellsO (H b)) fun x => (off ≤ x.1.length ∧ off + len * ei.size ≤ x.2) ∧ k (.tup []) (setH H b (.cells (seg x.1 off (zerosL ei.zero len)) x.2))
          | _, _ => False
@[simp] theorem crE_some (q : TK) (n by_ : Nat) (z : List LV) (b off len cap : Nat) (k : LV → OHeap → Prop) : crE (some ⟨q, n, by_, z⟩) (.sl b off len cap) k H = ob (cellsO (H b)) fun x => (off ≤ x.1.length ∧ off + len * n ≤ x.2) ∧ k (.tup []) (setH H b (.cells (seg x.1 off (zerosL z len)) x.2)) := rfl
def crK (z : Option TI) (s : LV) (P : Program) (T : Tab) (ops : Array Oper) (r : List Oper) (dst : Option Tmp) (Q : KPost) (e : Env) (B : Box) (H : OHeap) : Prop :=
  ob z fun ti => match ti.kind with | .slice el => crE (T el) s (kont P T ops r dst Q e B) H | _ => False
@[simp] theorem crK_some (el : TypeId) (n by_ : Nat) (z : List LV) (l : LV) (r : List Oper) (dst : Option Tmp) (Q : KPost) :
    crK (some ⟨.slice el, n, by_, z⟩) l P T ops r dst Q e B H = crE (T el) l (kont P T ops r dst Q e B) H := rfl

theorem vcO_append : ∀ (a b : List Oper) (Q : KPost) (e : Env) (B : Box) (H : OHeap), vcO P T ops (a ++ b) Q e B H = vcO P T ops a (vcO P T ops b Q) e B H := by
  intro a
  induction a with
  | nil => intros; rfl
  | cons o a ih =>
    intro b Q e B H
    simp only [List.cons_append]
    unfold vcO
    simp only [ih]
@[simp↓] theorem vcO_append' (a b : List Oper) (Q : KPost) : vcO P T ops (List.append a b) Q e B H = vcO P T ops a (vcO P T ops b Q) e B H := vcO_append a b Q e B H
@[simp↓] theorem vcO_nil (Q : KPost) : vcO P T ops [] Q e B H = Q e B H := rfl

/-- The slot of a guard. -/
def gl : List Oper → Nat → Option Tmp
  | [], _ => none
  | o :: l, 0 => o.dst
  | o :: l, j + 1 => gl l j
@[simp↓] theorem gl_zero (dst : Option Tmp) (op : Op) (ty : TypeId) (pos : String) (af : Array Edge) (gd : Option (Nat × Bool)) (l : List Oper) : gl (⟨dst, op, ty, pos, af, gd⟩ :: l) 0 = dst := rfl
@[simp↓] theorem gl_succ (o : Oper) (l : List Oper) (j : Nat) : gl (o :: l) (j + 1) = gl l j := rfl
theorem gl_eq (l : List Oper) (j : Nat) : (l.toArray[j]?).bind (·.dst) = gl l j := by
  induction l generalizing j with
  | nil => simp [gl]
  | cons o l ih =>
    cases j with
    | zero => simp [gl]
    | succ j => rw [gl_succ, ← ih j]; simp

def gK (z : Option Tmp) (want : Bool) (o : Oper) (P : Program) (T : Tab) (ops : Array Oper) (r : List Oper) (Q : KPost) (e : Env) (B : Box) (H : OHeap) : Prop :=
  ob z fun t => gcnd (e t)
          (fun v => if want = true then oneS P T o (upd e t v) B H fun x B' H' => vcO P T ops r Q (updo (upd e t v) o.dst x) B' H'
            else vcO P T ops r Q (updo (upd e t v) o.dst (.tup [])) B H)
          (fun v => if want = true then vcO P T ops r Q (updo (upd e t v) o.dst (.tup [])) B H
            else oneS P T o (upd e t v) B H fun x B' H' => vcO P T ops r Q (updo (upd e t v) o.dst x) B' H')
          (vcO P T ops r Q (updo e o.dst (.tup [])) B H)
def gV (v : LV) (t : Tmp) (want : Bool) (o : Oper) (P : Program) (T : Tab) (ops : Array Oper) (r : List Oper) (Q : KPost) (e : Env) (B : Box) (H : OHeap) : Prop :=
  gcnd v
          (fun v => if want = true then vcO P T ops (o :: r) Q (upd e t v) B H
            else vcO P T ops r Q (updo (upd e t v) o.dst (.tup [])) B H)
          (fun v => if want = true then vcO P T ops r Q (updo (upd e t v) o.dst (.tup [])) B H
            else vcO P T ops (o :: r) Q (upd e t v) B H)
          (vcO P T ops r Q (updo e o.dst (.tup [])) B H)
section
variable {dst : Option Tmp} {op : Op} {ty : TypeId} {pos : String} {af : Array Edge} {r : List Oper} {Q : KPost}
@[simp] theorem gK_some (t : Tmp) (want : Bool) : gK (some t) want ⟨dst, op, ty, pos, af, none⟩ P T ops r Q e B H = gV (e t) t want ⟨dst, op, ty, pos, af, none⟩ P T ops r Q e B H := rfl
@[simp high] theorem gV_tt (t : Tmp) (o : Oper) : gV (.bool true) t true o P T ops r Q e B H = vcO P T ops (o :: r) Q (upd e t (.bool true)) B H := by simp [gV, gcnd]
@[simp high] theorem gV_tf (t : Tmp) (o : Oper) : gV (.bool true) t false o P T ops r Q e B H = vcO P T ops r Q (updo (upd e t (.bool true)) o.dst (.tup [])) B H := by simp [gV, gcnd]
@[simp high] theorem gV_ft (t : Tmp) (o : Oper) : gV (.bool false) t true o P T ops r Q e B H = vcO P T ops r Q (updo (upd e t (.bool false)) o.dst (.tup [])) B H := by simp [gV, gcnd]
@[simp high] theorem gV_ff (t : Tmp) (o : Oper) : gV (.bool false) t false o P T ops r Q e B H = vcO P T ops (o :: r) Q (upd e t (.bool false)) B H := by simp [gV, gcnd]
@[simp] theorem gV_u (t : Tmp) (want : Bool) (o : Oper) : gV (.tup []) t want o P T ops r Q e B H = vcO P T ops r Q (updo e o.dst (.tup [])) B H := rfl
@[simp] theorem gV_t (t : Tmp) (b : Bool) (o : Oper) : gV (.bool b) t true o P T ops r Q e B H = ifB b (vcO P T ops (o :: r) Q (upd e t (.bool true)) B H) (vcO P T ops r Q (updo (upd e t (.bool false)) o.dst (.tup [])) B H) := by simp [gV, gcnd]
@[simp] theorem gV_f (t : Tmp) (b : Bool) (o : Oper) : gV (.bool b) t false o P T ops r Q e B H = ifB b (vcO P T ops r Q (updo (upd e t (.bool true)) o.dst (.tup [])) B H) (vcO P T ops (o :: r) Q (upd e t (.bool false)) B H) := by simp [gV, gcnd]
@[simp↓] theorem vcO_guard (j : Nat) (want : Bool) (l : List Oper) : vcO P T l.toArray (⟨dst, op, ty, pos, af, some (j, want)⟩ :: r) Q e B H = gK (gl l j) want ⟨dst, op, ty, pos, af, none⟩ P T l.toArray r Q e B H := by
  rw [← gl_eq]
  conv => lhs; unfold vcO
  unfold gK
  dsimp only
  cases (l.toArray[j]?).bind (·.dst) <;> rfl
@[simp↓] theorem vcO_move (p : Operand) : vcO P T ops (⟨dst, .move p, ty, pos, af, none⟩ :: r) Q e B H = vK (some (ev e p)) P T ops r dst Q e B H := rfl
@[simp↓] theorem vcO_assign (p : Operand) : vcO P T ops (⟨dst, .assign p, ty, pos, af, none⟩ :: r) Q e B H = vK (some (ev e p)) P T ops r dst Q e B H := rfl
@[simp↓] theorem vcO_pick (c p q : Operand) : vcO P T ops (⟨dst, .pick c p q, ty, pos, af, none⟩ :: r) Q e B H = vK (pfPick (ev e c) (ev e p) (ev e q)) P T ops r dst Q e B H := rfl
@[simp↓] theorem vcO_load (t : TypeId) (p : Operand) : vcO P T ops (⟨dst, .load t p, ty, pos, af, none⟩ :: r) Q e B H = vK (pfLoad T B H t (ev e p)) P T ops r dst Q e B H := rfl
@[simp↓] theorem vcO_nilCheck (p : Operand) : vcO P T ops (⟨dst, .nilCheck p, ty, pos, af, none⟩ :: r) Q e B H = vK (if (notNil (ev e p) || bpHere B (ev e p)) = true then some (ev e p) else none) P T ops r dst Q e B H := rfl
@[simp↓] theorem vcO_binOp (bo : BinOp) (t yt : TypeId) (p q : Operand) : vcO P T ops (⟨dst, .binOp bo t p q yt, ty, pos, af, none⟩ :: r) Q e B H = vK (binL T bo t (ev e p) (ev e q)) P T ops r dst Q e B H := rfl
@[simp↓] theorem vcO_unOp (bo : UnOp) (t : TypeId) (p : Operand) : vcO P T ops (⟨dst, .unOp bo t p, ty, pos, af, none⟩ :: r) Q e B H = vK (pfUn bo (ev e p)) P T ops r dst Q e B H := rfl
@[simp↓] theorem vcO_convert (s d : TypeId) (p : Operand) : vcO P T ops (⟨dst, .convert s d p, ty, pos, af, none⟩ :: r) Q e B H = vK (pfConv T s d (ev e p)) P T ops r dst Q e B H := rfl
@[simp↓] theorem vcO_fieldAddr (s : TypeId) (p : Operand) (f : Nat) : vcO P T ops (⟨dst, .fieldAddr s p f, ty, pos, af, none⟩ :: r) Q e B H = vK (pfFieldAddr T B s (ev e p) f) P T ops r dst Q e B H := rfl
@[simp↓] theorem vcO_field (t : TypeId) (p : Operand) (f : Nat) : vcO P T ops (⟨dst, .field t p f, ty, pos, af, none⟩ :: r) Q e B H = vK (pfField T t (ev e p) f) P T ops r dst Q e B H := rfl
@[simp↓] theorem vcO_indexAddr (t : TypeId) (p i : Operand) : vcO P T ops (⟨dst, .indexAddr t p i, ty, pos, af, none⟩ :: r) Q e B H = vK (pfIndexAddr T B t (ev e p) (ev e i)) P T ops r dst Q e B H := rfl
@[simp↓] theorem vcO_index (t : TypeId) (p i : Operand) : vcO P T ops (⟨dst, .index t p i, ty, pos, af, none⟩ :: r) Q e B H = vK (pfIndex T t (ev e p) (ev e i)) P T ops r dst Q e B H := rfl
@[simp↓] theorem vcO_slice (t : TypeId) (p : Operand) (lo hi mx : Option Operand) : vcO P T ops (⟨dst, .slice t p lo hi mx, ty, pos, af, none⟩ :: r) Q e B H = vK (pfSlice T t (ev e p) (lo.map (ev e)) (hi.map (ev e)) (mx.map (ev e))) P T ops r dst Q e B H := rfl
@[simp↓] theorem vcO_extract (p : Operand) (i : Nat) : vcO P T ops (⟨dst, .extract p i, ty, pos, af, none⟩ :: r) Q e B H = vK (pfExtract (ev e p) i) P T ops r dst Q e B H := rfl
@[simp↓] theorem vcO_iface (t : TypeId) (p : Operand) : vcO P T ops (⟨dst, .makeInterface t p, ty, pos, af, none⟩ :: r) Q e B H = vK (pfIface T t (ev e p)) P T ops r dst Q e B H := rfl
@[simp↓] theorem vcO_makeFunc (fn : Fn) (fst caps : Array Operand) : vcO P T ops (⟨dst, .makeFunc fn fst caps, ty, pos, af, none⟩ :: r) Q e B H = vK (pfFunc e fn fst caps) P T ops r dst Q e B H := rfl
@[simp↓] theorem vcO_build (t : TypeId) (ps : Array (Nat × Operand)) : vcO P T ops (⟨dst, .build t ps, ty, pos, af, none⟩ :: r) Q e B H = vK (pfBuild T e t ps) P T ops r dst Q e B H := rfl
@[simp↓] theorem vcO_buildSlice (t : TypeId) (n : Nat) (ps : Array (Nat × Operand)) : vcO P T ops (⟨dst, .buildSlice t n ps, ty, pos, af, none⟩ :: r) Q e B H = vK (pfBuildSlice T e t n ps) P T ops r dst Q e B H := rfl
@[simp↓] theorem vcO_len (p : Operand) (t : TypeId) : vcO P T ops (⟨dst, .call ⟨.builtin .len, #[p], #[t]⟩, ty, pos, af, none⟩ :: r) Q e B H = vK (pfLen T H t (ev e p)) P T ops r dst Q e B H := rfl
@[simp↓] theorem vcO_cap (p : Operand) (t : TypeId) : vcO P T ops (⟨dst, .call ⟨.builtin .cap, #[p], #[t]⟩, ty, pos, af, none⟩ :: r) Q e B H = vK (pfCap T t (ev e p)) P T ops r dst Q e B H := rfl
@[simp↓] theorem vcO_min (p q : Operand) (t u : TypeId) : vcO P T ops (⟨dst, .call ⟨.builtin .min, #[p, q], #[t, u]⟩, ty, pos, af, none⟩ :: r) Q e B H = vK (pfMin (ev e p) (ev e q)) P T ops r dst Q e B H := rfl
@[simp↓] theorem vcO_max (p q : Operand) (t u : TypeId) : vcO P T ops (⟨dst, .call ⟨.builtin .max, #[p, q], #[t, u]⟩, ty, pos, af, none⟩ :: r) Q e B H = vK (pfMax (ev e p) (ev e q)) P T ops r dst Q e B H := rfl
@[simp↓] theorem vcO_call (f : Operand) (args : Array Operand) (ts : Array TypeId) : vcO P T ops (⟨dst, .call ⟨.value f, args, ts⟩, ty, pos, af, none⟩ :: r) Q e B H = clK (ev e f) (evs e args) P T ops r dst Q e B H := by
  show oneS P T ⟨dst, .call ⟨.value f, args, ts⟩, ty, pos, af, none⟩ e B H (fun x B' H' => vcO P T ops r Q (updo e dst x) B' H') = _
  simp only [oneS, callee, clK]
  cases ev e f <;> rfl
@[simp↓] theorem vcO_alloc (d : Nat) (t : TypeId) : vcO P T ops (⟨some d, .alloc t, ty, pos, af, none⟩ :: r) Q e B H = alK (T t) d P T ops r Q e B H := by
  show opS T ⟨some d, .alloc t, ty, pos, af, none⟩ e B H (fun x B' H' => vcO P T ops r Q (updo e (some d) x) B' H') = _
  unfold opS alK
  cases h : T t <;> simp [h]
@[simp↓] theorem vcO_box (d : Nat) (t : TypeId) (x : Operand) : vcO P T ops (⟨some d, .box t x, ty, pos, af, none⟩ :: r) Q e B H = bxK (lcells (ev e x)) d P T ops r Q e B H := by
  show opS T ⟨some d, .box t x, ty, pos, af, none⟩ e B H (fun x B' H' => vcO P T ops r Q (updo e (some d) x) B' H') = _
  unfold opS bxK
  cases h : lcells (ev e x) <;> simp [h]
@[simp↓] theorem vcO_store (t : TypeId) (p x : Operand) : vcO P T ops (⟨dst, .store t p x, ty, pos, af, none⟩ :: r) Q e B H = stK (T t) (lcells (ev e x)) (ev e p) P T ops r dst Q e B H := by
  show opS T ⟨dst, .store t p x, ty, pos, af, none⟩ e B H (fun x B' H' => vcO P T ops r Q (updo e dst x) B' H') = _
  unfold opS stK
  cases h : T t <;> cases h' : lcells (ev e x) <;> simp [h, h']
@[simp↓] theorem vcO_app (s x : Operand) (t tx : TypeId) : vcO P T ops (⟨dst, .call ⟨.builtin .append, #[s, x], #[t, tx]⟩, ty, pos, af, none⟩ :: r) Q e B H = apK (T t) (T tx) (ev e s) (ev e x) P T ops r dst Q e B H := by
  show opS T ⟨dst, .call ⟨.builtin .append, #[s, x], #[t, tx]⟩, ty, pos, af, none⟩ e B H (fun x B' H' => vcO P T ops r Q (updo e dst x) B' H') = _
  unfold opS apK
  cases h : T t with
  | none => simp [h]
  | some ti =>
    cases h' : T tx with
    | none => simp [h, h']
    | some tix =>
      simp [h, h']
      cases hk : ti.kind <;> simp [hk]
      rename_i el
      cases h'' : T el <;> simp [h'']
      exact fun _ => Iff.rfl
@[simp↓] theorem vcO_makeSlice (t : TypeId) (l c : Operand) : vcO P T ops (⟨dst, .makeSlice t l c, ty, pos, af, none⟩ :: r) Q e B H = mkK (T t) (ev e l) (ev e c) P T ops r dst Q e B H := by
  show opS T ⟨dst, .makeSlice t l c, ty, pos, af, none⟩ e B H (fun x B' H' => vcO P T ops r Q (updo e dst x) B' H') = _
  unfold opS mkK
  cases h : T t with
  | none => simp [h]
  | some ti => simp [h]; cases hk : ti.kind <;> simp [hk]; rfl
@[simp↓] theorem vcO_copy (s x : Operand) (t tx : TypeId) : vcO P T ops (⟨dst, .call ⟨.builtin .copy, #[s, x], #[t, tx]⟩, ty, pos, af, none⟩ :: r) Q e B H = cpK (T t) (ev e s) (ev e x) P T ops r dst Q e B H := by
  show opS T ⟨dst, .call ⟨.builtin .copy, #[s, x], #[t, tx]⟩, ty, pos, af, none⟩ e B H (fun x B' H' => vcO P T ops r Q (updo e dst x) B' H') = _
  unfold opS cpK
  cases h : T t with
  | none => simp [h]
  | some ti => obtain ⟨q, n, by_, z⟩ := ti; simp only [h]; cases q <;> rfl
@[simp↓] theorem vcO_clear (s : Operand) (t : TypeId) : vcO P T ops (⟨dst, .call ⟨.builtin .clear, #[s], #[t]⟩, ty, pos, af, none⟩ :: r) Q e B H = crK (T t) (ev e s) P T ops r dst Q e B H := by
  show opS T ⟨dst, .call ⟨.builtin .clear, #[s], #[t]⟩, ty, pos, af, none⟩ e B H (fun x B' H' => vcO P T ops r Q (updo e dst x) B' H') = _
  unfold opS crK
  cases h : T t with
  | none => simp [h]
  | some ti =>
    simp [h]; cases hk : ti.kind <;> simp [hk]
    unfold crE
    rename_i el
    cases T el <;> cases ev e s <;> try rfl
    rename_i b off len cap
    simp only
    cases h : H b with
    | none => rfl
    | some lo => cases lo <;> rfl
end

/-- A test between pieces. -/
def cK (v : LV) (t : Tmp) (x y : Code) (P : Program) (T : Tab) (ρ : Option Nat) (N : Nat) (Q : Post) (e : Env) (B : Box) (H : OHeap) : Prop :=
  cnd v (fun v => vc P T ρ N x Q (upd e t v) B H) (fun v => vc P T ρ N y Q (upd e t v) B H)
@[simp high] theorem cK_true (t : Tmp) (x y : Code) (Q : Post) : cK (.bool true) t x y P T ρ N Q e B H = vc P T ρ N x Q (upd e t (.bool true)) B H := by simp [cK]
@[simp high] theorem cK_false (t : Tmp) (x y : Code) (Q : Post) : cK (.bool false) t x y P T ρ N Q e B H = vc P T ρ N y Q (upd e t (.bool false)) B H := by simp [cK]
@[simp] theorem cK_bool (b : Bool) (t : Tmp) (x y : Code) (Q : Post) : cK (.bool b) t x y P T ρ N Q e B H = ifB b (vc P T ρ N x Q (upd e t (.bool true)) B H) (vc P T ρ N y Q (upd e t (.bool false)) B H) := rfl

/-- The end of a body. -/
def rK (x : Option LV) (Q : LV → OHeap → Prop) (H : OHeap) : Prop := ob x fun r => Ends Q r H
@[simp] theorem rK_some (x : LV) (Q : LV → OHeap → Prop) : rK (some x) Q H = Ends Q x H := rfl
@[simp] theorem rK_none (Q : LV → OHeap → Prop) : rK none Q H = False := rfl
@[simp] theorem rK_ite (c : Prop) [Decidable c] (x : Option LV) (Q : LV → OHeap → Prop) : rK (if c then x else none) Q H = (c ∧ rK x Q H) := by by_cases h : c <;> simp [h]

section
variable {Q : Post} {x y c : Code}
@[simp↓] theorem vc_skip : vc P T ρ N .skip Q e B H = Q .norm e B H := rfl
@[simp↓] theorem vc_label (l : Nat) : vc P T ρ N (.label l) Q e B H = Q .norm e B H := rfl
@[simp↓] theorem vc_exit (i : Nat) : vc P T ρ N (.exit i) Q e B H = Q (.exit i) e B H := rfl
@[simp↓] theorem vc_ret : vc P T ρ N .ret Q e B H = Q .ret e B H := rfl
@[simp↓] theorem vc_region (id : Nat) (l : List Oper) : vc P T ρ N (.region id l.toArray false) Q e B H = vcO P T l.toArray l (Q .norm) e B H := rfl
@[simp↓] theorem vc_seq : vc P T ρ N (.seq x y) Q e B H = vc P T ρ N x (After (vc P T ρ N y) Q) e B H := rfl
@[simp↓] theorem vc_cond (t : Tmp) : vc P T ρ N (.cond (.tmp t) x y) Q e B H = cK (e t) t x y P T ρ N Q e B H := rfl
theorem vc_condc (v : Value) : vc P T ρ N (.cond (.const v) x y) Q e B H = cnd (ofV v) (fun _ => vc P T ρ N x Q e B H) (fun _ => vc P T ρ N y Q e B H) := rfl
@[simp↓] theorem vc_block (id : Nat) : vc P T ρ N (.block id c) Q e B H = vc P T ρ N c (InBlock id Q) e B H := rfl
@[simp↓] theorem vc_scope : vc P T ρ N (.scope c) Q e B H = vc P T ρ N c Q e B H := rfl
@[simp↓] theorem vc_loop : vc P T ρ N (.loop c) Q e B H = WP P ρ N (.loop c) Q e B H := rfl
@[simp↓] theorem vc_rangeFunc (f : Operand) (ps : Array Tmp) : vc P T ρ N (.rangeFunc f ps x y) Q e B H = WP P ρ N (.rangeFunc f ps x y) Q e B H := rfl
@[simp↓] theorem vc_draw (id : Nat) (ops : Array Oper) : vc P T ρ N (.region id ops true) Q e B H = WP P ρ N (.region id ops true) Q e B H := rfl
@[simp↓] theorem After_norm (y : Post → Env → Box → OHeap → Prop) : After y Q .norm e B H = y Q e B H := rfl
@[simp↓] theorem After_exit (y : Post → Env → Box → OHeap → Prop) (i : Nat) : After y Q (.exit i) e B H = Q (.exit i) e B H := rfl
@[simp↓] theorem After_ret (y : Post → Env → Box → OHeap → Prop) : After y Q .ret e B H = Q .ret e B H := rfl
@[simp↓] theorem InBlock_norm (id : Nat) : InBlock id Q .norm e B H = Q .norm e B H := rfl
@[simp↓] theorem InBlock_exit (id i : Nat) : InBlock id Q (.exit i) e B H = if i = id then Q .norm e B H else Q (.exit i) e B H := rfl
@[simp↓] theorem InBlock_ret (id : Nat) : InBlock id Q .ret e B H = Q .ret e B H := rfl
@[simp↓] theorem Again_norm (I : Nat → Env → Box → OHeap → Prop) (m : Nat) : Again I m Q .norm e B H = ∃ m', m' < m ∧ I m' e B H := rfl
@[simp↓] theorem Again_exit (I : Nat → Env → Box → OHeap → Prop) (m i : Nat) : Again I m Q (.exit i) e B H = Q (.exit i) e B H := rfl
@[simp↓] theorem Again_ret (I : Nat → Env → Box → OHeap → Prop) (m : Nat) : Again I m Q .ret e B H = Q .ret e B H := rfl
@[simp↓] theorem RetQ_norm (fn : Func) (Qr : LV → OHeap → Prop) : RetQ T fn Qr .norm e B H = rK (resL T fn.results.toList e B H) Qr H := by
  simp only [RetQ, rK]; cases resL T fn.results.toList e B H <;> simp
@[simp↓] theorem RetQ_ret (fn : Func) (Qr : LV → OHeap → Prop) : RetQ T fn Qr .ret e B H = rK (resL T fn.results.toList e B H) Qr H := by
  simp only [RetQ, rK]; cases resL T fn.results.toList e B H <;> simp
@[simp↓] theorem RetQ_exit (fn : Func) (Qr : LV → OHeap → Prop) (i : Nat) : RetQ T fn Qr (.exit i) e B H = False := rfl
end

/-- What is computed once of a function. -/
def fnOk (fn : Func) (nargs : Nat) : Bool := !(fn.name == "runtime.NumGoroutine") && decide (nargs ≤ fn.ntmps) && (match fn.body with | some c => dstOk fn.ntmps c | none => false)

/-- THE CONTRACT FROM THE BODY's CONDITION. -/
theorem CallL.of_vc (hT : TOK P T) {f : FuncId} {fn : Func} {c : Code} {args : List LV} {n : Nat} {Q : LV → OHeap → Prop} (hf : P.funcs[f]? = some fn) (hb : fn.body = some c) (hok : fnOk fn n = true) (hn : args.length = n)
    (h : vc P T none fn.ntmps c (RetQ T fn Q) (argEnv args) nobox H) : CallL P f args H Q := by
  simp only [fnOk, hb, Bool.and_eq_true, decide_eq_true_eq, Bool.not_eq_true'] at hok
  exact CallL.of_WP hT hf hb hok.1.1 hok.2 (by rw [hn]; exact hok.1.2) (vc_sound hT _ _ _ _ _ h)

@[simp] theorem ev_tmp (t : Nat) : ev e (.tmp t) = e t := rfl
@[simp] theorem ev_const (v : Value) : ev e (.const v) = ofV v := rfl
@[simp] theorem ev_global (g : Nat) : ev e (.global g) = .ptr g 0 := rfl
@[simp] theorem ev_func (f : FuncId) : ev e (.func f) = .fn f [] [] := rfl
@[simp] theorem cond_bool (c a b : Bool) : (bif c then LV.bool a else LV.bool b) = LV.bool (bif c then a else b) := by cases c <;> rfl

end
end Go.Lv
