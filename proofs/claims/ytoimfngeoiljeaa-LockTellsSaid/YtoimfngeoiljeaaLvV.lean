/- Lv, part V: how simp computes the condition of a drawn region. Over any program; no condition. -/
import Derived.Test.YtoimfngeoiljeaaLvU
namespace Go.Lv
open Go
set_option linter.unusedVariables false
set_option linter.unusedSimpArgs false

section
variable {P : Program} {ρ : Option Nat} {N : Nat} {T : Tab} {ops : Array Oper} {e e' : Env} {B B' : Box} {H H' : OHeap}

def vcS (P : Program) (T : Tab) (ops : Array Oper) : Plan → KPost → Env → Box → OHeap → Prop
  | [], Q, e, B, H => Q e B H
  | a :: r, Q, e, B, H => match ops[a.1]? with
    | none => False
    | some o => vcO P T ops [o] (fun e' B' H' => stab T ops e B H e' B' H' a.2 ∧ vcS P T ops r Q e' B' H') e B H

theorem vcO_one {o : Oper} {K : KPost} (h : vcO P T ops [o] K e B H) : oneG P T ops o e B H fun x B' H' => K (updo e o.dst x) B' H' := by
  unfold vcO at h
  unfold oneG gWant gsl
  cases hg : o.guard with
  | none => simp only [hg] at h ⊢; exact h
  | some g =>
    obtain ⟨j, want⟩ := g
    simp only [hg] at h ⊢
    cases ht : (ops[j]?).bind (·.dst) with
    | none => simp only [ht] at h
    | some t =>
      simp only [ht] at h ⊢
      unfold gcnd at h
      cases hv : e t <;> simp only [hv] at h ⊢
      case bool b =>
        have yes : ∀ v : Bool, b = v → oneS P T { o with guard := none } (upd e t (.bool v)) B H (fun x B' H' => vcO P T ops [] K (updo (upd e t (.bool v)) o.dst x) B' H') → oneS P T o e B H fun x B' H' => K (updo e o.dst x) B' H' := fun v hb h1 => by
          rw [upd_self (by rw [hv, hb])] at h1; exact h1
        have no : ∀ v : Bool, b = v → vcO P T ops [] K (updo (upd e t (.bool v)) o.dst (.tup [])) B H → K (updo e o.dst (.tup [])) B H := fun v hb h1 => by
          rw [upd_self (by rw [hv, hb])] at h1; exact h1
        cases b <;> cases want
        · have h1 := h.2 rfl; simp only [Bool.false_eq_true, if_false] at h1; exact yes false rfl h1
        · have h1 := h.2 rfl; simp only [if_true] at h1; exact no false rfl h1
        · have h1 := h.1 rfl; simp only [Bool.false_eq_true, if_false] at h1; exact no true rfl h1
        · have h1 := h.1 rfl; simp only [if_true] at h1; exact yes true rfl h1
      case tup vs =>
        cases vs with
        | nil => exact h
        | cons y ys => exact h.elim
      all_goals exact h.elim

theorem vcS_sound {Q : KPost} : ∀ (plan : Plan) (e : Env) (B : Box) (H : OHeap), vcS P T ops plan Q e B H → vcD P T ops plan Q e B H
  | [], e, B, H, h => h
  | a :: r, e, B, H, h => by
    unfold vcS at h
    unfold vcD
    cases ho : ops[a.1]? with
    | none => rw [ho] at h; exact h
    | some o =>
      rw [ho] at h
      exact oneG_mono (fun x B' H' hq => ⟨hq.1, vcS_sound r _ _ _ hq.2⟩) (vcO_one h)

/-- The boxes that are laid anew are given up first. -/
def delL (B : Box) : List Nat → Box
  | [] => B
  | d :: r => delL (delB B d) r
@[simp] theorem delL_nil : delL B [] = B := rfl
@[simp] theorem delL_cons (d : Nat) (r : List Nat) : delL B (d :: r) = delL (delB B d) r := rfl
theorem delBs_delL : ∀ (l : List Oper) (B : Box), delBs B l = delL B (l.filterMap aslot)
  | [], B => rfl
  | o :: r, B => by
    unfold delBs
    cases hs : aslot o with
    | some d => simp [hs, delL, delBs_delL r]
    | none => simp [hs, delBs_delL r]

theorem WP.draws (hT : TOK P T) (hm : P.follows .mixedOrders = true) {id : Nat} {Q : Post} (plan : Plan) (D : List Nat) (pm : Nat) (dels : List Nat) (hok : (drawOk T N ops plan D pm && decide (ops.toList.filterMap aslot = dels)) = true)
    (h : vcS P T ops plan (Q .norm) e (delL B dels) H) : WP P ρ N (.region id ops true) Q e B H := by
  simp only [Bool.and_eq_true, decide_eq_true_eq] at hok
  refine WP.draw hT hm plan D pm hok.1 ?_
  rw [delBs_delL, hok.2]
  exact vcS_sound _ _ _ _ h

def gop : List Oper → Nat → Option Oper
  | [], _ => none
  | o :: l, 0 => some o
  | o :: l, j + 1 => gop l j
@[simp↓] theorem gop_zero (o : Oper) (l : List Oper) : gop (o :: l) 0 = some o := rfl
@[simp↓] theorem gop_succ (o : Oper) (l : List Oper) (j : Nat) : gop (o :: l) (j + 1) = gop l j := rfl
theorem gop_eq (l : List Oper) (j : Nat) : l.toArray[j]? = gop l j := by
  induction l generalizing j with
  | nil => simp [gop]
  | cons o l ih =>
    cases j with
    | zero => simp [gop]
    | succ j => rw [gop_succ, ← ih j]; simp

def dK (P : Program) (T : Tab) (ops : Array Oper) (fl : List Nat) (e0 : Env) (B0 : Box) (H0 : OHeap) (r : Plan) (Q : KPost) : KPost := fun e B H => stab T ops e0 B0 H0 e B H fl ∧ vcS P T ops r Q e B H
@[simp↓] theorem dK_nil (e0 : Env) (B0 : Box) (H0 : OHeap) (r : Plan) (Q : KPost) : dK P T ops [] e0 B0 H0 r Q e B H = vcS P T ops r Q e B H := by simp [dK, stab]
@[simp↓] theorem dK_cons (k : Nat) (fl : List Nat) (e0 : Env) (B0 : Box) (H0 : OHeap) (r : Plan) (Q : KPost) : dK P T ops (k :: fl) e0 B0 H0 r Q e B H = (stab T ops e0 B0 H0 e B H (k :: fl) ∧ vcS P T ops r Q e B H) := rfl
def sK (o : Option Oper) (P : Program) (T : Tab) (ops : Array Oper) (fl : List Nat) (r : Plan) (Q : KPost) (e : Env) (B : Box) (H : OHeap) : Prop := match o with
  | none => False
  | some o => vcO P T ops [o] (dK P T ops fl e B H r Q) e B H
@[simp] theorem sK_some (o : Oper) (fl : List Nat) (r : Plan) (Q : KPost) : sK (some o) P T ops fl r Q e B H = vcO P T ops [o] (dK P T ops fl e B H r Q) e B H := rfl
@[simp↓] theorem vcS_nil (Q : KPost) : vcS P T ops [] Q e B H = Q e B H := rfl
@[simp↓] theorem vcS_cons (l : List Oper) (i : Nat) (fl : List Nat) (r : Plan) (Q : KPost) : vcS P T l.toArray ((i, fl) :: r) Q e B H = sK (gop l i) P T l.toArray fl r Q e B H := by
  rw [← gop_eq]
  conv => lhs; unfold vcS
  unfold sK
  cases l.toArray[i]? <;> rfl

def pvK (o : Option Oper) (T : Tab) (ops : Array Oper) (e : Env) (B : Box) (H : OHeap) (e' : Env) (B' : Box) (H' : OHeap) : Prop := match o with
  | some o => pvG T ops o e' B' H' = pvG T ops o e B H
  | none => True
@[simp] theorem pvK_some (o : Oper) : pvK (some o) T ops e B H e' B' H' = (pvG T ops o e' B' H' = pvG T ops o e B H) := rfl
@[simp↓] theorem stab_nil : stab T ops e B H e' B' H' [] = True := rfl
@[simp↓] theorem stab_cons (l : List Oper) (k : Nat) (r : List Nat) : stab T l.toArray e B H e' B' H' (k :: r) = (pvK (gop l k) T l.toArray e B H e' B' H' ∧ stab T l.toArray e B H e' B' H' r) := by
  rw [← gop_eq]
  conv => lhs; unfold stab
  unfold pvK
  cases l.toArray[k]? <;> rfl
section
variable {dst : Option Tmp} {op : Op} {ty : TypeId} {pos : String} {af : Array Edge}
@[simp↓] theorem pvG_none : pvG T ops ⟨dst, op, ty, pos, af, none⟩ e B H = pf T ⟨dst, op, ty, pos, af, none⟩ e B H := rfl
@[simp↓] theorem pvG_guard (l : List Oper) (j : Nat) (w : Bool) : pvG T l.toArray ⟨dst, op, ty, pos, af, some (j, w)⟩ e B H = (gl l j).bind fun t => match e t with
    | .bool b => if b = w then pf T ⟨dst, op, ty, pos, af, none⟩ e B H else some (.tup [])
    | .tup [] => some (.tup [])
    | _ => none := by
  rw [← gl_eq]
  unfold pvG gWant gsl
  simp only []
  cases (l.toArray[j]?).bind (·.dst) with
  | none => rfl
  | some t =>
    simp only [Option.bind_some]
    cases e t <;> try rfl
    case bool b => cases b <;> cases w <;> rfl
    case tup vs => cases vs <;> rfl
@[simp↓] theorem pf_load' (t : TypeId) (p : Operand) : pf T ⟨dst, .load t p, ty, pos, af, none⟩ e B H = pfLoad T B H t (ev e p) := rfl
@[simp↓] theorem pf_fieldAddr' (s : TypeId) (p : Operand) (f : Nat) : pf T ⟨dst, .fieldAddr s p f, ty, pos, af, none⟩ e B H = pfFieldAddr T B s (ev e p) f := rfl
@[simp↓] theorem pf_indexAddr' (s : TypeId) (p q : Operand) : pf T ⟨dst, .indexAddr s p q, ty, pos, af, none⟩ e B H = pfIndexAddr T B s (ev e p) (ev e q) := rfl
@[simp↓] theorem pf_nilCheck' (p : Operand) : pf T ⟨dst, .nilCheck p, ty, pos, af, none⟩ e B H = if (notNil (ev e p) || bpHere B (ev e p)) = true then some (ev e p) else none := rfl
@[simp↓] theorem pf_len' (p : Operand) (t : TypeId) : pf T ⟨dst, .call ⟨.builtin .len, #[p], #[t]⟩, ty, pos, af, none⟩ e B H = pfLen T H t (ev e p) := rfl
@[simp↓] theorem pf_cap' (p : Operand) (t : TypeId) : pf T ⟨dst, .call ⟨.builtin .cap, #[p], #[t]⟩, ty, pos, af, none⟩ e B H = pfCap T t (ev e p) := rfl
end
end
end Go.Lv
