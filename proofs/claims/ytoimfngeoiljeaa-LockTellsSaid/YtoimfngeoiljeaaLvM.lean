/- Lv, part M: how simp computes what a walk sees. Over any program; no condition. -/
import Derived.Test.YtoimfngeoiljeaaLvL
namespace Go.Lv
open Go
set_option linter.unusedVariables false
set_option linter.unusedSimpArgs false

section
variable {T : Tab} {B : Box} {H : OHeap} {e : Env}

/-! ### Constants -/
@[simp] theorem ofV_bool (b : Bool) : ofV (.bool b) = .bool b := rfl
@[simp] theorem ofV_int (k : IntKind) (n : Int) : ofV (.int k n) = .int k n := rfl
@[simp] theorem ofV_str (s : ByteArray) : ofV (.string s) = .str s := rfl
@[simp] theorem ofV_nilp : ofV (.pointer none) = .nilp := rfl
@[simp] theorem ofV_nilsl : ofV (.slice none 0 0) = .nilsl := rfl
@[simp] theorem ofV_nilm : ofV (.map none) = .nilm := rfl
@[simp] theorem ofV_nilf : ofV .nilFunc = .nilf := rfl
@[simp] theorem ofV_nilif : ofV .nilIface = .nilif := rfl
@[simp] theorem ofV_agg (l : List Value) : ofV (.agg l.toArray) = .agg (l.map ofV1) := rfl
@[simp] theorem ofV_tup : ofV (.tuple (List.toArray [])) = .tup [] := rfl
@[simp] theorem ofV1_bool (b : Bool) : ofV1 (.bool b) = .bool b := rfl
@[simp] theorem ofV1_int (k : IntKind) (n : Int) : ofV1 (.int k n) = .int k n := rfl
@[simp] theorem ofV1_str (s : ByteArray) : ofV1 (.string s) = .str s := rfl
@[simp] theorem ofV1_nilp : ofV1 (.pointer none) = .nilp := rfl
@[simp] theorem ofV1_nilsl : ofV1 (.slice none 0 0) = .nilsl := rfl
@[simp] theorem ofV1_nilm : ofV1 (.map none) = .nilm := rfl
@[simp] theorem ofV1_nilf : ofV1 .nilFunc = .nilf := rfl
@[simp] theorem ofV1_nilif : ofV1 .nilIface = .nilif := rfl

/-! ### Which values are one cell, which may go anywhere -/
@[simp] theorem one_bool (b : Bool) : (LV.bool b).one = true := rfl
@[simp] theorem one_int (k : IntKind) (n : Int) : (LV.int k n).one = true := rfl
@[simp] theorem one_str (s : ByteArray) : (LV.str s).one = true := rfl
@[simp] theorem one_ptr (b o : Nat) : (LV.ptr b o).one = true := rfl
@[simp] theorem one_nilp : LV.nilp.one = true := rfl
@[simp] theorem one_sl (b o l c : Nat) : (LV.sl b o l c).one = true := rfl
@[simp] theorem one_nilsl : LV.nilsl.one = true := rfl
@[simp] theorem one_isl (f : Bool) (n : Nat) (xs : List (List LV)) : (LV.isl f n xs).one = true := rfl
@[simp] theorem one_iptr (cs : List LV) : (LV.iptr cs).one = true := rfl
@[simp] theorem one_mp (b : Nat) : (LV.mp b).one = true := rfl
@[simp] theorem one_nilm : LV.nilm.one = true := rfl
@[simp] theorem one_fn (f : FuncId) (a b : List LV) : (LV.fn f a b).one = true := rfl
@[simp] theorem one_yld (l : Nat) : (LV.yld l).one = true := rfl
@[simp] theorem one_nilf : LV.nilf.one = true := rfl
@[simp] theorem one_ifc (t : TypeId) (v : LV) : (LV.ifc t v).one = true := rfl
@[simp] theorem one_nilif : LV.nilif.one = true := rfl
@[simp] theorem one_any : LV.any.one = false := rfl
@[simp] theorem one_agg (cs : List LV) : (LV.agg cs).one = false := rfl
@[simp] theorem one_tup (cs : List LV) : (LV.tup cs).one = false := rfl
@[simp] theorem one_bp (a b c : Nat) : (LV.bp a b c).one = false := rfl
@[simp] theorem glob_bool (b : Bool) : (LV.bool b).glob = true := rfl
@[simp] theorem glob_int (k : IntKind) (n : Int) : (LV.int k n).glob = true := rfl
@[simp] theorem glob_str (s : ByteArray) : (LV.str s).glob = true := rfl
@[simp] theorem glob_ptr (b o : Nat) : (LV.ptr b o).glob = true := rfl
@[simp] theorem glob_nilp : LV.nilp.glob = true := rfl
@[simp] theorem glob_sl (b o l c : Nat) : (LV.sl b o l c).glob = true := rfl
@[simp] theorem glob_nilsl : LV.nilsl.glob = true := rfl
@[simp] theorem glob_isl (f : Bool) (n : Nat) (xs : List (List LV)) : (LV.isl f n xs).glob = true := rfl
@[simp] theorem glob_iptr (cs : List LV) : (LV.iptr cs).glob = true := rfl
@[simp] theorem glob_mp (b : Nat) : (LV.mp b).glob = true := rfl
@[simp] theorem glob_nilm : LV.nilm.glob = true := rfl
@[simp] theorem glob_fn (f : FuncId) (a b : List LV) : (LV.fn f a b).glob = true := rfl
@[simp] theorem glob_yld (l : Nat) : (LV.yld l).glob = true := rfl
@[simp] theorem glob_nilf : LV.nilf.glob = true := rfl
@[simp] theorem glob_ifc (t : TypeId) (v : LV) : (LV.ifc t v).glob = true := rfl
@[simp] theorem glob_nilif : LV.nilif.glob = true := rfl
@[simp] theorem glob_any : LV.any.glob = true := rfl
@[simp] theorem glob_agg (cs : List LV) : (LV.agg cs).glob = true := rfl
@[simp] theorem glob_tup (cs : List LV) : (LV.tup cs).glob = true := rfl
@[simp] theorem glob_bp (a b c : Nat) : (LV.bp a b c).glob = false := rfl

@[simp] theorem lcells_agg (cs : List LV) : lcells (.agg cs) = if cs.all LV.one = true then some cs else none := rfl
theorem lcells_one {x : LV} (h : x.one = true) : lcells x = some [x] := by cases x <;> first | rfl | simp at h
@[simp] theorem lcells_bool (b : Bool) : lcells (.bool b) = some [.bool b] := rfl
@[simp] theorem lcells_int (k : IntKind) (n : Int) : lcells (.int k n) = some [.int k n] := rfl
@[simp] theorem lcells_str (s : ByteArray) : lcells (.str s) = some [.str s] := rfl
@[simp] theorem lcells_ptr (b o : Nat) : lcells (.ptr b o) = some [.ptr b o] := rfl
@[simp] theorem lcells_nilp : lcells .nilp = some [.nilp] := rfl
@[simp] theorem lcells_sl (b o l c : Nat) : lcells (.sl b o l c) = some [.sl b o l c] := rfl
@[simp] theorem lcells_nilsl : lcells .nilsl = some [.nilsl] := rfl
@[simp] theorem lcells_isl (f : Bool) (n : Nat) (xs : List (List LV)) : lcells (.isl f n xs) = some [.isl f n xs] := rfl
@[simp] theorem lcells_iptr (cs : List LV) : lcells (.iptr cs) = some [.iptr cs] := rfl
@[simp] theorem lcells_mp (b : Nat) : lcells (.mp b) = some [.mp b] := rfl
@[simp] theorem lcells_nilm : lcells .nilm = some [.nilm] := rfl
@[simp] theorem lcells_fn (f : FuncId) (a b : List LV) : lcells (.fn f a b) = some [.fn f a b] := rfl
@[simp] theorem lcells_nilf : lcells .nilf = some [.nilf] := rfl
@[simp] theorem lcells_ifc (t : TypeId) (v : LV) : lcells (.ifc t v) = some [.ifc t v] := rfl
@[simp] theorem lcells_nilif : lcells .nilif = some [.nilif] := rfl
theorem cellsOf_eq (x : LV) : cellsOf x = lcells x := by cases x <;> rfl

/-! ### Arithmetic -/
variable {t : TypeId} {k : IntKind} {a b : Int}
@[simp] theorem binL_add : binL T .add t (.int k a) (.int k b) = some (.int k (k.wrap (a + b))) := by simp [binL, BinOp.isShift, binI]
@[simp] theorem binL_sub : binL T .sub t (.int k a) (.int k b) = some (.int k (k.wrap (a - b))) := by simp [binL, BinOp.isShift, binI]
@[simp] theorem binL_mul : binL T .mul t (.int k a) (.int k b) = some (.int k (k.wrap (a * b))) := by simp [binL, BinOp.isShift, binI]
@[simp] theorem binL_quo : binL T .quo t (.int k a) (.int k b) = if b = 0 then none else some (.int k (k.wrap (a.tdiv b))) := by simp [binL, BinOp.isShift, binI]
@[simp] theorem binL_rem : binL T .rem t (.int k a) (.int k b) = if b = 0 then none else some (.int k (a.tmod b)) := by simp [binL, BinOp.isShift, binI]
@[simp] theorem binL_and : binL T .and t (.int k a) (.int k b) = some (.int k (bits .and k a b)) := by simp [binL, BinOp.isShift, binI]
@[simp] theorem binL_or : binL T .or t (.int k a) (.int k b) = some (.int k (bits .or k a b)) := by simp [binL, BinOp.isShift, binI]
@[simp] theorem binL_xor : binL T .xor t (.int k a) (.int k b) = some (.int k (bits .xor k a b)) := by simp [binL, BinOp.isShift, binI]
@[simp] theorem binL_andNot : binL T .andNot t (.int k a) (.int k b) = some (.int k (bits .andNot k a b)) := by simp [binL, BinOp.isShift, binI]
@[simp] theorem binL_eql : binL T .eql t (.int k a) (.int k b) = some (.bool (decide (a = b))) := by simp [binL, BinOp.isShift, binI]
@[simp] theorem binL_neq : binL T .neq t (.int k a) (.int k b) = some (.bool (!decide (a = b))) := by simp [binL, BinOp.isShift, binI]
@[simp] theorem binL_lss : binL T .lss t (.int k a) (.int k b) = some (.bool (decide (a < b))) := by simp [binL, BinOp.isShift, binI]
@[simp] theorem binL_leq : binL T .leq t (.int k a) (.int k b) = some (.bool (decide (a ≤ b))) := by simp [binL, BinOp.isShift, binI]
@[simp] theorem binL_gtr : binL T .gtr t (.int k a) (.int k b) = some (.bool (decide (b < a))) := by simp [binL, BinOp.isShift, binI]
@[simp] theorem binL_geq : binL T .geq t (.int k a) (.int k b) = some (.bool (decide (b ≤ a))) := by simp [binL, BinOp.isShift, binI]
@[simp] theorem binL_shl {l : IntKind} : binL T .shl t (.int k a) (.int l b) = if b < 0 then none else some (.int k (k.wrap (a * 2 ^ (min b.toNat k.bits)))) := by simp [binL, BinOp.isShift, shiftI]
@[simp] theorem binL_shr {l : IntKind} : binL T .shr t (.int k a) (.int l b) = if b < 0 then none else some (.int k (a / 2 ^ (min b.toNat k.bits))) := by simp [binL, BinOp.isShift, shiftI]
@[simp] theorem binL_cat {s u : ByteArray} : binL T .add t (.str s) (.str u) = if s.size + u.size ≤ 9223372036854775807 then some (.str (s ++ u)) else none := by simp [binL, binS]
@[simp] theorem binL_seq {s u : ByteArray} : binL T .eql t (.str s) (.str u) = some (.bool (decide (s.toList = u.toList))) := by simp [binL, binS]
@[simp] theorem binL_sne {s u : ByteArray} : binL T .neq t (.str s) (.str u) = some (.bool (!decide (s.toList = u.toList))) := by simp [binL, binS]
/-- The kind of a type. -/
def kindT (T : Tab) (t : TypeId) : TK := match T t with | some ti => ti.kind | none => .other
theorem kindT_of {ti : TI} (h : T t = some ti) : kindT T t = ti.kind := by simp [kindT, h]
@[simp] theorem binL_beq {x y : Bool} : binL T .eql t (.bool x) (.bool y) = if kindT T t = .bool then some (.bool (x == y)) else none := by
  unfold binL kindT; cases T t <;> simp [eqB]
@[simp] theorem binL_bne {x y : Bool} : binL T .neq t (.bool x) (.bool y) = if kindT T t = .bool then some (.bool (!(x == y))) else none := by
  unfold binL kindT; cases T t <;> simp [eqB]
def eqK (T : Tab) (q : TK) (op : BinOp) (cs ds : List LV) : Option LV := match q with
  | .struct fs => if flatT T fs = true then (eqF T fs cs ds).bind (eqB op) else none
  | _ => none
@[simp] theorem eqK_struct (fs : List (TypeId × Nat)) (op : BinOp) (cs ds : List LV) : eqK T (.struct fs) op cs ds = if flatT T fs = true then (eqF T fs cs ds).bind (eqB op) else none := rfl
@[simp] theorem binL_agg (op : BinOp) (cs ds : List LV) : binL T op t (.agg cs) (.agg ds) = (T t).bind fun ti => eqK T ti.kind op cs ds := by
  unfold binL eqK; cases T t with
  | none => rfl
  | some ti => simp only [Option.bind_some]; cases ti.kind <;> rfl
@[simp] theorem flatT_nil : flatT T [] = true := rfl
@[simp] theorem flatT_cons (q : TypeId) (o : Nat) (fs : List (TypeId × Nat)) : flatT T ((q, o) :: fs) = ((match T q with | some fi => fi.kind.flat | none => false) && flatT T fs) := rfl
@[simp] theorem flat_int (k : IntKind) : (TK.int k).flat = true := rfl
@[simp] theorem flat_bool : TK.bool.flat = true := rfl
@[simp] theorem flat_str : TK.str.flat = true := rfl
@[simp] theorem eqF_nil (cs ds : List LV) : eqF T [] cs ds = some true := rfl
@[simp] theorem eqF_cons (q : TypeId) (o : Nat) (fs : List (TypeId × Nat)) (cs ds : List LV) : eqF T ((q, o) :: fs) cs ds = (T q).bind fun ti => (cs[o]?).bind fun x => (ds[o]?).bind fun y => (eq1 ti.kind x y).bind fun b => (eqF T fs cs ds).map (b && ·) := by
  conv => lhs; unfold eqF
  cases T q <;> cases cs[o]? <;> cases ds[o]? <;> rfl
@[simp] theorem eq1_int (k k' : IntKind) : eq1 (.int k') (.int k a) (.int k b) = some (decide (a = b)) := by simp [eq1]
@[simp] theorem eq1_bool (x y : Bool) : eq1 .bool (.bool x) (.bool y) = some (x == y) := rfl
@[simp] theorem eq1_str (x y : ByteArray) : eq1 .str (.str x) (.str y) = some (decide (x = y)) := rfl
@[simp] theorem eqB_eql (b : Bool) : eqB .eql b = some (.bool b) := rfl
@[simp] theorem eqB_neq (b : Bool) : eqB .neq b = some (.bool (!b)) := rfl
def TK.isSl : TK → Bool | .slice _ => true | _ => false
def TK.isPt : TK → Bool | .ptr _ => true | _ => false
def TK.isMp : TK → Bool | .map .. => true | _ => false
@[simp] theorem isSl_slice (e : TypeId) : (TK.slice e).isSl = true := rfl
@[simp] theorem isPt_ptr (e : TypeId) : (TK.ptr e).isPt = true := rfl
@[simp] theorem isMp_map (k e : TypeId) : (TK.map k e).isMp = true := rfl
theorem nilK_sl {x : LV} {q : TK} (h : q.isSl = true) : nilK q x = match x with | .nilsl | .sl .. | .isl .. => true | _ => false := by
  cases q <;> simp [TK.isSl] at h; cases x <;> rfl
theorem binL_nil (op : BinOp) {x y : LV} {ti : TI} {b : Bool} (ht : T t = some ti) (hx : nilK ti.kind x = true) (hy : nilK ti.kind y = true) (hc : isNilC y = true) (hb : nilB x = some b) :
    binL T op t x y = eqB op b := by
  have e1 : ∀ k a, x ≠ .int k a := fun k a h => by subst h; cases hk : ti.kind <;> simp [hk, nilK] at hx
  have e2 : ∀ s, x ≠ .str s := fun s h => by subst h; cases hk : ti.kind <;> simp [hk, nilK] at hx
  have e3 : ∀ s, x ≠ .bool s := fun s h => by subst h; cases hk : ti.kind <;> simp [hk, nilK] at hx
  unfold binL
  split
  · exact absurd rfl (e1 _ _)
  · exact absurd rfl (e2 _)
  · exact absurd rfl (e3 _)
  · rename_i cs ds; cases hk : ti.kind <;> simp [hk, nilK] at hx
  · simp [ht, hx, hy, hc, hb]
section
variable {o l c bb n : Nat} {f : Bool} {xs : List (List LV)} {z : List LV}
@[simp] theorem binL_sl_nil (h : (kindT T t).isSl = true) : binL T .eql t (.sl bb o l c) .nilsl = some (.bool false) := by
  unfold kindT at h; cases ht : T t with
  | none => simp [ht, TK.isSl] at h
  | some ti => simp only [ht] at h; rw [binL_nil .eql ht (nilK_sl h) (nilK_sl h) rfl rfl]; rfl
@[simp] theorem binL_sl_nil' (h : (kindT T t).isSl = true) : binL T .neq t (.sl bb o l c) .nilsl = some (.bool true) := by
  unfold kindT at h; cases ht : T t with
  | none => simp [ht, TK.isSl] at h
  | some ti => simp only [ht] at h; rw [binL_nil .neq ht (nilK_sl h) (nilK_sl h) rfl rfl]; rfl
@[simp] theorem binL_isl_nil (h : (kindT T t).isSl = true) : binL T .eql t (.isl f n (z :: xs)) .nilsl = some (.bool false) := by
  unfold kindT at h; cases ht : T t with
  | none => simp [ht, TK.isSl] at h
  | some ti => simp only [ht] at h; rw [binL_nil .eql ht (nilK_sl h) (nilK_sl h) rfl rfl]; rfl
@[simp] theorem binL_isl_nil' (h : (kindT T t).isSl = true) : binL T .neq t (.isl f n (z :: xs)) .nilsl = some (.bool true) := by
  unfold kindT at h; cases ht : T t with
  | none => simp [ht, TK.isSl] at h
  | some ti => simp only [ht] at h; rw [binL_nil .neq ht (nilK_sl h) (nilK_sl h) rfl rfl]; rfl
@[simp] theorem binL_nilsl_nil (h : (kindT T t).isSl = true) : binL T .eql t .nilsl .nilsl = some (.bool true) := by
  unfold kindT at h; cases ht : T t with
  | none => simp [ht, TK.isSl] at h
  | some ti => simp only [ht] at h; rw [binL_nil .eql ht (nilK_sl h) (nilK_sl h) rfl rfl]; rfl
@[simp] theorem binL_nilsl_nil' (h : (kindT T t).isSl = true) : binL T .neq t .nilsl .nilsl = some (.bool false) := by
  unfold kindT at h; cases ht : T t with
  | none => simp [ht, TK.isSl] at h
  | some ti => simp only [ht] at h; rw [binL_nil .neq ht (nilK_sl h) (nilK_sl h) rfl rfl]; rfl
theorem nilK_pt {x : LV} {q : TK} (h : q.isPt = true) : nilK q x = match x with | .nilp | .ptr .. | .iptr _ => true | _ => false := by
  cases q <;> simp [TK.isPt] at h; cases x <;> rfl
@[simp] theorem binL_ptr_nil (h : (kindT T t).isPt = true) : binL T .eql t (.ptr bb o) .nilp = some (.bool false) := by
  unfold kindT at h; cases ht : T t with
  | none => simp [ht, TK.isPt] at h
  | some ti => simp only [ht] at h; rw [binL_nil .eql ht (nilK_pt h) (nilK_pt h) rfl rfl]; rfl
@[simp] theorem binL_ptr_nil' (h : (kindT T t).isPt = true) : binL T .neq t (.ptr bb o) .nilp = some (.bool true) := by
  unfold kindT at h; cases ht : T t with
  | none => simp [ht, TK.isPt] at h
  | some ti => simp only [ht] at h; rw [binL_nil .neq ht (nilK_pt h) (nilK_pt h) rfl rfl]; rfl
@[simp] theorem binL_iptr_nil (h : (kindT T t).isPt = true) : binL T .eql t (.iptr z) .nilp = some (.bool false) := by
  unfold kindT at h; cases ht : T t with
  | none => simp [ht, TK.isPt] at h
  | some ti => simp only [ht] at h; rw [binL_nil .eql ht (nilK_pt h) (nilK_pt h) rfl rfl]; rfl
@[simp] theorem binL_iptr_nil' (h : (kindT T t).isPt = true) : binL T .neq t (.iptr z) .nilp = some (.bool true) := by
  unfold kindT at h; cases ht : T t with
  | none => simp [ht, TK.isPt] at h
  | some ti => simp only [ht] at h; rw [binL_nil .neq ht (nilK_pt h) (nilK_pt h) rfl rfl]; rfl
@[simp] theorem binL_nilp_nil (h : (kindT T t).isPt = true) : binL T .eql t .nilp .nilp = some (.bool true) := by
  unfold kindT at h; cases ht : T t with
  | none => simp [ht, TK.isPt] at h
  | some ti => simp only [ht] at h; rw [binL_nil .eql ht (nilK_pt h) (nilK_pt h) rfl rfl]; rfl
@[simp] theorem binL_nilp_nil' (h : (kindT T t).isPt = true) : binL T .neq t .nilp .nilp = some (.bool false) := by
  unfold kindT at h; cases ht : T t with
  | none => simp [ht, TK.isPt] at h
  | some ti => simp only [ht] at h; rw [binL_nil .neq ht (nilK_pt h) (nilK_pt h) rfl rfl]; rfl
end
@[simp] theorem pfUn_not (x : Bool) : pfUn .not (.bool x) = some (.bool (!x)) := rfl
@[simp] theorem pfUn_neg : pfUn .neg (.int k a) = some (.int k (k.wrap (-a))) := rfl
@[simp] theorem pfPick_bool (c : Bool) (x y : LV) : pfPick (.bool c) x y = some (bif c then x else y) := rfl
@[simp] theorem pfMin_int : pfMin (.int k a) (.int k b) = some (.int k (min a b)) := by simp [pfMin]
@[simp] theorem pfMax_int : pfMax (.int k a) (.int k b) = some (.int k (max a b)) := by simp [pfMax]
def convK (di : TK) (p : LV) : Option LV := match p with
  | .int _ n => match di with | .int k => some (.int k (k.wrap n)) | _ => none
  | .str s => if di = .str then some (.str s) else none
  | _ => none
@[simp] theorem pfConv_eq (s d : TypeId) (p : LV) : pfConv T s d p = (T s).bind fun _ => (T d).bind fun di => convK di.kind p := by
  unfold pfConv convK; cases T s <;> cases T d <;> cases p <;> simp
  rename_i di _ _; cases di.kind <;> rfl
@[simp] theorem convK_int {l : IntKind} : convK (.int k) (.int l a) = some (.int k (k.wrap a)) := rfl
@[simp] theorem convK_str (s : ByteArray) : convK .str (.str s) = some (.str s) := rfl

/-! ### Pointers, fields, elements -/
@[simp] theorem agg_bool : TK.bool.agg = false := rfl
@[simp] theorem agg_int (k : IntKind) : (TK.int k).agg = false := rfl
@[simp] theorem agg_str : TK.str.agg = false := rfl
@[simp] theorem agg_ptr (e : TypeId) : (TK.ptr e).agg = false := rfl
@[simp] theorem agg_slice (e : TypeId) : (TK.slice e).agg = false := rfl
@[simp] theorem agg_map (k e : TypeId) : (TK.map k e).agg = false := rfl
@[simp] theorem agg_func : TK.func.agg = false := rfl
@[simp] theorem agg_iface : TK.iface.agg = false := rfl
@[simp] theorem agg_arr (n : Nat) (e : TypeId) : (TK.arr n e).agg = true := rfl
@[simp] theorem agg_struct (fs : List (TypeId × Nat)) : (TK.struct fs).agg = true := rfl

@[simp] theorem cellsAt_bp (d v o : Nat) : cellsAt B H (.bp d v o) = if (B d).1 = v then (B d).2.map (·.drop o) else none := rfl
@[simp] theorem cellsAt_ptr (b o : Nat) : cellsAt B H (.ptr b o) = (cellsO (H b)).map fun x => x.1.drop o := by
  simp only [cellsAt]; cases h : H b with
  | none => simp [cellsO]
  | some lo => cases lo <;> simp [cellsO]
@[simp] theorem cellsAt_iptr (cs : List LV) : cellsAt B H (.iptr cs) = some cs := rfl
@[simp] theorem pfLoad_eq (t : TypeId) (p : LV) : pfLoad T B H t p = (T t).bind fun ti => (cellsAt B H p).bind fun cs => pick ti cs := by
  unfold pfLoad; cases T t <;> cases cellsAt B H p <;> simp
@[simp] theorem pick_agg (q : TK) (n by_ : Nat) (z cs : List LV) : pick ⟨q, n, by_, z⟩ cs = if q.agg = true then (if n ≤ cs.length then some (.agg (cs.take n)) else none) else cs.head? := rfl
@[simp] theorem ptrAdd_bp (d v o n : Nat) : ptrAdd B (.bp d v o) n = if (B d).1 = v ∧ (B d).2.isSome = true then some (.bp d v (o + n)) else none := rfl
@[simp] theorem ptrAdd_ptr (b o n : Nat) : ptrAdd B (.ptr b o) n = some (.ptr b (o + n)) := rfl
@[simp] theorem ptrAdd_iptr (cs : List LV) (n : Nat) : ptrAdd B (.iptr cs) n = if n ≤ cs.length then some (.iptr (cs.drop n)) else none := rfl
def TK.fields : TK → Option (List (TypeId × Nat)) | .struct fs => some fs | _ => none
@[simp] theorem fields_struct (fs : List (TypeId × Nat)) : (TK.struct fs).fields = some fs := rfl
@[simp] theorem pfFieldAddr_eq (s : TypeId) (p : LV) (f : Nat) : pfFieldAddr T B s p f = (T s).bind fun ti => ti.kind.fields.bind fun fs => (fs[f]?).bind fun x => (T x.1).bind fun fi => if fi.size = 0 then none else ptrAdd B p x.2 := by
  unfold pfFieldAddr; cases T s with
  | none => rfl
  | some ti =>
    simp only [Option.bind_some]
    cases ti.kind <;> simp [TK.fields]
    rename_i fs
    cases fs[f]? with
    | none => rfl
    | some x => obtain ⟨ft, off⟩ := x; simp; cases T ft <;> rfl
def aggL : LV → Option (List LV) | .agg cs => some cs | _ => none
@[simp] theorem aggL_agg (cs : List LV) : aggL (.agg cs) = some cs := rfl
@[simp] theorem pfField_eq (s : TypeId) (p : LV) (f : Nat) : pfField T s p f = (T s).bind fun ti => (aggL p).bind fun cs => ti.kind.fields.bind fun fs => (fs[f]?).bind fun x => (T x.1).bind fun fi => pick fi (cs.drop x.2) := by
  unfold pfField; cases T s with
  | none => cases p <;> rfl
  | some ti =>
    cases p <;> simp [aggL]
    cases ti.kind <;> simp [TK.fields]
    rename_i fs
    cases fs[f]? with
    | none => rfl
    | some x => obtain ⟨ft, off⟩ := x; simp; cases T ft <;> rfl
def idxS (size : Nat) (p : LV) (n : Int) : Option LV := match p with
  | .sl b off len _ => if 0 ≤ n ∧ n < len then some (.ptr b (off + n.toNat * size)) else none
  | .isl _ es xs => if 0 ≤ n ∧ es = size then (xs[n.toNat]?).map .iptr else none
  | _ => none
def idxK (T : Tab) (B : Box) (q : TK) (p i : LV) : Option LV := match i with
  | .int _ n => match q with
    | .slice el => (T el).bind fun ei => idxS ei.size p n
    | .arr m el => (T el).bind fun ei => if 0 ≤ n ∧ n < m then ptrAdd B p (n.toNat * ei.size) else none
    | _ => none
  | _ => none
@[simp] theorem idxK_slice (el : TypeId) (p : LV) : idxK T B (.slice el) p (.int k a) = (T el).bind fun ei => idxS ei.size p a := rfl
@[simp] theorem idxK_arr (m : Nat) (el : TypeId) (p : LV) : idxK T B (.arr m el) p (.int k a) = (T el).bind fun ei => if 0 ≤ a ∧ a < m then ptrAdd B p (a.toNat * ei.size) else none := rfl
@[simp] theorem idxS_sl (size bb off len cap : Nat) : idxS size (.sl bb off len cap) a = if 0 ≤ a ∧ a < len then some (.ptr bb (off + a.toNat * size)) else none := rfl
@[simp] theorem idxS_isl (size es : Nat) (f : Bool) (xs : List (List LV)) : idxS size (.isl f es xs) a = if 0 ≤ a ∧ es = size then (xs[a.toNat]?).map .iptr else none := rfl
@[simp] theorem idxS_nilsl (size : Nat) : idxS size .nilsl a = none := rfl
@[simp] theorem pfIndexAddr_eq (t : TypeId) (p i : LV) : pfIndexAddr T B t p i = (T t).bind fun ti => idxK T B ti.kind p i := by
  unfold pfIndexAddr idxK; cases T t with
  | none => rfl
  | some ti =>
    cases i <;> simp
    cases ti.kind <;> simp
    · rename_i el; cases T el with
      | none => rfl
      | some ei =>
        simp only [Option.bind_some]
        cases p <;> simp [idxS]
        split
        · split <;> simp_all
        · rfl
    · rename_i m el; cases T el <;> rfl
def idxV (T : Tab) (q : TK) (p : LV) (n : Int) : Option LV := match p with
  | .str s => if 0 ≤ n ∧ q = .str then (s.data.toList[n.toNat]?).map fun c => .int .u8 c.toNat else none
  | .agg cs => match q with
    | .arr m el => (T el).bind fun ei => if 0 ≤ n ∧ n < m then pick ei (cs.drop (n.toNat * ei.size)) else none
    | _ => none
  | _ => none
@[simp] theorem idxV_str (s : ByteArray) : idxV T .str (.str s) a = if 0 ≤ a then (s.data.toList[a.toNat]?).map fun c => .int .u8 c.toNat else none := by simp [idxV]
@[simp] theorem idxV_arr (m : Nat) (el : TypeId) (cs : List LV) : idxV T (.arr m el) (.agg cs) a = (T el).bind fun ei => if 0 ≤ a ∧ a < m then pick ei (cs.drop (a.toNat * ei.size)) else none := rfl
@[simp] theorem pfIndex_eq (t : TypeId) (p : LV) : pfIndex T t p (.int k a) = (T t).bind fun ti => idxV T ti.kind p a := by
  unfold pfIndex idxV; cases p <;> simp
  · rename_i s
    simp only [← Array.getElem?_toList]
    generalize s.data.toList[a.toNat]? = oc
    by_cases h0 : 0 ≤ a <;> cases T t <;> cases oc <;> simp [h0]
  · cases T t with
    | none => rfl
    | some ti =>
      simp only [Option.bind_some]
      cases ti.kind <;> simp
      rename_i m el; cases T el <;> rfl

/-! ### Slices -/
section
variable {len cap : Nat} {c : Int} {k' k'' : IntKind}
@[simp] theorem bnds_0 : bnds len cap none none none = some (0, len, cap) := rfl
@[simp] theorem bnds_l : bnds len cap (some (.int k a)) none none = if 0 ≤ a ∧ a ≤ len then some (a.toNat, len, cap) else none := by
  by_cases h : 0 ≤ a ∧ a ≤ len <;> simp [bnds, bnd, h]
@[simp] theorem bnds_h : bnds len cap none (some (.int k a)) none = if 0 ≤ a ∧ a ≤ cap then some (0, a.toNat, cap) else none := by
  by_cases h : 0 ≤ a ∧ a ≤ cap <;> simp [bnds, bnd, h]
@[simp] theorem bnds_lh : bnds len cap (some (.int k a)) (some (.int k' b)) none = if (0 ≤ b ∧ b ≤ cap) ∧ 0 ≤ a ∧ a ≤ b then some (a.toNat, b.toNat, cap) else none := by
  by_cases h : 0 ≤ b ∧ b ≤ cap
  · by_cases h' : 0 ≤ a ∧ a ≤ b
    · have h2 : 0 ≤ a ∧ a ≤ (b.toNat : Int) := by omega
      simp only [bnds, bnd, if_pos h, if_pos h2, if_pos (And.intro h h')]
    · have h2 : ¬ (0 ≤ a ∧ a ≤ (b.toNat : Int)) := by omega
      have h3 : ¬ ((0 ≤ b ∧ b ≤ cap) ∧ 0 ≤ a ∧ a ≤ b) := fun x => h' x.2
      simp only [bnds, bnd, if_pos h, if_neg h2, if_neg h3]
  · have h3 : ¬ ((0 ≤ b ∧ b ≤ cap) ∧ 0 ≤ a ∧ a ≤ b) := fun x => h x.1
    simp only [bnds, bnd, if_neg h, if_neg h3]
@[simp] theorem bnds_hm : bnds len cap none (some (.int k a)) (some (.int k' b)) = if (0 ≤ b ∧ b ≤ cap) ∧ 0 ≤ a ∧ a ≤ b then some (0, a.toNat, b.toNat) else none := by
  by_cases h : 0 ≤ b ∧ b ≤ cap
  · by_cases h' : 0 ≤ a ∧ a ≤ b
    · have h2 : 0 ≤ a ∧ a ≤ (b.toNat : Int) := by omega
      simp only [bnds, bnd, if_pos h, if_pos h2, if_pos (And.intro h h')]
    · have h2 : ¬ (0 ≤ a ∧ a ≤ (b.toNat : Int)) := by omega
      have h3 : ¬ ((0 ≤ b ∧ b ≤ cap) ∧ 0 ≤ a ∧ a ≤ b) := fun x => h' x.2
      simp only [bnds, bnd, if_pos h, if_neg h2, if_neg h3]
  · have h3 : ¬ ((0 ≤ b ∧ b ≤ cap) ∧ 0 ≤ a ∧ a ≤ b) := fun x => h x.1
    simp only [bnds, bnd, if_neg h, if_neg h3]
end
def slS (es : Nat) (p : LV) (lo hi mx : Option LV) : Option LV := match p with
  | .sl b off len cap => if len ≤ cap then (bnds len cap lo hi mx).map fun r => .sl b (if r.2.2 = r.1 then off else off + r.1 * es) (r.2.1 - r.1) (r.2.2 - r.1) else none
  | .isl f e xs => if e = es then (bnds xs.length xs.length lo hi mx).map fun r => .isl (if mx.isSome then decide (r.2.2 = r.2.1) else f && decide (r.2.1 = xs.length)) e ((xs.take r.2.1).drop r.1) else none
  | .nilsl => (bnds 0 0 lo hi mx).map fun _ => .nilsl
  | _ => none
def slK (T : Tab) (q : TK) (p : LV) (lo hi mx : Option LV) : Option LV := match q with
  | .str => match p, mx with
    | .str s, none => (bnds s.size s.size lo hi none).map fun r => .str (s.extract r.1 r.2.1)
    | _, _ => none
  | .slice el => (T el).bind fun ei => slS ei.size p lo hi mx
  | _ => none
@[simp] theorem slK_slice (el : TypeId) (p : LV) (lo hi mx : Option LV) : slK T (.slice el) p lo hi mx = (T el).bind fun ei => slS ei.size p lo hi mx := rfl
@[simp] theorem slK_str (s : ByteArray) (lo hi : Option LV) : slK T .str (.str s) lo hi none = (bnds s.size s.size lo hi none).map fun r => .str (s.extract r.1 r.2.1) := rfl
@[simp] theorem slS_sl (es bb off len cap : Nat) (lo hi mx : Option LV) : slS es (.sl bb off len cap) lo hi mx = if len ≤ cap then (bnds len cap lo hi mx).map fun r => .sl bb (if r.2.2 = r.1 then off else off + r.1 * es) (r.2.1 - r.1) (r.2.2 - r.1) else none := rfl
@[simp] theorem slS_isl (es e : Nat) (f : Bool) (xs : List (List LV)) (lo hi mx : Option LV) : slS es (.isl f e xs) lo hi mx = if e = es then (bnds xs.length xs.length lo hi mx).map fun r => .isl (if mx.isSome then decide (r.2.2 = r.2.1) else f && decide (r.2.1 = xs.length)) e ((xs.take r.2.1).drop r.1) else none := rfl
@[simp] theorem slS_nilsl (es : Nat) (lo hi mx : Option LV) : slS es .nilsl lo hi mx = (bnds 0 0 lo hi mx).map fun _ => .nilsl := rfl
@[simp] theorem pfSlice_eq (t : TypeId) (p : LV) (lo hi mx : Option LV) : pfSlice T t p lo hi mx = (T t).bind fun ti => slK T ti.kind p lo hi mx := by
  unfold pfSlice slK; cases T t with
  | none => rfl
  | some ti =>
    simp only [Option.bind_some]
    cases ti.kind <;> simp
    · cases p <;> simp
      rename_i s; cases mx <;> simp
      cases bnds s.size s.size lo hi none <;> rfl
    · rename_i el; cases T el with
      | none => rfl
      | some ei =>
        simp only [Option.bind_some]
        cases p <;> simp [slS]
        · rename_i b off len cap; congr 1; cases bnds len cap lo hi mx <;> rfl
        · cases bnds 0 0 lo hi mx <;> rfl
        · rename_i f es xs; congr 1; cases bnds xs.length xs.length lo hi mx <;> rfl
def lenK (H : OHeap) (q : TK) (p : LV) : Option LV := match q, p with
    | .str, .str s => some (.int .i64 s.size)
    | .arr n _, _ => some (.int .i64 n)
    | .slice _, .sl _ _ len _ => some (.int .i64 len)
    | .slice _, .isl _ _ xs => some (.int .i64 xs.length)
    | .slice _, .nilsl => some (.int .i64 0)
    | .map .., .nilm => some (.int .i64 0)
    | .map .., .mp b => match H b with
      | some (.map m) => some (.int .i64 m.length)
      | _ => none
    | _, _ => none
@[simp] theorem pfLen_eq (t : TypeId) (p : LV) : pfLen T H t p = (T t).bind fun ti => lenK H ti.kind p := by
  unfold pfLen lenK; cases T t <;> rfl
@[simp] theorem lenK_str (s : ByteArray) : lenK H .str (.str s) = some (.int .i64 s.size) := rfl
@[simp] theorem lenK_arr (n : Nat) (e : TypeId) (p : LV) : lenK H (.arr n e) p = some (.int .i64 n) := rfl
@[simp] theorem lenK_sl (e : TypeId) (b o l c : Nat) : lenK H (.slice e) (.sl b o l c) = some (.int .i64 l) := rfl
@[simp] theorem lenK_isl (e : TypeId) (f : Bool) (n : Nat) (xs : List (List LV)) : lenK H (.slice e) (.isl f n xs) = some (.int .i64 xs.length) := rfl
@[simp] theorem lenK_nilsl (e : TypeId) : lenK H (.slice e) .nilsl = some (.int .i64 0) := rfl
@[simp] theorem lenK_nilm (q e : TypeId) : lenK H (.map q e) .nilm = some (.int .i64 0) := rfl
@[simp] theorem pfExtract_tup (vs : List LV) (i : Nat) : pfExtract (.tup vs) i = vs[i]? := rfl
@[simp] theorem pfFunc_eq (g : FuncId) (fst caps : List Operand) : pfFunc e (.func g) fst.toArray caps.toArray = if ((fst.map (ev e)).all LV.glob && (caps.map (ev e)).all LV.glob) = true then some (.fn g (fst.map (ev e)) (caps.map (ev e))) else none := by
  simp [pfFunc, evs]
@[simp] theorem evs_eq (l : List Operand) : evs e l.toArray = l.map (ev e) := by simp [evs]

/-! ### Building -/
@[simp] theorem evParts_eq (l : List (Nat × Operand)) : evParts e l.toArray = l.map fun p => (p.1, ev e p.2) := by simp [evParts]
@[simp] theorem fillL_nil (pl : Nat → Option (Nat × Nat)) (cs : List LV) : fillL pl cs [] = some cs := rfl
@[simp] theorem fillL_cons (pl : Nat → Option (Nat × Nat)) (cs : List LV) (i : Nat) (x : LV) (r : List (Nat × LV)) : fillL pl cs ((i, x) :: r) = (pl i).bind fun q => (lcells x).bind fun new => if new.length = q.2 ∧ q.1 + q.2 ≤ cs.length then fillL pl (putAt cs q.1 new) r else none := by
  conv => lhs; unfold fillL
  rw [cellsOf_eq]
  cases pl i <;> cases lcells x <;> rfl
@[simp] theorem putAt_nil (cs : List LV) (o : Nat) : putAt cs o [] = cs := rfl
@[simp] theorem putAt_cons (cs : List LV) (o : Nat) (x : LV) (r : List LV) : putAt cs o (x :: r) = putAt (cs.set o x) (o + 1) r := rfl
def buildK (T : Tab) (ti : TI) (ps : List (Nat × LV)) : Option LV := match ti.kind with
  | .struct fs => if (fs.all fun f => (T f.1).isSome) = true then
        (fillL (fun i => (fs[i]?).map fun f => (f.2, ((T f.1).map (·.size)).getD 0)) ti.zero ps).map .agg else none
  | .arr _ el => (T el).bind fun ei => (fillL (fun i => some (i * ei.size, ei.size)) ti.zero ps).map .agg
  | _ => none
@[simp] theorem pfBuild_eq (t : TypeId) (ps : Array (Nat × Operand)) : pfBuild T e t ps = (T t).bind fun ti => buildK T ti (evParts e ps) := by
  unfold pfBuild buildK; cases T t with
  | none => rfl
  | some ti =>
    simp only [Option.bind_some]
    cases ti.kind <;> simp
    rename_i el; cases T el <;> rfl
@[simp] theorem buildK_struct (fs : List (TypeId × Nat)) (n by_ : Nat) (z : List LV) (ps : List (Nat × LV)) : buildK T ⟨.struct fs, n, by_, z⟩ ps = if (fs.all fun f => (T f.1).isSome) = true then
        (fillL (fun i => (fs[i]?).map fun f => (f.2, ((T f.1).map (·.size)).getD 0)) z ps).map .agg else none := rfl
@[simp] theorem buildK_arr (m : Nat) (el : TypeId) (n by_ : Nat) (z : List LV) (ps : List (Nat × LV)) : buildK T ⟨.arr m el, n, by_, z⟩ ps = (T el).bind fun ei => (fillL (fun i => some (i * ei.size, ei.size)) z ps).map .agg := rfl
def buildS (T : Tab) (q : TK) (n : Nat) (ps : List (Nat × LV)) : Option LV := match q with
  | .slice el => (T el).bind fun ei => if n * ei.size ≤ 16777216 then
          (fillL (fun i => some (i * ei.size, ei.size)) (zerosL ei.zero n) ps).map fun cells => .isl true ei.size (chunks ei.size n cells) else none
  | _ => none
@[simp] theorem buildS_slice (el : TypeId) (n : Nat) (ps : List (Nat × LV)) : buildS T (.slice el) n ps = (T el).bind fun ei => if n * ei.size ≤ 16777216 then
          (fillL (fun i => some (i * ei.size, ei.size)) (zerosL ei.zero n) ps).map fun cells => .isl true ei.size (chunks ei.size n cells) else none := rfl
@[simp] theorem pfBuildSlice_eq (t : TypeId) (n : Nat) (ps : Array (Nat × Operand)) : pfBuildSlice T e t n ps = (T t).bind fun ti => buildS T ti.kind n (evParts e ps) := by
  unfold pfBuildSlice buildS; cases T t with
  | none => rfl
  | some ti =>
    simp only [Option.bind_some]
    cases ti.kind <;> simp
    rename_i el; cases T el <;> rfl
@[simp] theorem zerosL_zero (z : List LV) : zerosL z 0 = [] := rfl
@[simp] theorem zerosL_succ (z : List LV) (n : Nat) : zerosL z (n + 1) = z ++ zerosL z n := rfl
@[simp] theorem chunks_zero (s : Nat) (cs : List LV) : chunks s 0 cs = [] := rfl
@[simp] theorem chunks_succ (s n : Nat) (cs : List LV) : chunks s (n + 1) cs = cs.take s :: chunks s n (cs.drop s) := rfl

/-! ### Results, arguments -/
@[simp] theorem argEnv_zero (x : LV) (l : List LV) : argEnv (x :: l) 0 = x := rfl
@[simp] theorem argEnv_succ (x : LV) (l : List LV) (i : Nat) : argEnv (x :: l) (i + 1) = argEnv l i := rfl
@[simp] theorem resOne_tmp (t : Tmp) : resOne T e B H (.tmp t) = if (e t).glob = true then some (e t) else none := rfl
@[simp] theorem resOne_cell (a : Tmp) (t : TypeId) : resOne T e B H (.cell a t) = pfLoad T B H t (e a) := rfl
@[simp] theorem resL_nil : resL T [] e B H = some (.tup []) := rfl
@[simp] theorem resL_one (r : ResultVar) : resL T [r] e B H = resOne T e B H r := rfl
@[simp] theorem resL_two (r s : ResultVar) : resL T [r, s] e B H = (resOne T e B H r).bind fun x => (resOne T e B H s).map fun y => .tup [x, y] := by
  unfold resL; simp only [List.mapM_cons, List.mapM_nil]; cases resOne T e B H r <;> cases resOne T e B H s <;> rfl
@[simp] theorem resL_three (r s t : ResultVar) : resL T [r, s, t] e B H = (resOne T e B H r).bind fun x => (resOne T e B H s).bind fun y => (resOne T e B H t).map fun z => .tup [x, y, z] := by
  unfold resL; simp only [List.mapM_cons, List.mapM_nil]; cases resOne T e B H r <;> cases resOne T e B H s <;> cases resOne T e B H t <;> rfl

/-! ### Stores, appends -/
@[simp] theorem srcKind_str (q : TK) (s : ByteArray) : srcKind q (.str s) = (q = .str) := rfl
@[simp] theorem srcKind_sl (e : TypeId) (b o l c : Nat) : srcKind (.slice e) (.sl b o l c) = True := by simp [srcKind]
@[simp] theorem srcKind_isl (e : TypeId) (f : Bool) (n : Nat) (xs : List (List LV)) : srcKind (.slice e) (.isl f n xs) = True := by simp [srcKind]
@[simp] theorem srcKind_nilsl (e : TypeId) : srcKind (.slice e) .nilsl = True := by simp [srcKind]

end
end Go.Lv
