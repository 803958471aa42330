/- Lv, part F: parts of results, function values, interface values, lengths, conversions, composite values; and 'pf', all operations that yield a value, in one function. Over any program; no condition. -/
import Derived.Test.YtoimfngeoiljeaaLvE
namespace Go.Lv
open Go
set_option linter.unusedVariables false
set_option linter.unusedSimpArgs false

section
variable {P : Program} {e : Env} {B : Box} {H : OHeap} {o : Oper} {x : LV}

def pfExtract (p : LV) (i : Nat) : Option LV :=
  match p with
  | .tup vs => vs[i]?
  | _ => none

theorem pf_extract {p : Operand} {i : Nat} (ho : o.op = .extract p i) (h : pfExtract (ev e p) i = some x) : Yields P o e B H x := by
  refine Yields.still fun K jj w a N g te => ?_
  have rp := te.ev p
  generalize ev e p = lp at h rp
  unfold pfExtract at h
  split at h
  · rename_i vs
    have r : R K (.tup vs) (a.eval p) := rp
    obtain ⟨us, hvs, hrs⟩ : ∃ us : List Value, a.eval p = .tuple us.toArray ∧ Rs K vs us := by
      generalize a.eval p = u at r; cases r with | tup _ us hl hh => exact ⟨us, rfl, hl, hh⟩
    obtain ⟨v, h1, h2⟩ := hrs.get h
    refine ⟨v, ?_, h2.re⟩
    simp only [execOp, ho, hvs, Instr.extract]
    refine run_value ?_
    simp [h1]
  · simp at h

theorem LV.one_bp {y : LV} (h : y.one = true) : ∀ d ver off, y ≠ .bp d ver off := by intro d ver off hy; subst hy; simp [LV.one] at h

/-- A value that is no private box's address. -/
def LV.glob : LV → Bool
  | .bp .. => false
  | _ => true
theorem LV.glob_bp {y : LV} (h : y.glob = true) : ∀ d ver off, y ≠ .bp d ver off := by intro d ver off hy; subst hy; simp [LV.glob] at h

def pfIface (T : Tab) (t : TypeId) (p : LV) : Option LV :=
  match T t with
  | some ti => if ti.kind ≠ .iface ∧ p.glob = true then some (.ifc t p) else none
  | none => none

theorem pf_iface {T : Tab} (hT : TOK P T) {t : TypeId} {p : Operand} (ho : o.op = .makeInterface t p) (h : pfIface T t (ev e p) = some x) : Yields P o e B H x := by
  refine Yields.still fun K jj w a N g te => ?_
  unfold pfIface at h
  split at h
  · rename_i ti hti
    split at h
    · rename_i hk
      simp at h; subst h
      obtain ⟨d, h1, h2⟩ := (hT t ti hti).run_und
      refine ⟨.iface t (a.eval p), ?_, R.ifc _ _ _ ((te.ev p).r (LV.glob_bp hk.2))⟩
      simp only [execOp, ho, Instr.makeInterface]
      refine run_value ?_
      simp only [Sem.run_bind, h2 w, Result.andThen_ok]
      cases d <;> first | rfl | (exact absurd h1.symm hk.1)
    · simp at h
  · simp at h

def evs (e : Env) (l : Array Operand) : List LV := l.toList.map (ev e)

theorem TE.evs {K : Know} {jj : Nat → Nat} {N : Nat} {a : Act} (te : TE K jj B N e a.tmps) {l : Array Operand} (hg : (evs e l).all LV.glob = true) : Rs K (evs e l) (l.map a.eval).toList := by
  refine ⟨by simp [Lv.evs], fun i y v hy hv => ?_⟩
  simp only [Lv.evs, List.getElem?_map] at hy
  obtain ⟨p, hp, rfl⟩ := Option.map_eq_some_iff.1 hy
  simp only [Array.toList_map, List.getElem?_map, hp, Option.map_some, Option.some.injEq] at hv
  subst hv
  exact (te.ev p).r (LV.glob_bp (List.all_eq_true.1 hg _ (List.mem_map.2 ⟨p, List.mem_of_getElem? hp, rfl⟩)))

def pfFunc (e : Env) (fn : Fn) (fst caps : Array Operand) : Option LV :=
  match fn with
  | .func f => if (evs e fst).all LV.glob = true ∧ (evs e caps).all LV.glob = true then some (.fn f (evs e fst) (evs e caps)) else none
  | _ => none

theorem pf_func {fn : Fn} {fst caps : Array Operand} (ho : o.op = .makeFunc fn fst caps) (h : pfFunc e fn fst caps = some x) : Yields P o e B H x := by
  refine Yields.still fun K jj w a N g te => ?_
  unfold pfFunc at h
  split at h
  · rename_i f
    split at h
    · rename_i hg
      simp at h; subst h
      have h1 := te.evs hg.1
      have h2 := te.evs hg.2
      refine ⟨.func (.func f) (fst.map a.eval) (caps.map a.eval), by simp [execOp, ho, Instr.makeFunc], ?_⟩
      have := R.fn f (evs e fst) (evs e caps) (fst.map a.eval).toList (caps.map a.eval).toList h1.1 h2.1 h1.2 h2.2
      rw [Array.toArray_toList, Array.toArray_toList] at this
      exact R.re this
    · simp at h
  · simp at h

/-! #### Lengths, the least, the greatest -/
def pfLen (T : Tab) (H : OHeap) (t : TypeId) (p : LV) : Option LV :=
  match T t with
  | some ti => match ti.kind, p with
    | .str, .str s => some (.int .i64 s.size)
    | .arr n _, _ => some (.int .i64 n)
    | .slice _, .sl _ _ len _ => some (.int .i64 len)
    | .slice _, .isl _ _ xs => some (.int .i64 xs.length)
    | .slice _, .nilsl => some (.int .i64 0)
    | .map .., .nilm => some (.int .i64 0)
    | .map .., .mp b => match H b with
      | some (.map m) => some (.int .i64 m.length)
      | _ => none
    | _, _ => none
  | none => none

theorem pf_len {T : Tab} (hT : TOK P T) {t : TypeId} {p : Operand} (ho : o.op = .call ⟨.builtin .len, #[p], #[t]⟩) (h : pfLen T H t (ev e p) = some x) : Yields P o e B H x := by
  refine Yields.still fun K jj w a N g te => ?_
  have rp := te.ev p
  generalize ev e p = lp at h rp
  unfold pfLen at h
  split at h
  · rename_i ti hti
    suffices hs : ∃ v, (Builtin.len_ #[t] o.type #[a.eval p]).run P w = .ok v w ∧ R K x v by
      obtain ⟨v, h1, h2⟩ := hs
      exact ⟨v, by simp [execOp, ho, resolve, invoke, builtin, h1], h2.re⟩
    have hok := hT t ti hti
    split at h
    · rename_i s hk
      simp at h; subst h
      exact ⟨_, by simp [Builtin.len_, hok.run_str hk w, rp.str]; rfl, .int _ _⟩
    · rename_i n el hk
      simp at h; subst h
      exact ⟨_, by simp [Builtin.len_, hok.run_arr hk w]; rfl, .int _ _⟩
    · rename_i el b off len cap hk
      simp at h; subst h
      have r : R K (.sl b off len cap) (a.eval p) := rp
      generalize a.eval p = u at r; cases r
      exact ⟨_, by simp [Builtin.len_, hok.run_slice hk w]; rfl, .int _ _⟩
    · rename_i el f es xs hk
      simp at h; subst h
      have r : R K (.isl f es xs) (a.eval p) := rp
      obtain ⟨A, c, ep, _⟩ := r.isl_shape
      exact ⟨_, by simp [Builtin.len_, hok.run_slice hk w, ep]; rfl, .int _ _⟩
    · rename_i el hk
      simp at h; subst h
      have r : R K .nilsl (a.eval p) := rp
      generalize a.eval p = u at r; cases r
      exact ⟨_, by simp [Builtin.len_, hok.run_slice hk w]; rfl, .int _ _⟩
    · rename_i k el hk
      simp at h; subst h
      have r : R K .nilm (a.eval p) := rp
      generalize a.eval p = u at r; cases r
      exact ⟨_, by simp [Builtin.len_, hok.run_map hk w]; rfl, .int _ _⟩
    · rename_i k el b hk
      split at h
      · rename_i m hm
        simp at h; subst h
        have r : R K (.mp b) (a.eval p) := rp
        generalize a.eval p = u at r; cases r
        obtain ⟨es, clock, h1, h2, _⟩ := g.own b _ hm
        exact ⟨_, by simp [Builtin.len_, hok.run_map hk w, getObj, Sem.run, h1]; rfl, by rw [← h2]; exact .int _ _⟩
      · simp at h
    · simp at h
  · simp at h

def pfCap (T : Tab) (t : TypeId) (p : LV) : Option LV :=
  match T t with
  | some ti => match ti.kind, p with
    | .arr n _, _ => some (.int .i64 n)
    | .slice _, .sl _ _ _ cap => some (.int .i64 cap)
    | .slice _, .isl true _ xs => some (.int .i64 xs.length)
    | .slice _, .nilsl => some (.int .i64 0)
    | _, _ => none
  | none => none

theorem pf_cap {T : Tab} (hT : TOK P T) {t : TypeId} {p : Operand} (ho : o.op = .call ⟨.builtin .cap, #[p], #[t]⟩) (h : pfCap T t (ev e p) = some x) : Yields P o e B H x := by
  refine Yields.still fun K jj w a N g te => ?_
  have rp := te.ev p
  generalize ev e p = lp at h rp
  unfold pfCap at h
  split at h
  · rename_i ti hti
    suffices hs : ∃ v, (Builtin.cap_ #[t] o.type #[a.eval p]).run P w = .ok v w ∧ R K x v by
      obtain ⟨v, h1, h2⟩ := hs
      exact ⟨v, by simp [execOp, ho, resolve, invoke, builtin, h1], h2.re⟩
    have hok := hT t ti hti
    split at h
    · rename_i n el hk
      simp at h; subst h
      exact ⟨_, by simp [Builtin.cap_, hok.run_arr hk w]; rfl, .int _ _⟩
    · rename_i el b off len cap hk
      simp at h; subst h
      have r : R K (.sl b off len cap) (a.eval p) := rp
      generalize a.eval p = u at r; cases r
      exact ⟨_, by simp [Builtin.cap_, hok.run_slice hk w]; rfl, .int _ _⟩
    · rename_i el es xs hk
      simp at h; subst h
      have r : R K (.isl true es xs) (a.eval p) := rp
      obtain ⟨A, c, ep, _, hc⟩ := r.isl_shape
      rw [← hc rfl]
      exact ⟨_, by simp [Builtin.cap_, hok.run_slice hk w, ep]; rfl, .int _ _⟩
    · rename_i el hk
      simp at h; subst h
      have r : R K .nilsl (a.eval p) := rp
      generalize a.eval p = u at r; cases r
      exact ⟨_, by simp [Builtin.cap_, hok.run_slice hk w]; rfl, .int _ _⟩
    · simp at h
  · simp at h

def pfMin (p q : LV) : Option LV :=
  match p, q with
  | .int k a, .int l b => if k = l then some (.int k (min a b)) else none
  | _, _ => none
def pfMax (p q : LV) : Option LV :=
  match p, q with
  | .int k a, .int l b => if k = l then some (.int k (max a b)) else none
  | _, _ => none

theorem pf_min {t u : TypeId} {p q : Operand} (ho : o.op = .call ⟨.builtin .min, #[p, q], #[t, u]⟩) (h : pfMin (ev e p) (ev e q) = some x) : Yields P o e B H x := by
  refine Yields.still fun K jj w a N g te => ?_
  have rp := te.ev p
  have rq := te.ev q
  generalize ev e p = lp at h rp
  generalize ev e q = lq at h rq
  unfold pfMin at h
  split at h
  · split at h
    · rename_i k y l z hkl
      simp at h; subst h; subst hkl
      refine ⟨.int k (min y z), ?_, R.int _ _⟩
      simp [execOp, ho, resolve, invoke, builtin, Builtin.min_, rp.int, rq.int, Builtin.min2]
      by_cases hlt : z < y
      · rw [if_pos hlt]; omega
      · rw [if_neg hlt]; omega
    · simp at h
  · simp at h

theorem pf_max {t u : TypeId} {p q : Operand} (ho : o.op = .call ⟨.builtin .max, #[p, q], #[t, u]⟩) (h : pfMax (ev e p) (ev e q) = some x) : Yields P o e B H x := by
  refine Yields.still fun K jj w a N g te => ?_
  have rp := te.ev p
  have rq := te.ev q
  generalize ev e p = lp at h rp
  generalize ev e q = lq at h rq
  unfold pfMax at h
  split at h
  · split at h
    · rename_i k y l z hkl
      simp at h; subst h; subst hkl
      refine ⟨.int k (max y z), ?_, R.int _ _⟩
      simp [execOp, ho, resolve, invoke, builtin, Builtin.max_, rp.int, rq.int, Builtin.max2]
      by_cases hlt : z > y
      · rw [if_pos hlt]; omega
      · rw [if_neg hlt]; omega
    · simp at h
  · simp at h

/-! #### Conversions, one operand -/
def pfConv (T : Tab) (s d : TypeId) (p : LV) : Option LV :=
  match T s, T d, p with
  | some _, some di, .int _ n => match di.kind with
    | .int k => some (.int k (k.wrap n))
    | _ => none
  | some _, some di, .str s => if di.kind = .str then some (.str s) else none
  | _, _, _ => none

theorem pf_conv {T : Tab} (hT : TOK P T) {s d : TypeId} {p : Operand} (ho : o.op = .convert s d p) (h : pfConv T s d (ev e p) = some x) : Yields P o e B H x := by
  refine Yields.still fun K jj w a N g te => ?_
  have rp := te.ev p
  generalize ev e p = lp at h rp
  unfold pfConv at h
  split at h
  · rename_i si di k' n hs hd
    split at h
    · rename_i k hk
      simp at h; subst h
      obtain ⟨ds, _, h2⟩ := (hT s si hs).run_und
      refine ⟨.int k (k.wrap n), ?_, R.int _ _⟩
      simp only [execOp, ho, rp.int]
      refine run_value ?_
      simp [convert, h2 w, (hT d di hd).run_int hk w, Conv.intToInt]
    · simp at h
  · rename_i si di str hs hd
    split at h
    · rename_i hk
      simp at h; subst h
      obtain ⟨ds, _, h2⟩ := (hT s si hs).run_und
      refine ⟨.string str, ?_, R.str _⟩
      simp only [execOp, ho, rp.str]
      refine run_value ?_
      simp [convert, h2 w, (hT d di hd).run_str hk w]
    · simp at h
  · simp at h

def pfUn (op : UnOp) (p : LV) : Option LV :=
  match op, p with
  | .not, .bool b => some (.bool (!b))
  | .neg, .int k n => some (.int k (k.wrap (-n)))
  | _, _ => none

theorem pf_un {op : UnOp} {t : TypeId} {p : Operand} (ho : o.op = .unOp op t p) (h : pfUn op (ev e p) = some x) : Yields P o e B H x := by
  refine Yields.still fun K jj w a N g te => ?_
  have rp := te.ev p
  generalize ev e p = lp at h rp
  unfold pfUn at h
  split at h
  · simp at h; subst h
    refine ⟨_, ?_, R.bool _⟩
    simp only [execOp, ho, rp.bool]
    rfl
  · simp at h; subst h
    refine ⟨_, ?_, R.int _ _⟩
    simp only [execOp, ho, rp.int]
    refine run_value ?_
    simp [Op.unary, Op.intArith]
  · simp at h

/-! #### Composite values -/
def cellsOf : LV → Option (List LV)
  | .agg cs => if cs.all LV.one = true then some cs else none
  | x => if x.one = true then some [x] else none

theorem cellsOf_ok {K : Know} {jj : Nat → Nat} {y : LV} {v : Value} {cs : List LV} (r : RE K jj B y v) (h : cellsOf y = some cs) : Rs K cs v.cells.toList ∧ (∀ c ∈ cs, c.one = true) := by
  unfold cellsOf at h
  split at h
  · split at h
    · rename_i l ha
      simp at h; subst h
      have r' : R K (.agg l) v := r
      cases r' with | agg _ vs hl hh => exact ⟨⟨by simpa [Value.cells] using hl, by simpa [Value.cells] using hh⟩, List.all_eq_true.1 ha⟩
    · simp at h
  · split at h
    · rename_i ho
      simp at h; subst h
      have r' := r.r (LV.one_bp ho)
      have hc := r'.oneCell ho
      have : v.cells.toList = [v] := by cases v <;> first | rfl | simp [Value.oneCell'] at hc
      rw [this]
      exact ⟨(Rs.nil K).cons r', fun c hc => by simp at hc; subst hc; exact ho⟩
    · simp at h

def putAt (cs : List LV) (off : Nat) : List LV → List LV
  | [] => cs
  | x :: r => putAt (cs.set off x) (off + 1) r
def putAtV (vs : List Value) (off : Nat) : List Value → List Value
  | [] => vs
  | x :: r => putAtV (vs.set off x) (off + 1) r

theorem putAt_length (new : List LV) : ∀ (cs : List LV) (off : Nat), (putAt cs off new).length = cs.length := by
  induction new with
  | nil => intro cs off; rfl
  | cons x r ih => intro cs off; simp [putAt, ih]
theorem Rs.putAt {K : Know} {new : List LV} : ∀ {cs : List LV} {vs us : List Value} {off : Nat}, Rs K cs vs → Rs K new us → Rs K (Lv.putAt cs off new) (putAtV vs off us) := by
  induction new with
  | nil =>
    intro cs vs us off h h'
    cases us with
    | nil => exact h
    | cons u us => have := h'.1; simp at this
  | cons x r ih =>
    intro cs vs us off h h'
    cases us with
    | nil => have := h'.1; simp at this
    | cons u us => exact ih (h.set off h'.head) h'.tail

theorem foldl_putAtV (us : List Value) : ∀ (arr : Array Value) (off k : Nat), (us.zipIdx k).foldl (fun cs (p : Value × Nat) => cs.setIfInBounds (off + p.2) p.1) arr = (putAtV arr.toList (off + k) us).toArray := by
  induction us with
  | nil => intro arr off k; simp [putAtV]
  | cons u us ih =>
    intro arr off k
    simp only [List.zipIdx_cons, List.foldl_cons, putAtV]
    rw [ih]
    simp [Nat.add_assoc]

/-- The cells of a composite value: zeros, overwritten part by part. -/
def fillL (place : Nat → Option (Nat × Nat)) (cells : List LV) : List (Nat × LV) → Option (List LV)
  | [] => some cells
  | (i, x) :: rest => match place i, cellsOf x with
    | some (off, size), some new => if new.length = size ∧ off + size ≤ cells.length then fillL place (putAt cells off new) rest else none
    | _, _ => none

theorem fillL_ok {K : Know} {jj : Nat → Nat} {place : Nat → Option (Nat × Nat)} : ∀ {parts : List (Nat × LV)} {vparts : List (Nat × Value)} {cells out : List LV} {arr : Array Value}, Rs K cells arr.toList → (∀ c ∈ cells, c.one = true) →
    vparts.length = parts.length → (∀ (i : Nat) p q, parts[i]? = some p → vparts[i]? = some q → q.1 = p.1 ∧ RE K jj B p.2 q.2) → fillL place cells parts = some out →
    ∃ arr', Instr.fill place arr vparts = some arr' ∧ Rs K out arr'.toList ∧ (∀ c ∈ out, c.one = true) ∧ out.length = cells.length
  | [], vparts, cells, out, arr, hr, ho, hl, _, h => by
    have : vparts = [] := by simpa using hl
    subst this
    simp [fillL] at h; subst h
    exact ⟨arr, by simp [Instr.fill], hr, ho, rfl⟩
  | (i, x) :: parts, [], cells, out, arr, hr, ho, hl, _, h => by simp at hl
  | (i, x) :: parts, (i', v) :: vparts, cells, out, arr, hr, ho, hl, hp, h => by
    obtain ⟨hi, hrx⟩ := hp 0 (i, x) (i', v) rfl rfl
    simp only at hi hrx
    subst hi
    simp only [fillL] at h
    split at h
    · rename_i off size new hpl hnew
      split at h
      · rename_i hc
        obtain ⟨hrn, hon⟩ := cellsOf_ok hrx hnew
        have hr' : Rs K (putAt cells off new) (v.cells.zipIdx.foldl (fun cs (p : Value × Nat) => cs.setIfInBounds (off + p.2) p.1) arr).toList := by
          have e1 : v.cells.zipIdx.foldl (fun cs (p : Value × Nat) => cs.setIfInBounds (off + p.2) p.1) arr = (putAtV arr.toList off v.cells.toList).toArray := by
            rw [← Array.foldl_toList, Array.toList_zipIdx, foldl_putAtV]; rfl
          rw [e1]
          exact hr.putAt hrn
        have ho' : ∀ c ∈ putAt cells off new, c.one = true := by
          clear hr' hr h hp hnew hpl hc hrn
          induction new generalizing cells off with
          | nil => exact ho
          | cons y r ih =>
            refine ih (cells := cells.set off y) (off := off + 1) (fun c hc => ?_) (fun c hc => hon c (List.mem_cons_of_mem _ hc))
            rcases List.mem_or_eq_of_mem_set hc with h1 | h1
            · exact ho c h1
            · rw [h1]; exact hon y (List.mem_cons_self ..)
        obtain ⟨arr', h1, h2, h3, h4⟩ := fillL_ok hr' ho' (by simpa using hl) (fun j p q hj hq => hp (j + 1) p q (by simpa using hj) (by simpa using hq)) h
        refine ⟨arr', ?_, h2, h3, by rw [h4, putAt_length]⟩
        have hsz : v.cells.size = size := by rw [← Array.length_toList, hrn.1, hc.1]
        have hac : arr.size = cells.length := by rw [← Array.length_toList, hr.1]
        simp only [Instr.fill, hpl]
        rw [if_neg (by simp; omega)]
        exact h1
      · simp at h
    · simp at h

def evParts (e : Env) (ps : Array (Nat × Operand)) : List (Nat × LV) := ps.toList.map fun p => (p.1, ev e p.2)

theorem TE.parts {K : Know} {jj : Nat → Nat} {N : Nat} {a : Act} (te : TE K jj B N e a.tmps) (ps : Array (Nat × Operand)) :
    ((ps.map fun (i, x) => (i, a.eval x)).toList).length = (evParts e ps).length ∧
    ∀ (i : Nat) p q, (evParts e ps)[i]? = some p → ((ps.map fun (i, x) => (i, a.eval x)).toList)[i]? = some q → q.1 = p.1 ∧ RE K jj B p.2 q.2 := by
  refine ⟨by simp [evParts], fun i p q hp hq => ?_⟩
  simp only [evParts, List.getElem?_map] at hp
  obtain ⟨r, hr, rfl⟩ := Option.map_eq_some_iff.1 hp
  simp only [Array.toList_map, List.getElem?_map, hr, Option.map_some, Option.some.injEq] at hq
  subst hq
  exact ⟨rfl, te.ev r.2⟩

theorem run_places {T : Tab} (hT : TOK P T) (w : World) : ∀ (fields : List Field), (fields.all fun f => (T f.type).isSome) = true →
    (fields.mapM fun f => (do pure (f.offset, ← sizeOf f.type) : Sem (Nat × Nat))).run P w = .ok (fields.map fun f => (f.offset, ((T f.type).map (·.size)).getD 0)) w
  | [], _ => by simp
  | f :: fields, h => by
    simp only [List.all_cons, Bool.and_eq_true] at h
    obtain ⟨ti, hti⟩ := Option.isSome_iff_exists.1 h.1
    have ih := run_places hT w fields h.2
    simp only [bind_pure_comp] at ih
    simp [(hT _ ti hti).run_size w, ih, hti]

def pfBuild (T : Tab) (e : Env) (t : TypeId) (ps : Array (Nat × Operand)) : Option LV :=
  match T t with
  | some ti => match ti.kind with
    | .struct fs => if (fs.all fun f => (T f.1).isSome) = true then
        (fillL (fun i => (fs[i]?).map fun f => (f.2, ((T f.1).map (·.size)).getD 0)) ti.zero (evParts e ps)).map .agg else none
    | .arr _ el => match T el with
      | some ei => (fillL (fun i => some (i * ei.size, ei.size)) ti.zero (evParts e ps)).map .agg
      | none => none
    | _ => none
  | none => none

theorem pf_build {T : Tab} (hT : TOK P T) {t : TypeId} {ps : Array (Nat × Operand)} (ho : o.op = .build t ps) (h : pfBuild T e t ps = some x) : Yields P o e B H x := by
  refine Yields.still fun K jj w a N g te => ?_
  unfold pfBuild at h
  split at h
  · rename_i ti hti
    have hok := hT t ti hti
    obtain ⟨z, hz, hzr, _, _, _, hone⟩ := hok.run_zero K
    obtain ⟨hl, hp⟩ := te.parts ps
    split at h
    · rename_i fs hk
      split at h
      · rename_i hall
        obtain ⟨cells, hf, rfl⟩ := Option.map_eq_some_iff.1 h
        obtain ⟨fields, h1, h2⟩ := hok.run_struct hk
        obtain ⟨arr', h3, h4, _⟩ := fillL_ok hzr hone hl hp hf
        refine ⟨.agg arr', ?_, R.re (by have := R.agg cells arr'.toList h4.1 h4.2; rwa [Array.toArray_toList] at this)⟩
        simp only [execOp, ho, Instr.build]
        refine run_value ?_
        have hall' : (fields.toList.all fun f => (T f.type).isSome) = true := by
          rw [← h1] at hall; simpa [List.all_map] using hall
        have hpl := run_places hT w fields.toList hall'
        simp only [Sem.run_bind, hz w, Result.andThen_ok, h2 w]
        rw [Array.mapM_eq_mapM_toList, Sem.run_map, hpl]
        simp only [Result.andThen_ok]
        have hpf : (fun x => (List.map (fun f => (f.offset, (Option.map (fun x => x.size) (T f.type)).getD 0)) fields.toList).toArray[x]?) =
            (fun (i : Nat) => Option.map (fun (f : TypeId × Nat) => (f.2, (Option.map (fun x => x.size) (T f.1)).getD 0)) fs[i]?) := by
          funext i
          rw [← h1]
          simp
          rfl
        rw [hpf]
        have h3' : Instr.fill (fun (i : Nat) => Option.map (fun (f : TypeId × Nat) => (f.2, (Option.map (fun x => x.size) (T f.1)).getD 0)) fs[i]?) z.cells (Array.map (fun x => (x.1, a.eval x.2)) ps).toList = some arr' := h3
        rw [h3']
        rfl
      · simp at h
    · rename_i n el hk
      split at h
      · rename_i ei hei
        obtain ⟨cells, hf, rfl⟩ := Option.map_eq_some_iff.1 h
        obtain ⟨arr', h3, h4, _⟩ := fillL_ok hzr hone hl hp hf
        refine ⟨.agg arr', ?_, R.re (by have := R.agg cells arr'.toList h4.1 h4.2; rwa [Array.toArray_toList] at this)⟩
        simp only [execOp, ho, Instr.build]
        refine run_value ?_
        simp only [Sem.run_bind, hz w, Result.andThen_ok, hok.run_arr hk w, (hT el ei hei).run_size w]
        simp only [h3]
        rfl
      · simp at h
    · simp at h
  · simp at h

/-! #### A new block that is sealed at once -/
def sealNew (K : Know) (b : Nat) (arr : Array Value) : Know := fun b' o => if b' = b then arr[o]? else K b' o

theorem sealNew_le {K : Know} {jj : Nat → Nat} {w : World} (g : Good K jj B H w) (arr : Array Value) : K.le (sealNew K w.heap.size arr) := by
  intro b o v hv
  have := g.klt hv
  simp [sealNew, Nat.ne_of_lt this, hv]

theorem heap_alloc_lt (w : World) (ob : Obj) {b : Nat} (h : b < w.heap.size) : (w.alloc ob).heap[b]? = w.heap[b]? := by
  show (w.heap.push ob)[b]? = _
  rw [Array.getElem?_push, if_neg (by omega)]
theorem heap_alloc_new (w : World) (ob : Obj) : (w.alloc ob).heap[w.heap.size]? = some ob := by
  show (w.heap.push ob)[w.heap.size]? = _
  simp

/-- A new block turns nothing that is owned. -/
theorem Good.alloc {K : Know} {jj : Nat → Nat} {w : World} (g : Good K jj B H w) (ob : Obj) : Good K jj B H (w.alloc ob) := {
  know b o v h := by rw [World.cell?_alloc_lt _ _ _ (g.klt h)]; exact g.know b o v h
  own b o h := (g.own b o h).same (heap_alloc_lt w ob (g.own b o h).lt)
  apart := g.apart
  box d ver cs h := (g.box d ver cs h).same (heap_alloc_lt w ob (g.box d ver cs h).lt)
  boxH := g.boxH
  boxne := g.boxne }

theorem Fr.alloc {D : Nat → Prop} {w : World} {K : Know} (ob : Obj) : Fr D w K D (w.alloc ob) K :=
  ⟨rfl, rfl, rfl, by simp, fun b hb _ => heap_alloc_lt w ob hb, K.le_refl, fun _ _ h h' => absurd h h', fun _ h => .inl h⟩

theorem Good.sealNew {K : Know} {jj : Nat → Nat} {w : World} (g : Good K jj B H w) (arr : Array Value) (T : TypeId) (fz : Nat × Nat) : Good (Lv.sealNew K w.heap.size arr) jj B H (w.alloc (.cells arr T fz)) := by
  have ga := g.alloc (.cells arr T fz)
  have hle := sealNew_le g arr
  refine ⟨fun b o v h => ?_, fun b o h => (ga.own b o h).mono hle, fun b o h => ?_, fun d ver cs h => (ga.box d ver cs h).mono hle, g.boxH, g.boxne⟩
  · unfold Lv.sealNew at h
    split at h
    · rename_i hb; subst hb
      unfold World.cell?
      rw [heap_alloc_new]
      exact h
    · exact ga.know b o v h
  · have := g.lt h
    simp [Lv.sealNew, Nat.ne_of_lt this, g.apart b o h]

theorem Fr.sealNew {K : Know} {jj : Nat → Nat} {w : World} (g : Good K jj B H w) (arr : Array Value) (T : TypeId) (fz : Nat × Nat) : Fr (dom H B jj) w K (dom H B jj) (w.alloc (.cells arr T fz)) (Lv.sealNew K w.heap.size arr) :=
  ⟨rfl, rfl, rfl, by simp, fun b hb _ => heap_alloc_lt w _ hb, sealNew_le g arr, fun b o h h' => by
    unfold Lv.sealNew at h'
    split at h'
    · rename_i hb; subst hb; exact .inr (Nat.le_refl _)
    · exact absurd h h', fun _ h => .inl h⟩

/-- A row of cells as elements of so many cells each. -/
def chunks (size : Nat) : Nat → List LV → List (List LV)
  | 0, _ => []
  | n + 1, cs => cs.take size :: chunks size n (cs.drop size)

theorem chunks_length (size n : Nat) (cs : List LV) : (chunks size n cs).length = n := by
  induction n generalizing cs with
  | zero => rfl
  | succ n ih => simp [chunks, ih]

theorem chunks_get {size n : Nat} {cs : List LV} (hl : cs.length = n * size) {i : Nat} {y : List LV} (h : (chunks size n cs)[i]? = some y) :
    i < n ∧ y.length = size ∧ ∀ j z, y[j]? = some z → cs[i * size + j]? = some z := by
  induction n generalizing cs i with
  | zero => simp [chunks] at h
  | succ n ih =>
    have hl' : cs.length = n * size + size := by rw [hl, Nat.succ_mul]
    cases i with
    | zero =>
      simp [chunks] at h; subst h
      refine ⟨by omega, by simp; omega, fun j z hz => ?_⟩
      rw [List.getElem?_take] at hz
      split at hz
      · simpa using hz
      · simp at hz
    | succ i =>
      simp only [chunks, List.getElem?_cons_succ] at h
      obtain ⟨h1, h2, h3⟩ := ih (cs := cs.drop size) (by simp; omega) h
      refine ⟨by omega, h2, fun j z hz => ?_⟩
      have := h3 j z hz
      rw [List.getElem?_drop] at this
      rwa [show (i + 1) * size + j = size + (i * size + j) by rw [Nat.succ_mul]; omega]

/-- What is sealed reads as a slice. -/
theorem R.chunks {K : Know} {b off size n c : Nat} {cs : List LV} {vs : List Value} (hl : cs.length = n * size) (hr : Rs K cs vs) (hK : ∀ (i : Nat) v, vs[i]? = some v → K b (off + i) = some v) (f : Bool) (hc : n ≤ c) (hf : f = true → c = n) :
    R K (.isl f size (Lv.chunks size n cs)) (.slice (some ⟨b, off, none⟩) n c) := by
  have hlen := chunks_length size n cs
  have := R.isl (K := K) f size (Lv.chunks size n cs) b off c (fun i j => (vs[i * size + j]?).getD undef) (by omega) (by intro h; rw [hlen]; exact hf h)
    (fun x hx => by obtain ⟨i, hi, rfl⟩ := List.getElem_of_mem hx; exact (chunks_get hl (List.getElem?_eq_getElem hi)).2.1)
    (fun i j x y hx hy => by
      obtain ⟨_, _, h3⟩ := chunks_get hl hx
      obtain ⟨v, h4, _⟩ := hr.get (h3 j y hy)
      rw [h4, Nat.add_assoc]; exact hK _ _ h4)
    (fun i j x y hx hy => by
      obtain ⟨_, _, h3⟩ := chunks_get hl hx
      obtain ⟨v, h4, h5⟩ := hr.get (h3 j y hy)
      rw [h4]; exact h5)
  rwa [hlen] at this

def zerosL (zero : List LV) : Nat → List LV
  | 0 => []
  | n + 1 => zero ++ zerosL zero n

theorem zerosL_length (zero : List LV) (n : Nat) : (zerosL zero n).length = n * zero.length := by
  induction n with
  | zero => simp [zerosL]
  | succ n ih => simp [zerosL, ih, Nat.succ_mul]; omega
theorem zerosL_one {zero : List LV} (h : ∀ x ∈ zero, x.one = true) (n : Nat) : ∀ x ∈ zerosL zero n, x.one = true := by
  induction n with
  | zero => intro x hx; simp [zerosL] at hx
  | succ n ih =>
    intro x hx
    simp only [zerosL, List.mem_append] at hx
    exact hx.elim (h x) (ih x)

theorem zerosL_get {zero : List LV} (n : Nat) : ∀ {i : Nat} {x : LV}, (zerosL zero n)[i]? = some x → 0 < zero.length ∧ zero[i % zero.length]? = some x := by
  induction n with
  | zero => intro i x h; simp [zerosL] at h
  | succ n ih =>
    intro i x h
    simp only [zerosL] at h
    rcases Nat.lt_or_ge i zero.length with hi | hi
    · rw [List.getElem?_append_left hi] at h
      exact ⟨by omega, by rw [Nat.mod_eq_of_lt hi]; exact h⟩
    · rw [List.getElem?_append_right hi] at h
      obtain ⟨h1, h2⟩ := ih h
      refine ⟨h1, ?_⟩
      rw [← Nat.sub_add_cancel hi, Nat.add_mod_right]
      exact h2

/-- The model's row of zeros. -/
theorem Rs.zeros {K : Know} {zero : List LV} {z : Array Value} (h : Rs K zero z.toList) (n : Nat) (hn : n * zero.length ≠ 0 ∨ True) :
    Rs K (zerosL zero n) (((Array.range (n * zero.length)).map (z[· % z.size]!)).toList) := by
  have hz : z.size = zero.length := by rw [← Array.length_toList, h.1]
  refine ⟨by simp [zerosL_length], fun i x v hx hv => ?_⟩
  obtain ⟨h0, h1⟩ := zerosL_get n hx
  obtain ⟨u, h2, h3⟩ := h.get h1
  simp only [Array.toList_map, List.getElem?_map, Array.toList_range] at hv
  obtain ⟨k, hk, rfl⟩ := Option.map_eq_some_iff.1 hv
  rw [List.getElem?_range (by have := (List.getElem?_eq_some_iff.1 hk).1; simpa using this)] at hk
  simp at hk; subst hk
  have hlt : i % z.size < z.size := Nat.mod_lt _ (by omega)
  have e : z[i % z.size]! = u := by
    rw [getElem!_pos z _ hlt]
    rw [hz] at hlt
    have := (List.getElem?_eq_some_iff.1 h2)
    rw [← hz] at this
    exact this.2
  rw [e]; exact h3

def pfBuildSlice (T : Tab) (e : Env) (t : TypeId) (n : Nat) (ps : Array (Nat × Operand)) : Option LV :=
  match T t with
  | some ti => match ti.kind with
    | .slice el => match T el with
      | some ei => if n * ei.size ≤ 16777216 then
          (fillL (fun i => some (i * ei.size, ei.size)) (zerosL ei.zero n) (evParts e ps)).map fun cells => .isl true ei.size (chunks ei.size n cells) else none
      | none => none
    | _ => none
  | none => none

theorem pf_buildSlice {T : Tab} (hT : TOK P T) {t : TypeId} {n : Nat} {ps : Array (Nat × Operand)} (ho : o.op = .buildSlice t n ps) (h : pfBuildSlice T e t n ps = some x) : Yields P o e B H x := by
  intro K jj w a N g te
  unfold pfBuildSlice at h
  split at h
  · rename_i ti hti
    split at h
    · rename_i el hk
      split at h
      · rename_i ei hei
        split at h
        · rename_i hle
          obtain ⟨cells, hf, rfl⟩ := Option.map_eq_some_iff.1 h
          have hok := hT t ti hti
          have hoe := hT el ei hei
          obtain ⟨z, hz, hzr, hzs, _, _, hone⟩ := hoe.run_zero K
          obtain ⟨hl, hp⟩ := te.parts ps
          have hzz := Rs.zeros hzr n (.inr trivial)
          rw [hoe.len] at hzz
          obtain ⟨arr', h3, h4, h5, h6⟩ := fillL_ok hzz (zerosL_one hone n) hl hp hf
          rw [zerosL_length, hoe.len] at h6
          have harr : ∀ (i : Nat) v, arr'.toList[i]? = some v → Lv.sealNew K w.heap.size arr' w.heap.size (0 + i) = some v := fun i v hv => by
            simp [Lv.sealNew]; simpa using hv
          have h4' := h4.mono (sealNew_le g arr')
          refine ⟨.slice (some ⟨w.heap.size, 0, none⟩) n n, w.alloc (.cells arr' el), Lv.sealNew K w.heap.size arr', ?_, g.sealNew arr' el _, (R.chunks h6 h4' harr true (Nat.le_refl _) (fun _ => rfl)).re, Fr.sealNew g arr' el _⟩
          simp only [execOp, ho, Instr.buildSlice]
          refine run_value ?_
          have hle' : ¬ n * ei.size > 2 ^ 24 := by omega
          simp only [Sem.run_bind, hok.run_slice hk w, Result.andThen_ok, hoe.run_size w, if_neg hle']
          by_cases h0 : n * ei.size = 0
          · have e2 : ∀ zz : Array Value, (Array.range (n * ei.size)).map (fun x => zz[x % zz.size]!) = #[] := fun zz => by rw [h0]; simp
            rw [e2] at h3
            simp only [if_pos h0, pure_bind, e2]
            rw [h3]
            rfl
          · simp only [if_neg h0, Sem.run_bind, hz w, Result.andThen_ok, Sem.run_pure]
            rw [h3]
            rfl
        · simp at h
      · simp at h
    · simp at h
  · simp at h

end
end Go.Lv
