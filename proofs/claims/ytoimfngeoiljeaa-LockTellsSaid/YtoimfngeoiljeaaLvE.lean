/- Lv, part E: more operations that yield a value: addresses of elements, slices, parts of results, function values, lengths, conversions, composite values. Over any program; no condition. -/
import Derived.Test.YtoimfngeoiljeaaLvD
namespace Go.Lv
open Go
set_option linter.unusedVariables false
set_option linter.unusedSimpArgs false

section
variable {P : Program} {e : Env} {B : Box} {H : OHeap} {o : Oper} {x : LV}

def pfIndexAddr (T : Tab) (B : Box) (t : TypeId) (p i : LV) : Option LV :=
  match T t, i with
  | some ti, .int _ n => match ti.kind with
    | .slice el => match T el with
      | some ei => match p with
        | .sl b off len cap => if 0 ≤ n ∧ n < len then some (.ptr b (off + n.toNat * ei.size)) else none
        | .isl _ es xs => if 0 ≤ n ∧ es = ei.size then (match xs[n.toNat]? with | some y => some (.iptr y) | none => none) else none
        | _ => none
      | none => none
    | .arr m el => match T el with
      | some ei => if 0 ≤ n ∧ n < m then ptrAdd B p (n.toNat * ei.size) else none
      | none => none
    | _ => none
  | _, _ => none

theorem isl_elem {K : Know} {f : Bool} {es : Nat} {xs : List (List LV)} {v : Value} (h : R K (.isl f es xs) v) {i : Nat} {y : List LV} (hy : xs[i]? = some y) :
    ∃ b off c, v = .slice (some ⟨b, off, none⟩) xs.length c ∧ i < xs.length ∧ R K (.iptr y) (.pointer (some ⟨b, off + i * es, none⟩)) := by
  cases h with
  | isln => simp at hy
  | isl _ _ _ b off c us hc hf he hK hR =>
    exact ⟨b, off, c, rfl, (List.getElem?_eq_some_iff.1 hy).1, .iptr y b _ (fun j => us i j) (fun j z hz => hK i j y z hy hz) (fun j z hz => hR i j y z hy hz)⟩

theorem pf_indexAddr {T : Tab} (hT : TOK P T) {t : TypeId} {p i : Operand} (ho : o.op = .indexAddr t p i) (h : pfIndexAddr T B t (ev e p) (ev e i) = some x) : Yields P o e B H x := by
  refine Yields.still fun K jj w a N g te => ?_
  have rp := te.ev p
  have ri := te.ev i
  generalize ev e p = lp at h rp
  generalize ev e i = li at h ri
  unfold pfIndexAddr at h
  split at h
  · rename_i ti k n hti
    have ei : a.eval i = .int k n := ri.int
    split at h
    · rename_i el hk
      split at h
      · rename_i ei' hei
        have hu := (hT t ti hti).run_slice hk w
        have hs := (hT el ei' hei).run_size w
        split at h
        · rename_i b off len cap
          split at h
          · rename_i hn
            simp at h; subst h
            have r : R K (.sl b off len cap) (a.eval p) := rp
            have ep : a.eval p = .slice (some ⟨b, off, none⟩) len cap := by generalize a.eval p = u at r; cases r; rfl
            refine ⟨.pointer (some ⟨b, off + n.toNat * ei'.size, none⟩), ?_, R.ptr _ _⟩
            simp only [execOp, ho, ep, ei, Instr.indexAt]
            refine run_value ?_
            simp [asIntOf, hu, hn, hs, Addr.add_lit]
          · simp at h
        · rename_i f es xs
          split at h
          · rename_i h0
            split at h
            · rename_i y hy
              simp at h; subst h
              have r : R K (.isl f es xs) (a.eval p) := rp
              obtain ⟨b, off, c, ep, hlt, hr⟩ := isl_elem r hy
              refine ⟨_, ?_, hr.re⟩
              have hn : 0 ≤ n ∧ n < xs.length := ⟨h0.1, by omega⟩
              simp only [execOp, ho, ep, ei, Instr.indexAt]
              refine run_value ?_
              simp [asIntOf, hu, hn, hs, Addr.add_lit, h0.2]
            · simp at h
          · simp at h
        · simp at h
      · simp at h
    · rename_i m el hk
      split at h
      · rename_i ei' hei
        split at h
        · rename_i hn
          obtain ⟨b, off, hv, hr⟩ := ptrAdd_ok rp h
          have hu := (hT t ti hti).run_arr hk w
          have hs := (hT el ei' hei).run_size w
          refine ⟨_, ?_, hr⟩
          simp only [execOp, ho, hv, ei, Instr.indexAt]
          refine run_value ?_
          simp [asIntOf, hu, hn, hs, Addr.add_lit, Instr.sureAddr]
        · simp at h
      · simp at h
    · simp at h
  · simp at h

def pfIndex (T : Tab) (t : TypeId) (p i : LV) : Option LV :=
  match i with
  | .int _ n => match p with
    | .str s => if 0 ≤ n then (match s.data.toList[n.toNat]? with | some c => (match T t with | some ti => if ti.kind = .str then some (.int .u8 c.toNat) else none | none => none) | none => none) else none
    | .agg cs => match T t with
      | some ti => match ti.kind with
        | .arr m el => match T el with
          | some ei => if 0 ≤ n ∧ n < m then pick ei (cs.drop (n.toNat * ei.size)) else none
          | none => none
        | _ => none
      | none => none
    | _ => none
  | _ => none

theorem pf_index {T : Tab} (hT : TOK P T) {t : TypeId} {p i : Operand} (ho : o.op = .index t p i) (h : pfIndex T t (ev e p) (ev e i) = some x) : Yields P o e B H x := by
  refine Yields.still fun K jj w a N g te => ?_
  have rp := te.ev p
  have ri := te.ev i
  generalize ev e p = lp at h rp
  generalize ev e i = li at h ri
  unfold pfIndex at h
  split at h
  · rename_i k n
    have ei : a.eval i = .int k n := ri.int
    split at h
    · rename_i s
      split at h
      · rename_i h0
        split at h
        · rename_i c hc
          split at h
          · rename_i ti hti
            split at h
            · rename_i hk
              simp at h; subst h
              have ep : a.eval p = .string s := rp.str
              have hu := (hT t ti hti).run_str hk w
              refine ⟨.int .u8 c.toNat, ?_, R.int _ _⟩
              have hc' : s[n.toNat]? = some c := by
                have hlt : n.toNat < s.data.size := by have := (List.getElem?_eq_some_iff.1 hc).1; simpa using this
                have hlt' : n.toNat < s.size := hlt
                rw [getElem?_pos s n.toNat hlt']
                have h2 := (List.getElem?_eq_some_iff.1 hc).2
                rw [← h2]; rfl
              simp only [execOp, ho, ep, ei, Instr.index]
              refine run_value ?_
              simp [asIntOf, hu, h0, hc']
            · simp at h
          · simp at h
        · simp at h
      · simp at h
    · rename_i cs
      split at h
      · rename_i ti hti
        split at h
        · rename_i m el hk
          split at h
          · rename_i ei' hei
            split at h
            · rename_i hn
              have r : R K (.agg cs) (a.eval p) := rp
              obtain ⟨vs, hvs, hrs⟩ : ∃ vs : List Value, a.eval p = .agg vs.toArray ∧ Rs K cs vs := by
                generalize a.eval p = u at r; cases r with | agg _ vs hl hh => exact ⟨vs, rfl, hl, hh⟩
              obtain ⟨v, h6, h7⟩ := run_part hT hei hrs h w
              have hu := (hT t ti hti).run_arr hk w
              have hs := (hT el ei' hei).run_size w
              refine ⟨v, ?_, h7.re⟩
              simp only [execOp, ho, hvs, ei, Instr.index]
              refine run_value ?_
              simp [asIntOf, hu, hn, hs, h6]
            · simp at h
          · simp at h
        · simp at h
      · simp at h
    · simp at h
  · simp at h

/-! #### Slices -/
/-- A bound: none given, or an int between 0 and y. -/
def bnd (x : Option LV) (y dflt : Nat) : Option Nat :=
  match x with
  | none => some dflt
  | some (.int _ n) => if 0 ≤ n ∧ n ≤ y then some n.toNat else none
  | _ => none

/-- low, high and max of a slice of length len and capacity cap. -/
def bnds (len cap : Nat) (lo hi mx : Option LV) : Option (Nat × Nat × Nat) :=
  match bnd mx cap cap with
  | none => none
  | some m => match (match hi with | none => (if mx.isSome then none else some len) | some _ => bnd hi m 0) with
    | none => none
    | some h => match bnd lo h 0 with
      | none => none
      | some l => some (l, h, m)

theorem run_bnd {K : Know} {jj : Nat → Nat} {x : LV} {v : Value} (h : RE K jj B x v) {y d r : Nat} (hr : bnd (some x) y d = some r) (code : BoundsCode) (w : World) : (Instr.sliceBound v y code).run P w = .ok r w := by
  unfold bnd at hr
  split at hr
  · simp at *
  · rename_i k n heq
    simp at heq; subst heq
    split at hr
    · rename_i hn
      simp at hr; subst hr
      rw [h.int]
      simp [Instr.sliceBound, asIntOf, hn]
    · simp at hr
  · simp at hr

theorem run_bnds {a : Act} {K : Know} {jj : Nat → Nat} {N : Nat} (te : TE K jj B N e a.tmps) {len cap : Nat} {lo hi mx : Option Operand} {l h m : Nat}
    (hb : bnds len cap (lo.map (ev e)) (hi.map (ev e)) (mx.map (ev e)) = some (l, h, m)) (s : Bool) (w : World) :
    (Instr.sliceBounds s len cap (lo.map a.eval) (hi.map a.eval) (mx.map a.eval)).run P w = .ok (l, h, m) w := by
  unfold bnds at hb
  split at hb
  · simp at hb
  · rename_i m' hm
    split at hb
    · simp at hb
    · rename_i h' hh
      split at hb
      · simp at hb
      · rename_i l' hl
        simp at hb; obtain ⟨rfl, rfl, rfl⟩ := hb
        cases mx with
        | none =>
          simp [bnd] at hm; subst hm
          cases hi with
          | none =>
            simp at hh; subst hh
            cases lo with
            | none => simp [bnd] at hl; subst hl; simp [Instr.sliceBounds]
            | some lo => simp [Instr.sliceBounds, run_bnd (te.ev lo) (by simpa using hl)]
          | some hi =>
            have hh' : bnd (some (ev e hi)) cap 0 = some h' := by simpa using hh
            cases lo with
            | none => simp [bnd] at hl; subst hl; simp [Instr.sliceBounds, run_bnd (te.ev hi) hh']
            | some lo => simp [Instr.sliceBounds, run_bnd (te.ev hi) hh', run_bnd (te.ev lo) (by simpa using hl)]
        | some mx =>
          have hm' : bnd (some (ev e mx)) cap cap = some m' := by simpa using hm
          cases hi with
          | none => simp at hh
          | some hi =>
            have hh' : bnd (some (ev e hi)) m' 0 = some h' := by simpa using hh
            cases lo with
            | none => simp [bnd] at hl; subst hl; simp [Instr.sliceBounds, run_bnd (te.ev mx) hm', run_bnd (te.ev hi) hh']
            | some lo => simp [Instr.sliceBounds, run_bnd (te.ev mx) hm', run_bnd (te.ev hi) hh', run_bnd (te.ev lo) (by simpa using hl)]

theorem bnds_le {len cap l h m : Nat} {lo hi mx : Option LV} (hlc : len ≤ cap) (hb : bnds len cap lo hi mx = some (l, h, m)) : l ≤ h ∧ h ≤ m ∧ m ≤ cap := by
  unfold bnds at hb
  split at hb
  · simp at hb
  · rename_i m' hm
    have h1 : m' ≤ cap := by
      unfold bnd at hm; split at hm
      · simp at hm; omega
      · split at hm
        · simp at hm; omega
        · simp at hm
      · simp at hm
    split at hb
    · simp at hb
    · rename_i h' hh
      split at hb
      · simp at hb
      · rename_i l' hl
        simp at hb; obtain ⟨rfl, rfl, rfl⟩ := hb
        have h3 : l' ≤ h' := by
          unfold bnd at hl; split at hl
          · simp at hl; omega
          · split at hl
            · simp at hl; omega
            · simp at hl
          · simp at hl
        refine ⟨h3, ?_, h1⟩
        split at hh
        · split at hh
          · simp at hh
          · rename_i hx
            simp at hh; subst hh
            cases mx with
            | none => simp [bnd] at hm; omega
            | some _ => simp at hx
        · unfold bnd at hh; split at hh
          · simp at hh; omega
          · split at hh
            · simp at hh; omega
            · simp at hh
          · simp at hh

def pfSlice (T : Tab) (t : TypeId) (p : LV) (lo hi mx : Option LV) : Option LV :=
  match T t with
  | some ti => match ti.kind with
    | .str => match p with
      | .str s => match mx, bnds s.size s.size lo hi none with
        | none, some (l, h, _) => some (.str (s.extract l h))
        | _, _ => none
      | _ => none
    | .slice el => match T el with
      | some ei => match p with
        | .sl b off len cap => if len ≤ cap then (match bnds len cap lo hi mx with
          | some (l, h, m) => some (.sl b (if m = l then off else off + l * ei.size) (h - l) (m - l))
          | none => none) else none
        | .isl f es xs => if es = ei.size then (match bnds xs.length xs.length lo hi mx with
          | some (l, h, m) => some (.isl (if mx.isSome then decide (m = h) else f && decide (h = xs.length)) es ((xs.take h).drop l))
          | none => none) else none
        | .nilsl => match bnds 0 0 lo hi mx with
          | some _ => some .nilsl
          | none => none
        | _ => none
      | none => none
    | _ => none
  | none => none

theorem bnd_more {x : LV} {y y' d d' r : Nat} (hy : y ≤ y') (h : bnd (some x) y d = some r) : bnd (some x) y' d' = some r := by
  cases x <;> simp only [bnd, reduceCtorEq] at h ⊢
  split at h
  · rename_i hn; rw [if_pos ⟨hn.1, by omega⟩]; exact h
  · simp at h

/-- With more room than is known the bounds are the same, but for the last one where none is given. -/
theorem bnds_more {len c : Nat} {lo hi mx : Option LV} {l h m : Nat} (hc : len ≤ c) (hb : bnds len len lo hi mx = some (l, h, m)) :
    bnds len c lo hi mx = some (l, h, if mx.isSome then m else c) := by
  unfold bnds at hb ⊢
  cases mx with
  | none =>
    have e1 : bnd none len len = some len := rfl
    have e2 : bnd none c c = some c := rfl
    rw [e1] at hb; rw [e2]
    simp only [Option.isSome_none, Bool.false_eq_true, if_false] at hb ⊢
    cases hi with
    | none =>
      simp only at hb ⊢
      cases hl : bnd lo len 0 with
      | none => rw [hl] at hb; simp at hb
      | some l' => rw [hl] at hb; simp at hb ⊢; exact ⟨hb.1, hb.2.1⟩
    | some hi =>
      simp only at hb ⊢
      cases hh : bnd (some hi) len 0 with
      | none => rw [hh] at hb; simp at hb
      | some h' =>
        rw [hh] at hb; rw [bnd_more (d' := 0) hc hh]
        simp only at hb ⊢
        cases hl : bnd lo h' 0 with
        | none => rw [hl] at hb; simp at hb
        | some l' => rw [hl] at hb; simp at hb ⊢; exact ⟨hb.1, hb.2.1⟩
  | some mx =>
    simp only [Option.isSome_some, if_true] at hb ⊢
    cases hm : bnd (some mx) len len with
    | none => rw [hm] at hb; simp at hb
    | some m' => rw [hm] at hb; rw [bnd_more (d' := c) hc hm]; exact hb

theorem isl_sub {K : Know} {f f' : Bool} {es : Nat} {xs : List (List LV)} {v : Value} {l h m c : Nat} {A : Option Addr} (hv : v = .slice A xs.length c) (hr : R K (.isl f es xs) v) (hlh : l ≤ h) (hh : h ≤ xs.length) (hm : h ≤ m) (hmc : m ≤ c) (hf : f' = true → m = h) :
    R K (.isl f' es ((xs.take h).drop l)) (.slice (if m = l then A else A.map (·.add (l * es))) (h - l) (m - l)) := by
  subst hv
  have hlen : ((xs.take h).drop l).length = h - l := by simp; omega
  cases hr with
  | isln =>
    have h1 : m = 0 := by omega
    have h2 : h = 0 := by omega
    have h3 : l = 0 := by omega
    subst h1; subst h2; subst h3
    simp
    exact .isln _ _
  | isl _ _ _ b off _ us hc hf' he hK hR =>
    by_cases hml : m = l
    · have h1 : h = l := by omega
      subst hml; subst h1
      rw [if_pos rfl, Nat.sub_self]
      have : (xs.take h).drop h = [] := by simp
      rw [this]
      exact .isl f' es [] b off 0 us (by simp) (fun _ => rfl) (fun x hx => by simp at hx) (fun i j x y hx => by simp at hx) (fun i j x y hx => by simp at hx)
    · rw [if_neg hml]
      simp only [Option.map_some, Addr.add_lit]
      rw [← hlen]
      have key : ∀ (i : Nat) x, ((xs.take h).drop l)[i]? = some x → xs[l + i]? = some x := fun i x hx => by
        rw [List.getElem?_drop, List.getElem?_take] at hx
        split at hx
        · exact hx
        · simp at hx
      refine .isl f' es _ b (off + l * es) (m - l) (fun i j => us (l + i) j) (by omega) (fun hf1 => by have := hf hf1; omega) (fun x hx => he x (List.mem_of_mem_take (List.mem_of_mem_drop hx))) (fun i j x y hx hy => ?_) (fun i j x y hx hy => hR _ j x y (key i x hx) hy)
      have := hK (l + i) j x y (key i x hx) hy
      rwa [Nat.add_mul, ← Nat.add_assoc] at this

theorem R.isl_shape {K : Know} {f : Bool} {es : Nat} {xs : List (List LV)} {v : Value} (h : R K (.isl f es xs) v) : ∃ A c, v = .slice A xs.length c ∧ xs.length ≤ c ∧ (f = true → c = xs.length) := by
  cases h with
  | isln => exact ⟨none, 0, rfl, by simp, fun _ => rfl⟩
  | isl _ _ _ b off c us hc hf he hK hR => exact ⟨_, c, rfl, hc, hf⟩

theorem pf_slice {T : Tab} (hT : TOK P T) {t : TypeId} {p : Operand} {lo hi mx : Option Operand} (ho : o.op = .slice t p lo hi mx)
    (h : pfSlice T t (ev e p) (lo.map (ev e)) (hi.map (ev e)) (mx.map (ev e)) = some x) : Yields P o e B H x := by
  refine Yields.still fun K jj w a N g te => ?_
  have rp := te.ev p
  generalize ev e p = lp at h rp
  unfold pfSlice at h
  split at h
  · rename_i ti hti
    split at h
    · rename_i hk
      have hu := (hT t ti hti).run_str hk w
      split at h
      · rename_i s
        split at h
        · rename_i l h' m' hmx hb
          simp at h; subst h
          have hmx' : mx = none := by cases mx <;> simp at hmx ⊢
          subst hmx'
          have ep : a.eval p = .string s := rp.str
          refine ⟨.string (s.extract l h'), ?_, R.str _⟩
          have hr := run_bnds (P := P) te (mx := none) hb false w
          simp only [execOp, ho, ep, Instr.sliceAt]
          refine run_value ?_
          simp only [Option.map_none] at hr
          simp [hu, Instr.slice, hr]
        · simp at h
      · simp at h
    · rename_i el hk
      have hu := (hT t ti hti).run_slice hk w
      split at h
      · rename_i ei hei
        have hs := (hT el ei hei).run_size w
        split at h
        · rename_i b off len cap
          split at h
          · split at h
            · rename_i l h' m hb
              simp at h; subst h
              have r : R K (.sl b off len cap) (a.eval p) := rp
              have ep : a.eval p = .slice (some ⟨b, off, none⟩) len cap := by generalize a.eval p = u at r; cases r; rfl
              refine ⟨.slice (some ⟨b, if m = l then off else off + l * ei.size, none⟩) (h' - l) (m - l), ?_, R.sl _ _ _ _⟩
              have hr := run_bnds (P := P) te hb true w
              simp only [execOp, ho, ep, Instr.sliceAt]
              refine run_value ?_
              simp only [Sem.run_bind, hu, Result.andThen_ok, Instr.slice, hr, hs, Sem.run_pure]
              congr 2
              split <;> simp [Addr.add_lit]
            · simp at h
          · simp at h
        · rename_i f es xs
          split at h
          · rename_i hes
            subst hes
            split at h
            · rename_i l h' m hb
              simp at h; subst h
              have r : R K (.isl f ei.size xs) (a.eval p) := rp
              obtain ⟨A, c, ep, hc, hf⟩ := r.isl_shape
              have hle := bnds_le (Nat.le_refl _) hb
              have hb' := bnds_more hc hb
              have hr := run_bnds (P := P) te hb' true w
              refine ⟨_, ?_, (isl_sub ep r hle.1 (by omega) (m := if (mx.map (ev e)).isSome then m else c) (by split <;> omega) (by split <;> omega) ?_).re⟩
              · simp only [execOp, ho, ep, Instr.sliceAt]
                refine run_value ?_
                simp only [Sem.run_bind, hu, Result.andThen_ok, Instr.slice, hr, hs, Sem.run_pure]
              · intro hq
                split at hq
                · rename_i hsm; rw [if_pos (by simpa using hsm)]; simpa using hq
                · rename_i hsm
                  rw [if_neg (by simpa using hsm)]
                  simp at hq
                  rw [hf hq.1]; exact hq.2.symm
            · simp at h
          · simp at h
        · split at h
          · rename_i z hb
            simp at h; subst h
            have ep : a.eval p = .slice none 0 0 := by have r : R K .nilsl (a.eval p) := rp; generalize a.eval p = u at r; cases r; rfl
            obtain ⟨l, h', m⟩ := z
            have hle := bnds_le (Nat.le_refl _) hb
            obtain ⟨rfl, rfl, rfl⟩ : l = 0 ∧ h' = 0 ∧ m = 0 := by omega
            refine ⟨.slice none 0 0, ?_, R.nilsl⟩
            have hr := run_bnds (P := P) te hb true w
            simp only [execOp, ho, ep, Instr.sliceAt]
            refine run_value ?_
            simp [hu, Instr.slice, hr, hs]
          · simp at h
        · simp at h
      · simp at h
    · simp at h
  · simp at h

end
end Go.Lv
