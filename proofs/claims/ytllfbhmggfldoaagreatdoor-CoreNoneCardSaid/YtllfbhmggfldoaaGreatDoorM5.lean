/- Texts of this proof, put together: Cn1, Cn2, Cn3, XeA, XeB, XeC, XeD, XeE, XeF, XeG, XeI, XeJ, XeK, XeR, XeH. No condition. -/
import Derived.Test.YtllfbhmggfldoaaGreatDoorM4
/- A nil store: what each call of it answers. -/
namespace Go.Lv
open Go Go.Proofs
set_option maxRecDepth 10000
set_option linter.unusedSimpArgs false
theorem mixed : Tryz.prog.follows .mixedOrders = true := by kernel_rfl
abbrev i64 (n : Int) : LV := .int .i64 n
theorem begin_nil (H : OHeap) : CallL Tryz.prog 21 [.nilp] H fun x H' => x = .tup [i64 0, i64 1] ∧ H' = H := by
  refine CallL.of_vc (n := 1) tok Tryz.func21 (c := _) rfl (by kernel_rfl) rfl ?_
  simp -implicitDefEqProofs [nilK, nilB, isNilC]
  first | done | exact Ends.of ⟨rfl, rfl⟩
theorem save_nil (a : Int) (H : OHeap) : CallL Tryz.prog 37 [.nilp, i64 a] H fun x H' => x = LV.tup [i64 0, i64 1] ∧ H' = H := by
  refine CallL.of_vc (n := 2) tok Tryz.func37 (c := _) rfl (by kernel_rfl) rfl ?_
  simp -implicitDefEqProofs [nilK, nilB, isNilC]
  first | done | exact Ends.of ⟨rfl, rfl⟩
theorem back_nil (a b : Int) (H : OHeap) : CallL Tryz.prog 39 [.nilp, i64 a, i64 b] H fun x H' => x = i64 1 ∧ H' = H := by
  refine CallL.of_vc (n := 3) tok Tryz.func39 (c := _) rfl (by kernel_rfl) rfl ?_
  simp -implicitDefEqProofs [nilK, nilB, isNilC]
  first | done | exact Ends.of ⟨rfl, rfl⟩
theorem abort_nil (a : Int) (H : OHeap) : CallL Tryz.prog 17 [.nilp, i64 a] H fun x H' => x = i64 1 ∧ H' = H := by
  refine CallL.of_vc (n := 2) tok Tryz.func17 (c := _) rfl (by kernel_rfl) rfl ?_
  simp -implicitDefEqProofs [nilK, nilB, isNilC]
  first | done | exact Ends.of ⟨rfl, rfl⟩
theorem has_nil (a : Int) (H : OHeap) : CallL Tryz.prog 16 [.nilp, i64 a] H fun x H' => x = .bool false ∧ H' = H := by
  refine CallL.of_vc (n := 2) tok Tryz.func16 (c := _) rfl (by kernel_rfl) rfl ?_
  simp -implicitDefEqProofs [nilK, nilB, isNilC]
  first | done | exact Ends.of ⟨rfl, rfl⟩
theorem commit_nil (a : Int) (H : OHeap) : CallL Tryz.prog 46 [.nilp, i64 a] H fun x H' => x = i64 1 ∧ H' = H := by
  refine CallL.of_vc (n := 2) tok Tryz.func46 (c := _) rfl (by kernel_rfl) rfl ?_
  simp -implicitDefEqProofs [nilK, nilB, isNilC]
  first | done | exact Ends.of ⟨rfl, rfl⟩
theorem check_nil (H : OHeap) : CallL Tryz.prog 20 [.nilp] H fun x H' => x = i64 1 ∧ H' = H := by
  refine CallL.of_vc (n := 1) tok Tryz.func20 (c := _) rfl (by kernel_rfl) rfl ?_
  simp -implicitDefEqProofs [nilK, nilB, isNilC]
  first | done | exact Ends.of ⟨rfl, rfl⟩
theorem flush_nil (H : OHeap) : CallL Tryz.prog 18 [.nilp] H fun x H' => x = LV.tup [.bool false, i64 1] ∧ H' = H := by
  refine CallL.of_vc (n := 1) tok Tryz.func18 (c := _) rfl (by kernel_rfl) rfl ?_
  simp -implicitDefEqProofs [nilK, nilB, isNilC]
  first | done | exact Ends.of ⟨rfl, rfl⟩
theorem clean_nil (H : OHeap) : CallL Tryz.prog 47 [.nilp] H fun x H' => x = LV.tup [.bool false, i64 1] ∧ H' = H := by
  refine CallL.of_vc (n := 1) tok Tryz.func47 (c := _) rfl (by kernel_rfl) rfl ?_
  simp -implicitDefEqProofs [nilK, nilB, isNilC]
  first | done | exact Ends.of ⟨rfl, rfl⟩
theorem all_nil (H : OHeap) : CallL Tryz.prog 36 [.nilp] H fun x H' => x = LV.tup [.nilsl, i64 1] ∧ H' = H := by
  refine CallL.of_vc (n := 1) tok Tryz.func36 (c := _) rfl (by kernel_rfl) rfl ?_
  simp -implicitDefEqProofs [nilK, nilB, isNilC]
  first | done | exact Ends.of ⟨rfl, rfl⟩
theorem write_nil (k : Int) (H : OHeap) : CallL Tryz.prog 22 [.nilp, i64 1, i64 k, .agg [.bool false, .nilsl]] H fun x H' => x = i64 1 ∧ H' = H := by
  refine CallL.of_vc (n := 4) tok Tryz.func22 (c := _) rfl (by kernel_rfl) rfl ?_
  simp -implicitDefEqProofs [nilK, nilB, isNilC]
  first | done | exact Ends.of ⟨rfl, rfl⟩
end Go.Lv
/- A nil store: Get, Look, Resume; what is light. -/
namespace Go.Lv
open Go Go.Proofs
set_option maxRecDepth 10000
set_option linter.unusedSimpArgs false
theorem get_nil (k : Int) (H : OHeap) : CallL Tryz.prog 42 [.nilp, i64 k] H fun x H' => x = LV.tup [.agg [.bool false, .nilsl], i64 1] ∧ H' = H := by
  refine CallL.of_vc (n := 2) tok Tryz.func42 (c := _) rfl (by kernel_rfl) rfl ?_
  simp -implicitDefEqProofs [nilK, nilB, isNilC]
  first | done | exact Ends.of ⟨rfl, rfl⟩
/-- What Look tells of a nil store. -/
def lookNil : LV := .agg [.nilsl, .nilsl, i64 0, i64 0, .nilsl, i64 0, i64 0, i64 0, i64 0, i64 0, i64 0, .nilsl]
theorem look_nil (H : OHeap) : CallL Tryz.prog 19 [.nilp] H fun x H' => x = lookNil ∧ H' = H := by
  refine CallL.of_vc (n := 1) tok Tryz.func19 (c := _) rfl (by kernel_rfl) rfl ?_
  simp -implicitDefEqProofs [nilK, nilB, isNilC]
  exact ⟨by decide, Ends.of ⟨rfl, rfl⟩⟩
theorem resume_nil (a b c d e p q r s : Int) (l : LV) (H : OHeap) : CallL Tryz.prog 48 [.nilp, .agg [i64 a, i64 b, i64 c, i64 d, i64 e], .nilp, .nilp, .agg [i64 p, i64 q, i64 r, i64 s], l] H fun x H' => x = LV.tup [.nilp, i64 1] ∧ H' = H := by
  refine CallL.of_vc (n := 6) tok Tryz.func48 (c := _) rfl (by kernel_rfl) rfl ?_
  simp -implicitDefEqProofs [nilK, nilB, isNilC]
  exact Ends.of ⟨rfl, rfl⟩
end Go.Lv
/- What is light. -/
namespace Go.Lv
open Go Go.Proofs
set_option maxRecDepth 10000
set_option linter.unusedSimpArgs false
set_option linter.unusedVariables false
/-- A slice of which only the length is asked. -/
def LenOf (y : LV) (n : Nat) : Prop := (y = .isl true 1 [] ∧ n = 0) ∨ ∃ b o c, y = .sl b o n c
/-- A change, as Light sees it. -/
structure Ch where
  (lsn page key : Int)
  o : Bool
  ob : LV
  n : Bool
  nb : LV
def Ch.lv (c : Ch) : List LV := [i64 c.lsn, i64 c.page, i64 c.key, .bool c.o, c.ob, .bool c.n, c.nb]
def Ch.ok (c : Ch) : Prop := (∃ n, LenOf c.ob n) ∧ (∃ n, LenOf c.nb n)
def txL (id st fi la : Int) (f : Bool) (l : List Ch) (sv : LV) : LV := .agg [i64 id, i64 st, i64 fi, i64 la, .isl f 7 (l.map Ch.lv), sv]
theorem light_lv (id st fi la : Int) (f : Bool) (l : List Ch) (sv : LV) (hs : ∃ n, LenOf sv n) (hl : ∀ c ∈ l, c.ok) (H : OHeap) :
    CallL Tryz.prog 45 [txL id st fi la f l sv, i64 20] H fun x H' => (∃ b, x = .bool b) ∧ H' = H := by
  refine CallL.of_vc (n := 2) tok Tryz.func45 (c := _) rfl (by kernel_rfl) rfl ?_
  obtain ⟨n, ⟨rfl, rfl⟩ | ⟨b, o, c, rfl⟩⟩ := hs
  all_goals
    simp -implicitDefEqProofs [txL]
    by_cases h20 : (20 : Int) < (l.length : Int)
    · simp [h20]; exact Ends.of ⟨.inl rfl, rfl⟩
    simp -implicitDefEqProofs [h20]
    try
      by_cases hn : (20 : Int) < (n : Int)
      · simp [hn]; exact Ends.of ⟨.inl rfl, rfl⟩
      simp -implicitDefEqProofs [hn]
    refine WP.loopG (σ := Nat) (fun i e B H' => H' = H ∧ i ≤ l.length ∧ e 2 = .bp 2 1 0 ∧ e 5 = i64 i ∧ ∃ sv, B 2 = (1, some [i64 id, i64 st, i64 fi, i64 la, .isl f 7 (l.map Ch.lv), sv])) (fun i => l.length - i) 0 ?_ ?_
    · exact ⟨rfl, by omega, by simp [nobox], by simp, _, by simp [nobox]; rfl⟩
    · rintro i e B H' ⟨rfl, hi, h2, h5, sv, hB⟩
      refine vc_sound tok _ _ _ _ _ ?_
      rcases Nat.lt_or_ge i l.length with hlt | hge
      · obtain ⟨⟨n1, o1⟩, ⟨n2, o2⟩⟩ := hl l[i] (List.getElem_mem hlt)
        have hw : IntKind.i64.wrap ((i : Int) + 1) = ((i + 1 : Nat) : Int) := by rw [wrap64 (by omega) (by omega)]; omega
        generalize hc : l[i] = c at o1 o2
        obtain ⟨c0, c1, c2, c3, c4, c5, c6⟩ := c
        simp only [] at o1 o2
        rcases o1 with ⟨rfl, rfl⟩ | ⟨b1, p1, q1, rfl⟩ <;> rcases o2 with ⟨rfl, rfl⟩ | ⟨b2, p2, q2, rfl⟩
        all_goals
          simp -implicitDefEqProofs [h2, h5, hB, hlt, hc, Ch.lv, hw]
          try
            by_cases g1 : (100 : Int) < (n1 : Int)
            · simp -implicitDefEqProofs [g1]; exact Ends.of ⟨.inl rfl, rfl⟩
            simp -implicitDefEqProofs [g1]
          try
            by_cases g2 : (100 : Int) < (n2 : Int)
            · simp -implicitDefEqProofs [g2]; exact Ends.of ⟨.inl rfl, rfl⟩
            simp -implicitDefEqProofs [g2]
          exact Next.of (i + 1) (by omega) ⟨rfl, hlt, by simp [h2], by simp, _, hB⟩
      · have : ¬ i < l.length := by omega
        simp -implicitDefEqProofs [h2, h5, hB, this]
        exact Ends.of ⟨.inr rfl, rfl⟩
end Go.Lv
/- More operations: what is laid anew as a block of the call's own; an append that leaves the old row; delete; entries of maps; slices and arrays. Over any program; no condition. -/
namespace Go.Lv
open Go
set_option maxRecDepth 10000
set_option linter.unusedVariables false
set_option linter.unusedSimpArgs false

section
variable {P : Program} {e : Env} {B : Box} {H : OHeap} {o : Oper} {K : Know} {jj : Nat → Nat} {w : World} {T : Tab}

theorem step_ownAlloc (hT : TOK P T) {t : TypeId} {ti : TI} (ho : o.op = .alloc t) (hti : T t = some ti) {Q : LV → Box → OHeap → Prop} (h : ∀ b, H b = none → Q (.ptr b 0) B (setH H b (.cells ti.zero ti.size))) : Step P o e B H Q := by
  intro K jj w a N g te
  obtain ⟨z, hz, hzr, hzs, _, _, hone⟩ := (hT t ti hti).run_zero K
  have hsz : z.cells.size = ti.size := hzs
  have hlen := (hT t ti hti).len
  have h1 : ∀ v ∈ z.cells.toList, v.oneCell' = true := hzr.one (List.all_eq_true.2 hone)
  have hown := ownObj.alloc (K := K) (w := w) (T := t) (arr := z.cells) (cs := ti.zero) (by rw [List.take_of_length_le (by rw [Array.length_toList, hsz, hlen]; exact Nat.le_refl _)]; exact hzr) (by rw [hsz, hlen]; exact Nat.le_refl _) h1
  rw [hsz] at hown
  obtain ⟨g1, g2, g3⟩ := g.newH hown
  refine ⟨_, .pointer (some ⟨w.heap.size, 0, none⟩), w.alloc (.cells z.cells t), ?_, .inl rfl, _, B, _, K, jj, g2, (R.ptr _ _).re, te, g3, h _ g1⟩
  simp [execOp, ho, Instr.alloc, hz w, newVar, newRow]

theorem step_ownBox {t : TypeId} {x : Operand} {cs : List LV} (ho : o.op = .box t x) (hx : lcells (ev e x) = some cs) {Q : LV → Box → OHeap → Prop} (h : ∀ b, H b = none → Q (.ptr b 0) B (setH H b (.cells cs cs.length))) : Step P o e B H Q := by
  intro K jj w a N g te
  obtain ⟨hr, h1⟩ := lcells_ok (te.ev x) hx
  have hsz : (a.eval x).cells.size = cs.length := by rw [← Array.length_toList, hr.1]
  have hown := ownObj.alloc (K := K) (w := w) (T := t) (arr := (a.eval x).cells) (cs := cs) (by rw [List.take_of_length_le (by rw [Array.length_toList, hsz]; exact Nat.le_refl _)]; exact hr) (by rw [hsz]; exact Nat.le_refl _) h1
  rw [hsz] at hown
  obtain ⟨g1, g2, g3⟩ := g.newH hown
  refine ⟨_, .pointer (some ⟨w.heap.size, 0, none⟩), w.alloc (.cells (a.eval x).cells t), ?_, .inl rfl, _, B, _, K, jj, g2, (R.ptr _ _).re, te, g3, h _ g1⟩
  simp [execOp, ho, Instr.box, newVar, newRow]

/-- A literal row as a block of the call's own. -/
theorem step_ownSlice (hT : TOK P T) {t el : TypeId} {n : Nat} {ps : Array (Nat × Operand)} {ti ei : TI} (ho : o.op = .buildSlice t n ps) (hti : T t = some ti) (hk : ti.kind = .slice el) (hei : T el = some ei) (hle : n * ei.size ≤ 16777216)
    {cells : List LV} (hf : fillL (fun i => some (i * ei.size, ei.size)) (zerosL ei.zero n) (evParts e ps) = some cells) {Q : LV → Box → OHeap → Prop}
    (h : ∀ b, H b = none → Q (.sl b 0 n n) B (setH H b (.cells cells (n * ei.size)))) : Step P o e B H Q := by
  intro K jj w a N g te
  have hok := hT t ti hti
  have hoe := hT el ei hei
  obtain ⟨z, hz, hzr, hzs, _, _, hone⟩ := hoe.run_zero K
  obtain ⟨hl, hp⟩ := te.parts ps
  have hzz := Rs.zeros hzr n (.inr trivial)
  rw [hoe.len] at hzz
  obtain ⟨arr', h3, h4, h5, h6⟩ := fillL_ok hzz (zerosL_one hone n) hl hp hf
  rw [zerosL_length, hoe.len] at h6
  have hsz : arr'.size = n * ei.size := by have := h4.1; simp at this; omega
  have hown := ownObj.alloc (K := K) (w := w) (T := el) (arr := arr') (cs := cells) (by rw [List.take_of_length_le (by rw [← h4.1]; exact Nat.le_refl _)]; exact h4) (by rw [hsz, h6]; exact Nat.le_refl _) (h4.one (List.all_eq_true.2 h5))
  rw [hsz] at hown
  obtain ⟨g1, g2, g3⟩ := g.newH hown
  refine ⟨.value (.slice (some ⟨w.heap.size, 0, none⟩) n n), _, w.alloc (.cells arr' el), ?_, .inl rfl, _, B, _, K, jj, g2, (R.sl _ _ _ _).re, te, g3, h _ g1⟩
  simp only [execOp, ho, Instr.buildSlice]
  refine run_value ?_
  have hle' : ¬ n * ei.size > 2 ^ 24 := by omega
  simp only [Sem.run_bind, hok.run_slice hk w, Result.andThen_ok, hoe.run_size w, if_neg hle']
  by_cases h0 : n * ei.size = 0
  · have e2 : ∀ zz : Array Value, (Array.range (n * ei.size)).map (fun x => zz[x % zz.size]!) = #[] := fun zz => by rw [h0]; simp
    rw [e2] at h3
    simp only [if_pos h0, pure_bind, e2]
    rw [h3]
    rfl
  · simp only [if_neg h0, Sem.run_bind, hz w, Result.andThen_ok, Sem.run_pure]
    rw [h3]
    rfl

/-- An append that finds no room: the old row stays as it is. -/
theorem step_appendKeep (hT : TOK P T) {t tx el : TypeId} {s x : Operand} {ti tix ei : TI} (ho : o.op = .call ⟨.builtin .append, #[s, x], #[t, tx]⟩) (hti : T t = some ti) (hk : ti.kind = .slice el) (hei : T el = some ei) (htx : T tx = some tix)
    (hkx : srcKind tix.kind (ev e x)) {n : Nat} {ns : List LV} (hsrc : srcL H ei.size (ev e x) = some (n, ns)) (hn1 : ns.all LV.one = true) {b off len cap m : Nat} {cs : List LV} (hs : ev e s = .sl b off len cap) (hH : H b = some (.cells cs m))
    (hle : off + len * ei.size ≤ cs.length) (ho1 : ((cs.drop off).take (len * ei.size)).all LV.one = true) (hlt : cap < len + n) (hroom : room (len + n) ei.bytes)
    {Q : LV → Box → OHeap → Prop} (hf : ∀ b' c, H b' = none → len + n ≤ c → Q (.sl b' 0 (len + n) c) B (setH H b' (.cells ((cs.drop off).take (len * ei.size) ++ ns) (c * ei.size)))) : Step P o e B H Q := by
  intro K jj w a N g te
  suffices hs : ∃ v w', (Builtin.append_ #[t, tx] o.type #[a.eval s, a.eval x]).run P w = .ok v w' ∧ ∃ r H', Good K jj B H' w' ∧ R K r v ∧ Fr (dom H B jj) w K (dom H' B jj) w' K ∧ Q r B H' by
    obtain ⟨v, w', h1, r, H', h2, h3, h4, h5⟩ := hs
    exact ⟨.value v, v, w', by simp [execOp, ho, resolve, invoke, builtin, h1], .inl rfl, r, B, H', K, jj, h2, h3.re, te, h4, h5⟩
  obtain ⟨d, hd, hkd⟩ := (hT t ti hti).und
  have ht : P.underlying t = some (.slice el) := by rw [hd]; rw [hk] at hkd; rw [ofDesc_slice hkd]
  obtain ⟨i, z, hi, hsz, hby, hz, hzs, hzr, hz1⟩ := TIok.zero_one (K := K) (w := w) hT hei
  obtain ⟨news, hSrc, hrn⟩ := src_ok (w := w) hT g htx hkx (te.ev x) hsrc hn1
  rw [← hsz] at hSrc
  have hnl : ns.length = n * ei.size := by rw [← hrn.1, hSrc.newsLen, hsz]
  have rs := te.ev s
  have h63 : ((len + n : Nat) : Int) ≤ 9223372036854775807 := by have := hroom.1; omega
  have hfit : Builtin.nextslicecap (len + n) cap * i.bytes ≤ 281474976710656 := growslice_fits hlt (by rw [hby]; exact hroom.2)
  rw [hs] at rs
  have r : R K (.sl b off len cap) (a.eval s) := rs
  obtain ⟨A, c, olds, hv, hro, hol, hA⟩ := src_cells (H := H) (size := ei.size) (n := len) (ns := (cs.drop off).take (len * ei.size)) g rs (by by_cases h0 : len = 0 <;> simp [srcL, hH, hle, h0]) (by simp)
  have hv' : a.eval s = .slice (some ⟨b, off, none⟩) len cap := by generalize a.eval s = u at r; cases r; rfl
  rw [hv'] at hv ⊢
  simp at hv
  obtain ⟨rfl, rfl⟩ := hv
  have hold : (Builtin.firstCells i.size len (.slice (some ⟨b, off, none⟩) len cap)).run P w.drew = .ok olds.toArray w.drew :=
    run_firstCells_some w.drew i.size len _ _ _ olds (by rw [hro.1, hol, hsz]) (fun j u hu => by simpa using hA.2 j u hu)
  have hgr := run_append_grow_src w t tx o.type el i z ht hi hz (some ⟨b, off, none⟩) len cap olds hold (a.eval x) n news hSrc hlt h63 hfit
  obtain ⟨h1, h2, h3⟩ := grow_new g (el := el) (len := len) (n := n) hz1 hzs hro hrn ho1 hn1 hol hnl (c := grownCap w (len + n) cap el) (grownCap_ge _ _ _ _)
  exact ⟨_, _, hgr, _, _, h2, .sl _ _ _ _, h3, hf _ _ h1 (grownCap_ge _ _ _ _)⟩

/-- A copy of nothing. -/
theorem step_copy0 (hT : TOK P T) {t tx el : TypeId} {s x : Operand} {ti ei : TI} (ho : o.op = .call ⟨.builtin .copy, #[s, x], #[t, tx]⟩) (hti : T t = some ti) (hk : ti.kind = .slice el) (hei : T el = some ei)
    {l n : Nat} (hs : ∀ K v, R K (ev e s) v → ∃ A c, v = .slice A l c) (hx : ∀ K v, R K (ev e x) v → ∃ A c, v = .slice A n c) (h0 : min n l = 0) (hbs : (ev e s).glob = true) (hbx : (ev e x).glob = true)
    {Q : LV → Box → OHeap → Prop} (h : Q (.int .i64 0) B H) : Step P o e B H Q := by
  intro K jj w a N g te
  obtain ⟨d, hd, hkd⟩ := (hT t ti hti).und
  have ht : P.underlying t = some (.slice el) := by rw [hd]; rw [hk] at hkd; rw [ofDesc_slice hkd]
  obtain ⟨A, c, h1⟩ := hs K _ ((te.ev s).r (LV.glob_bp hbs))
  obtain ⟨A', c', h2⟩ := hx K _ ((te.ev x).r (LV.glob_bp hbx))
  refine ⟨.value (.int .i64 0), _, w, ?_, .inl rfl, _, B, H, K, jj, g, (R.int _ _).re, te, Fr.refl _ _ _, h⟩
  simp only [execOp, ho]
  simp only [resolve, invoke, builtin]
  have : (Builtin.copy_ #[t, tx] o.type #[a.eval s, a.eval x]).run P w = .ok (goInt 0) w := by
    rw [h1, h2]
    have hmm : Nat.min n l = 0 := h0
    have hlen : (Builtin.lenOf (.slice A' n c')).run P w = .ok n w := rfl
    have hfc : (Builtin.firstCells ei.size 0 (.slice A' n c')).run P w = .ok #[] w := by
      cases A' <;> simp [Builtin.firstCells, loadCells, loadCellsFrom]
    cases A <;> simp [Builtin.copy_, run_underlying ht, hlen, (hT el ei hei).run_size w, hmm, hfc, storeCells]
  simp [this]
  rfl

/-- A slice as a pointer to an array. -/
theorem pf_s2a (hT : TOK P T) {t el : TypeId} {n : Nat} {p : Operand} {ti : TI} (ho : o.op = .sliceToArrayPointer t p) (hti : T t = some ti) (hk : ti.kind = .arr n el) {b off len cap : Nat} (hp : ev e p = .sl b off len cap) (hn : n ≤ len) : Yields P o e B H (.ptr b off) := by
  refine Yields.still fun K jj w a N g te => ?_
  have rp := te.ev p
  rw [hp] at rp
  have r : R K (.sl b off len cap) (a.eval p) := rp
  have ep : a.eval p = .slice (some ⟨b, off, none⟩) len cap := by generalize a.eval p = u at r; cases r; rfl
  refine ⟨.pointer (some ⟨b, off, none⟩), ?_, (R.ptr _ _).re⟩
  simp only [execOp, ho, ep]
  refine run_value ?_
  have : ¬ len < n := by omega
  simp [Instr.arrayAt, (hT t ti hti).run_arr hk w, this]

/-- The marks do not hang on the cells. -/
theorem Good.mark {w' : World} (g : Good K jj B H w) {b : Nat} (hd : ¬ dom H B jj b) (hw : ∀ b', b' ≠ b → w'.heap[b']? = w.heap[b']?) (hc : ∀ o, w'.cell? ⟨b, o, none⟩ = w.cell? ⟨b, o, none⟩) : Good K jj B H w' := {
  know b' o v h := by
    by_cases e : b' = b
    · subst e; rw [hc]; exact g.know _ _ _ h
    · have := g.know _ _ _ h
      simpa only [World.cell?, hw b' e] using this
  own b' o h := (g.own b' o h).same (hw b' fun e => hd (.inl (by subst e; simp [h])))
  apart := g.apart
  box d ver cs h := (g.box d ver cs h).same (hw _ fun e => hd (.inr ⟨d, by simp [h], e⟩))
  boxH := g.boxH
  boxne := g.boxne }
theorem frz_block {b k : Nat} {arr : Array Value} {t : TypeId} {fz : Nat × Nat} (h : w.heap[b]? = some (.cells arr t fz)) : ∃ fz', (w.freeze ⟨b, k, none⟩ 1).heap[b]? = some (.cells arr t fz') := by
  simp [World.freeze, Array.getElem?_modify, h]
theorem frz_other {b k b' : Nat} (h : b' ≠ b) : (w.freeze ⟨b, k, none⟩ 1).heap[b']? = w.heap[b']? := by
  simp [World.freeze, Array.getElem?_modify, Ne.symm h]
/-- A literal row of bytes that stands for a constant string: it is marked, and nobody writes it any more. -/
theorem step_mark (hT : TOK P T) {t el : TypeId} {p : Operand} {ti ei : TI} (ho : o.op = .convert t t p) (hti : T t = some ti) (hk : ti.kind = .slice el) (hei : T el = some ei) (hke : ei.kind = .int .u8)
    {b off len cap n : Nat} {cs : List LV} (hp : ev e p = .sl b off len cap) (hH : H b = some (.cells cs n)) (hle : off + len * ei.size ≤ cs.length) (hlc : len ≤ cap) {Q : LV → Box → OHeap → Prop}
    (h : Q (.isl (decide (cap = len)) ei.size (chunks ei.size len ((cs.drop off).take (len * ei.size)))) B (delH H b)) : Step P o e B H Q := by
  intro K jj w a N g te
  obtain ⟨d2, hd2, hk2⟩ := (hT t ti hti).und
  obtain ⟨d3, hd3, hk3⟩ := (hT el ei hei).und
  have hd : P.underlying t = some (.slice el) := by rw [hd2]; rw [hk] at hk2; rw [ofDesc_slice hk2]
  have he : P.underlying el = some (.int .u8) := by rw [hd3]; rw [hke] at hk3; rw [ofDesc_int hk3]
  have rp := te.ev p
  rw [hp] at rp
  have r : R K (.sl b off len cap) (a.eval p) := rp
  have hv : a.eval p = .slice (some ⟨b, off, none⟩) len cap := by generalize a.eval p = u at r; cases r; rfl
  obtain ⟨K', hle', g1, f1, vs, hr, hK⟩ := sealK g hH
  have r' : R K' (.isl (decide (cap = len)) ei.size (chunks ei.size len ((cs.drop off).take (len * ei.size)))) (a.eval p) := by
    have := R.sealB (es := ei.size) hr hK (r.mono hle')
    simpa [sealV, hle, hlc] using this
  obtain ⟨arr, ty, fz, h1, h2, _⟩ := g.own b _ hH
  obtain ⟨fz', h3⟩ := frz_block (k := arr.size) h1
  have hlt : b < w.heap.size := (Array.getElem?_eq_some_iff.1 h1).1
  have hnd : ¬ dom (delH H b) B jj b := by
    rintro (h | ⟨d, h, hj⟩)
    · simp at h
    · have := g.boxH d h; rw [hj, hH] at this; cases this
  have g2 : Good K' jj B (delH H b) (w.freeze ⟨b, arr.size, none⟩ 1) := g1.mark hnd (fun b' hb => frz_other hb) fun o => by simp only [World.cell?, h1, h3]
  refine ⟨.value (.slice (some ⟨b, off, none⟩) len cap), _, w.freeze ⟨b, arr.size, none⟩ 1, ?_, .inl rfl, _, B, _, K', jj, g2, by rw [← hv]; exact r'.re, te.mono hle', ?_, h⟩
  · have hsh : w.shape? b = some (ty, arr.size) := by unfold World.shape?; rw [h1]
    simp only [execOp, ho, hv]
    refine run_value ?_
    simp [convert, run_underlying hd, run_underlying he, markStringish, hsh]
  · refine ⟨f1.os, f1.tape, f1.output, by simp [World.freeze], fun b' hb hn => ?_, f1.le, f1.newK, fun b' h => f1.newD b' h⟩
    exact frz_other fun e => hn (by subst e; exact .inl (by simp [hH]))
end
end Go.Lv
/- Xe, part B: a machine that runs a closed call: what it holds, and what each operation does. Over any program; no condition. -/
namespace Go.Xv
open Go Go.Lv
set_option linter.unusedVariables false
set_option linter.unusedSimpArgs false

/-! ### Tries -/
inductive Tr (α : Type) where
  | em
  | nd (v : Option α) (l r : Tr α)
def Tr.get {α : Type} : Tr α → Nat → Option α
  | .em, _ => none
  | .nd v l r, k => match k with
    | 0 => v
    | k + 1 => match k % 2 with
      | 0 => l.get (k / 2)
      | _ => r.get (k / 2)
def Tr.set {α : Type} : Nat → Tr α → Nat → Option α → Tr α
  | 0, t, _, _ => t
  | f + 1, .em, k, o => match k with
    | 0 => .nd o .em .em
    | k + 1 => match k % 2 with
      | 0 => .nd none (Tr.set f .em (k / 2) o) .em
      | _ => .nd none .em (Tr.set f .em (k / 2) o)
  | f + 1, .nd v l r, k, o => match k with
    | 0 => .nd o l r
    | k + 1 => match k % 2 with
      | 0 => .nd v (Tr.set f l (k / 2) o) r
      | _ => .nd v l (Tr.set f r (k / 2) o)
theorem Tr.get_em {α : Type} (k : Nat) : (Tr.em : Tr α).get k = none := by unfold Tr.get; rfl
theorem Tr.get_nd {α : Type} (v : Option α) (l r : Tr α) (k : Nat) : (Tr.nd v l r).get (k + 1) = if k % 2 = 0 then l.get (k / 2) else r.get (k / 2) := by
  rw [Tr.get]
  split
  · rename_i h; rw [if_pos h]
  · rename_i h; rw [if_neg h]
theorem Tr.set_em {α : Type} (f k : Nat) (o : Option α) : Tr.set (f + 1) .em (k + 1) o = if k % 2 = 0 then .nd none (Tr.set f .em (k / 2) o) .em else .nd none .em (Tr.set f .em (k / 2) o) := by
  rw [Tr.set]
  split
  · rename_i h; rw [if_pos h]
  · rename_i h; rw [if_neg h]
theorem Tr.set_nd {α : Type} (v : Option α) (l r : Tr α) (f k : Nat) (o : Option α) : Tr.set (f + 1) (.nd v l r) (k + 1) o = if k % 2 = 0 then .nd v (Tr.set f l (k / 2) o) r else .nd v l (Tr.set f r (k / 2) o) := by
  rw [Tr.set]
  split
  · rename_i h; rw [if_pos h]
  · rename_i h; rw [if_neg h]
theorem Tr.get_set {α : Type} (o : Option α) : ∀ (f : Nat) (t : Tr α) (k j : Nat), k < f → (Tr.set f t k o).get j = if j = k then o else t.get j
  | 0, _, _, _, h => by omega
  | f + 1, t, 0, 0, h => by cases t <;> rfl
  | f + 1, .em, 0, j + 1, h => by
    rw [show Tr.set (f + 1) (.em : Tr α) 0 o = .nd o .em .em from rfl, Tr.get_nd, Tr.get_em, Tr.get_em]; simp
  | f + 1, .nd v l r, 0, j + 1, h => by
    rw [show Tr.set (f + 1) (.nd v l r) 0 o = .nd o l r from rfl, Tr.get_nd, Tr.get_nd]; simp
  | f + 1, .em, k + 1, 0, h => by
    rw [Tr.set_em]; split <;> simp [Tr.get]
  | f + 1, .nd v l r, k + 1, 0, h => by
    rw [Tr.set_nd]; split <;> simp [Tr.get]
  | f + 1, .em, k + 1, j + 1, h => by
    have hk : k / 2 < f := by omega
    rw [Tr.set_em, Tr.get_em]
    by_cases h1 : k % 2 = 0 <;> by_cases h2 : j % 2 = 0 <;> by_cases h3 : j / 2 = k / 2 <;>
      simp only [h1, h2, h3, if_true, if_false, Tr.get_nd, Tr.get_em, Tr.get_set o f .em (k / 2) _ hk] <;> split <;> first | rfl | omega
  | f + 1, .nd v l r, k + 1, j + 1, h => by
    have hk : k / 2 < f := by omega
    rw [Tr.set_nd, Tr.get_nd]
    by_cases h1 : k % 2 = 0 <;> by_cases h2 : j % 2 = 0 <;> by_cases h3 : j / 2 = k / 2 <;>
      simp only [h1, h2, h3, if_true, if_false, Tr.get_nd, Tr.get_set o f _ (k / 2) _ hk] <;> split <;> first | rfl | omega

/-! ### The state -/
/-- A block: cells, how many there are in all (plus one; 0: unknown), the size of its elements; or a map; or cells that are only read. -/
inductive XO where
  | cells (cs : List LV) (kn es : Nat)
  | map (m : List (LV × LV × Nat)) (c : Nat)
  | ro (cs : List LV)
/-- Blocks by number, the next number, the loop that has been left and how, boxes of a drawn region. -/
structure XS where
  t : Tr XO
  nx : Nat
  br : Option (Nat × Ex)
  bx : List (Nat × List LV)
def XS.new (s : XS) (o : XO) : XS := { s with t := Tr.set (s.nx + 1) s.t s.nx (some o), nx := s.nx + 1 }
def XS.upd (s : XS) (v : Nat) (o : Option XO) : XS := { s with t := Tr.set (v + 1) s.t v o }
abbrev ET := Tr LV
def eget (e : ET) (k : Nat) : LV := match e.get k with | some v => v | none => .any
def eset (e : ET) (k : Nat) (x : LV) : ET := Tr.set (k + 1) e k (some x)
theorem eget_eset (e : ET) (k : Nat) (x : LV) (j : Nat) : eget (eset e k x) j = if j = k then x else eget e j := by
  unfold eget eset; rw [Tr.get_set _ _ _ _ _ (Nat.lt_succ_self k)]; by_cases h : j = k <;> simp [h]
def eofL : List LV → Nat → ET → ET
  | [], _, t => t
  | x :: l, i, t => eofL l (i + 1) (eset t i x)
/-- How many globals there may be. -/
def gN : Nat := 1024
def xev (e : ET) : Operand → LV
  | .tmp t => eget e t
  | .const v => ofV v
  | .global g => if g < gN then .ptr g 0 else .any
  | .func f => .fn f [] []
def xevs (e : ET) (a : Array Operand) : List LV := a.toList.map (xev e)
def xparts (e : ET) (a : Array (Nat × Operand)) : List (Nat × LV) := a.toList.map fun p => (p.1, xev e p.2)
/-- It may be handed on. -/
def hand : LV → Bool | .any | .bp .. => false | _ => true
def lkb : List (Nat × List LV) → Nat → Option (List LV)
  | [], _ => none
  | x :: r, d => if x.1 = d then some x.2 else lkb r d
def stb : List (Nat × List LV) → Nat → List LV → List (Nat × List LV)
  | [], _, _ => []
  | x :: r, d, cs => if x.1 = d then (d, cs) :: r else x :: stb r d cs

/-! ### The operations -/
abbrev XR := Option (LV × XS)
def lft (s : XS) : Option LV → XR
  | some v => some (v, s)
  | none => none
def xcells (s : XS) : LV → Option (List LV)
  | .bp d _ off => (lkb s.bx d).map (·.drop off)
  | .ptr v off => match s.t.get v with | some (.cells cs _ _) => some (cs.drop off) | some (.ro cs) => some (cs.drop off) | _ => none
  | .iptr cs => some cs
  | _ => none
def xload (T : Tab) (s : XS) (t : TypeId) (p : LV) : Option LV := match T t, xcells s p with
  | some ti, some cs => pick ti cs
  | _, _ => none
def xpadd (s : XS) (p : LV) (n : Nat) : Option LV := match p with
  | .bp d k off => match lkb s.bx d with | some _ => some (.bp d k (off + n)) | none => none
  | .ptr b off => some (.ptr b (off + n))
  | .iptr cs => if n ≤ cs.length then some (.iptr (cs.drop n)) else none
  | _ => none
def xnc (s : XS) (x : LV) : XR := match x with
  | .bp d _ _ => match lkb s.bx d with | some _ => some (x, s) | none => none
  | x => match notNil x with | true => some (x, s) | false => none
def xfa (T : Tab) (s : XS) (t : TypeId) (p : LV) (f : Nat) : Option LV := match T t with
  | some ti => match ti.kind with
    | .struct fs => match fs[f]? with
      | some (ft, off) => match T ft with
        | some fi => if fi.size = 0 then none else xpadd s p off
        | none => none
      | none => none
    | _ => none
  | none => none
def xia (T : Tab) (s : XS) (t : TypeId) (p i : LV) : Option LV := match T t, i with
  | some ti, .int _ n => match ti.kind with
    | .slice el => match T el with
      | some ei => match p with
        | .sl b off len cap => if 0 ≤ n ∧ n < len then some (.ptr b (off + n.toNat * ei.size)) else none
        | .isl _ es xs => if 0 ≤ n ∧ es = ei.size then (match xs[n.toNat]? with | some y => some (.iptr y) | none => none) else none
        | _ => none
      | none => none
    | .arr m el => match T el with
      | some ei => if 0 ≤ n ∧ n < m then xpadd s p (n.toNat * ei.size) else none
      | none => none
    | _ => none
  | _, _ => none
def xslice (T : Tab) (s : XS) (t : TypeId) (p : LV) (lo hi mx : Option LV) : Option LV := match T t with
  | some ti => match ti.kind with
    | .str => match p with
      | .str b => match mx, bnds b.size b.size lo hi none with
        | none, some (l, h, _) => some (.str (b.extract l h))
        | _, _ => none
      | _ => none
    | .slice el => match T el with
      | some ei => match p with
        | .sl v off len k => match k % 2 with
          | 0 => match bnds len (k / 2) lo hi mx with
            | some (l, h, m) => if mx.isSome then (if k / 2 = 0 then none else some (.sl v (if m = l then off else off + l * ei.size) (h - l) (2 * (m - l) + 1)))
              else match s.t.get v with
                | some (.cells _ _ es) => if es = ei.size then some (.sl v (off + l * ei.size) (h - l) (2 * (m - l))) else none
                | _ => none
            | none => none
          | _ => match bnds len (k / 2) lo hi mx with
            | some (l, h, m) => some (.sl v (if m = l then off else off + l * ei.size) (h - l) (2 * (m - l) + 1))
            | none => none
        | .isl f es xs => if es = ei.size then (match bnds xs.length xs.length lo hi mx with
          | some (l, h, m) => some (.isl (if mx.isSome then decide (m = h) else f && decide (h = xs.length)) es ((xs.take h).drop l))
          | none => none) else none
        | .nilsl => match bnds 0 0 lo hi mx with | some _ => some .nilsl | none => none
        | .wsl => match bnds 0 0 lo hi mx with | some _ => some .wsl | none => none
        | _ => none
      | none => none
    | .arr n el => match T el, p with
      | some ei, .ptr v off => match bnds n n lo hi mx with
        | some (l, h, m) => some (.sl v (if m = l then off else off + l * ei.size) (h - l) (2 * (m - l) + 1))
        | none => none
      | _, _ => none
    | _ => none
  | none => none
def xif (T : Tab) (t : TypeId) (p : LV) : Option LV := match T t with
  | some ti => if ti.kind ≠ .iface ∧ hand p = true then some (.ifc t p) else none
  | none => none
def xmf (f : Fn) (fst caps : List LV) : Option LV := match f with
  | .func f => if fst.all hand = true ∧ caps.all hand = true then some (.fn f fst caps) else none
  | _ => none
def bld (T : Tab) (t : TypeId) (ps : List (Nat × LV)) : Option LV := match T t with
  | some ti => match ti.kind with
    | .struct fs => if (fs.all fun f => (T f.1).isSome) = true then
        (fillL (fun i => (fs[i]?).map fun f => (f.2, ((T f.1).map (·.size)).getD 0)) ti.zero ps).map .agg else none
    | .arr _ el => match T el with
      | some ei => (fillL (fun i => some (i * ei.size, ei.size)) ti.zero ps).map .agg
      | none => none
    | _ => none
  | none => none
def kElem (T : Tab) (t : TypeId) : Option TI := match T t with
  | some ti => (match ti.kind with | .slice el => T el | _ => none)
  | none => none
def bsl (T : Tab) (t : TypeId) (n : Nat) (ps : List (Nat × LV)) : Option (TI × List LV) := match kElem T t with
  | some ei => if n * ei.size ≤ 16777216 then (fillL (fun i => some (i * ei.size, ei.size)) (zerosL ei.zero n) ps).map fun cs => (ei, cs) else none
  | none => none
def xsrc (s : XS) (size : Nat) : LV → Option (Nat × List LV)
  | .nilsl => some (0, [])
  | .wsl => some (0, [])
  | .isl _ e xs => if e = size ∧ xs.flatten.all LV.one = true ∧ xs.flatten.length = xs.length * size then some (xs.length, xs.flatten) else none
  | .sl v off l _ => if l = 0 then some (0, []) else match s.t.get v with
    | some (.cells cs _ _) => if off + l * size ≤ cs.length then some (l, (cs.drop off).take (l * size)) else none
    | _ => none
  | .str x => if size = 1 then some (x.size, x.data.toList.map fun b => .int .u8 b.toNat) else none
  | _ => none
def xconv (T : Tab) (s : XS) (a d : TypeId) (p : LV) : Option LV := match p with
  | .int k n => pfConv T a d (.int k n)
  | .str x => match T d with
    | some di => match di.kind with
      | .slice el => s2bL T a el x
      | _ => pfConv T a d (.str x)
    | none => none
  | p => match T a, T d with
    | some si, some di => match si.kind with
      | .slice el => match T el with
        | some ei => if di.kind = .str ∧ ei.kind = .int .u8 then (match xsrc s 1 p with | some (_, ns) => (bytesOf ns).map fun l => .str ⟨l.toArray⟩ | none => none) else none
        | none => none
      | _ => none
    | _, _ => none
def xlen (T : Tab) (s : XS) (t : TypeId) (p : LV) : Option LV := match T t with
  | some ti => match ti.kind, p with
    | .str, .str x => some (.int .i64 x.size)
    | .arr n _, _ => some (.int .i64 n)
    | .slice _, .sl _ _ len _ => some (.int .i64 len)
    | .slice _, .isl _ _ xs => some (.int .i64 xs.length)
    | .slice _, .nilsl => some (.int .i64 0)
    | .slice _, .wsl => some (.int .i64 0)
    | .map .., .nilm => some (.int .i64 0)
    | .map .., .mp b => match s.t.get b with
      | some (.map m _) => some (.int .i64 m.length)
      | _ => none
    | _, _ => none
  | none => none
def xcap (T : Tab) (t : TypeId) (p : LV) : Option LV := match T t with
  | some ti => match ti.kind, p with
    | .arr n _, _ => some (.int .i64 n)
    | .slice _, .sl _ _ _ k => if k % 2 = 1 then some (.int .i64 (k / 2 : Nat)) else none
    | .slice _, .isl true _ xs => some (.int .i64 xs.length)
    | .slice _, .nilsl => some (.int .i64 0)
    | .slice _, .wsl => some (.int .i64 0)
    | _, _ => none
  | none => none
/-- Where cells are written. -/
def xst (s : XS) (p : LV) (ns : List LV) : Option XS := match p with
  | .bp d _ off => match lkb s.bx d with
    | some cs => if off + ns.length ≤ cs.length then some { s with bx := stb s.bx d (seg cs off ns) } else none
    | none => none
  | .ptr v off => match s.t.get v with
    | some (.cells cs kn es) => if off + ns.length ≤ cs.length then some (s.upd v (some (.cells (seg cs off ns) kn es))) else none
    | _ => none
  | _ => none
def xstore (T : Tab) (s : XS) (t : TypeId) (p x : LV) : XR := match T t, Lv.lcells x with
  | some ti, some ns => if ns.length = ti.size then (match xst s p ns with | some s' => some (.any, s') | none => none) else none
  | _, _ => none
def xms (T : Tab) (s : XS) (t : TypeId) (l c : LV) : XR := match kElem T t, l, c with
  | some ei, .int _ ln, .int _ cn => if 0 ≤ ln ∧ ln ≤ cn ∧ (ei.bytes : Int) * cn ≤ 281474976710656 ∧ cn ≤ 9223372036854775807 then
      some (.sl s.nx 0 ln.toNat (2 * cn.toNat + 1), s.new (.cells (zerosL ei.zero cn.toNat) (cn.toNat * ei.size + 1) ei.size)) else none
  | _, _, _ => none
def srcK (k : TK) : LV → Bool
  | .str _ => decide (k = .str)
  | .int _ _ => match k with | .int _ => true | _ => false
  | _ => match k with | .slice _ => true | _ => false
def roomB (need bytes : Nat) : Bool := decide (need ≤ 9223372036854775807) && decide (need * bytes ≤ 140737488355328)
/-- There is that much room. -/
def capOk (off c size : Nat) (cs : List LV) (kn : Nat) : Bool := Nat.ble (off + c * size) cs.length || (Nat.blt 0 kn && Nat.ble (off + c * size + 1) kn)
/-- append; in a drawn region (dr) what is too small dies. -/
def xapp (s : XS) (dr : Bool) (ei : TI) (a x : LV) : XR := match xsrc s ei.size x with
  | none => none
  | some (n, ns) => if n = 0 then (match a with
      | .nilsl => some (a, s)
      | .sl v off len k => match s.t.get v with
        | some (.cells cs kn es) => if off + len * ei.size ≤ cs.length ∧ es = ei.size then
            (match k % 2 with
            | 0 => if len ≤ k / 2 ∧ 0 < k / 2 then some (a, s) else none
            | _ => if len ≤ k / 2 ∧ capOk off (k / 2) ei.size cs kn = true then some (a, s) else none) else none
        | _ => none
      | _ => none) else match a with
    | .nilsl => if roomB n ei.bytes && Nat.blt 0 ei.size then some (.sl s.nx 0 n (2 * n), s.new (.cells ns 0 ei.size)) else none
    | .isl true e xs => if e = ei.size ∧ roomB (xs.length + n) ei.bytes ∧ xs.flatten.all LV.one = true ∧ 0 < e ∧ xs.flatten.length = xs.length * e then some (.sl s.nx 0 (xs.length + n) (2 * (xs.length + n)), s.new (.cells (xs.flatten ++ ns) 0 ei.size)) else none
    | .sl v off len k => match s.t.get v with
      | some (.cells cs kn es) => if off + len * ei.size ≤ cs.length then match k % 2 with
        | 0 => if es = ei.size then (if len + n ≤ k / 2 then some (.sl v off (len + n) k, s.upd v (some (.cells (seg cs (off + len * ei.size) ns) kn es)))
          else if roomB (len + n) ei.bytes && Nat.blt 0 es && Nat.blt 0 (k / 2) then some (.sl s.nx 0 (len + n) (2 * (len + n)), (s.upd v none).new (.cells ((cs.drop off).take (len * ei.size) ++ ns) 0 ei.size)) else none) else none
        | _ => if k / 2 < len + n then (if roomB (len + n) ei.bytes && Nat.blt 0 ei.size then (match dr with
            | false => some (.sl s.nx 0 (len + n) (2 * (len + n)), s.new (.cells ((cs.drop off).take (len * ei.size) ++ ns) 0 ei.size))
            | true => if capOk off (k / 2) ei.size cs kn = true then some (.sl s.nx 0 (len + n) (2 * (len + n)), (s.upd v none).new (.cells ((cs.drop off).take (len * ei.size) ++ ns) 0 ei.size)) else none) else none)
          else if capOk off (k / 2) ei.size cs kn = true then some (.sl v off (len + n) k, s.upd v (some (.cells (seg cs (off + len * ei.size) ns) kn es))) else none
        else none
      | _ => none
    | _ => none
def slen : LV → Option Nat
  | .nilsl | .wsl => some 0
  | .sl _ _ l _ => some l
  | .isl _ _ xs => some xs.length
  | _ => none
def xcopy (s : XS) (dr : Bool) (ei : TI) (a x : LV) : XR := match slen a, slen x with
  | some l, some n => if min n l = 0 ∧ dr = false then some (.int .i64 0, s) else match a with
    | .sl v off len _ => match s.t.get v, xsrc s ei.size (cutL len x) with
      | some (.cells cs kn es), some (n, ns) => if off + min n len * ei.size ≤ cs.length ∧ 0 < len then
          some (.int .i64 (min n len : Nat), s.upd v (some (.cells (seg cs off (ns.take (min n len * ei.size))) kn es))) else none
      | _, _ => none
    | _ => none
  | _, _ => none
def xclear (s : XS) (ei : TI) (a : LV) : XR := match a with
  | .sl v off len _ => match s.t.get v with
    | some (.cells cs kn es) => if off + len * ei.size ≤ cs.length ∧ 0 < len then some (.tup [], s.upd v (some (.cells (seg cs off (zerosL ei.zero len)) kn es))) else none
    | _ => none
  | _ => none
def mapKV (T : Tab) (t : TypeId) : Option (TI × TI) := match T t with
  | some ti => (match ti.kind with
     | .map kt vt => (match T kt, T vt with | some ki, some ei => some (ki, ei) | _, _ => none)
     | _ => none)
  | none => none
def xlook (T : Tab) (s : XS) (t : TypeId) (m k : LV) (ok : Bool) : Option LV := match mapKV T t, (match m with | .nilm => some [] | .mp b => (match s.t.get b with | some (.map es _) => some es | _ => none) | _ => none) with
  | some (ki, ei), some es => if ki.kind.keyish = true ∧ hand k = true then (match findL ki.kind k es 0 with
     | some (some (_, v)) => some (okL ok v true)
     | some none => (zeroOne ei).map fun z => okL ok z false
     | none => none) else none
  | _, _ => none
def xmu (T : Tab) (s : XS) (t : TypeId) (m k v : LV) : XR := match mapKV T t, m with
  | some (ki, ei), .mp b => (match s.t.get b with
     | some (.map es c) => if ki.kind.keyish = true ∧ hand k = true ∧ hand v = true then (match findL ki.kind k es 0 with
          | some (some (i, _)) => some (.any, s.upd b (some (.map (es.modify i fun x => (x.1, v, x.2.2)) c)))
          | some none => some (.any, s.upd b (some (.map (es ++ [(k, v, c)]) (c + 1))))
          | none => none) else none
     | _ => none)
  | _, _ => none
def xme (T : Tab) (s : XS) (t : TypeId) (m k : LV) : XR := match mapKV T t, m with
  | some (ki, ei), .mp b => (match s.t.get b with
     | some (.map es c) => if ki.kind.keyish = true ∧ hand k = true then (match findL ki.kind k es 0 with
          | some (some (i, v)) => (match es[i]? with | some x => some (.tup [v, .int .i64 x.2.2], s) | none => none)
          | some none => (match zeroOne ei with | some z => some (.tup [z, .int .i64 c], s.upd b (some (.map (es ++ [(k, z, c)]) (c + 1)))) | none => none)
          | none => none) else none
     | _ => none)
  | _, _ => none
def xes (s : XS) (m en v : LV) : XR := match m, en with
    | .mp b, .int .i64 n => (match s.t.get b with
      | some (.map es c) => if 0 ≤ n ∧ hand v = true then (match es.findIdx? (fun x => decide (x.2.2 = n.toNat)) with
        | some i => some (.any, s.upd b (some (.map (es.modify i fun x => (x.1, v, x.2.2)) c)))
        | none => none) else none
      | _ => none)
    | _, _ => none
def xdel (T : Tab) (s : XS) (t : TypeId) (m k : LV) : XR := match mapKV T t, m with
  | some (ki, ei), .mp b => (match s.t.get b with
     | some (.map es c) => if ki.kind.keyish = true ∧ hand k = true then (match findL ki.kind k es 0 with
          | some (some (i, _)) => some (.tup [], s.upd b (some (.map (es.eraseIdx i) c)))
          | some none => some (.tup [], s)
          | none => none) else none
     | _ => none)
  | _, _ => none
def xbi (T : Tab) (s : XS) (dr : Bool) (b : Builtin) (ar : List LV) (ts : List TypeId) : XR := match b with
  | .len => (match ar, ts with | [p], [t] => lft s (xlen T s t p) | _, _ => none)
  | .cap => (match ar, ts with | [p], [t] => lft s (xcap T t p) | _, _ => none)
  | .min => (match ar, ts with | [p, q], [_, _] => lft s (pfMin p q) | _, _ => none)
  | .max => (match ar, ts with | [p, q], [_, _] => lft s (pfMax p q) | _, _ => none)
  | .append => (match ar, ts with | [a, x], [t, tx] => (match kElem T t, T tx with | some ei, some tix => (match srcK tix.kind x with | true => xapp s dr ei a x | false => none) | _, _ => none) | _, _ => none)
  | .copy => (match ar, ts with | [a, x], [t, _] => (match kElem T t with | some ei => xcopy s dr ei a x | none => none) | _, _ => none)
  | .clear => (match ar, ts with | [a], [t] => (match kElem T t with | some ei => xclear s ei a | none => none) | _, _ => none)
  | .delete => (match ar, ts with | [a, x], [t, _] => xdel T s t a x | _, _ => none)
  | _ => none
def xalloc (T : Tab) (s : XS) (dr : Bool) (d : Option Tmp) (t : TypeId) : XR := match T t with
  | some ti => match dr with
    | false => some (.ptr s.nx 0, s.new (.cells ti.zero (ti.size + 1) ti.size))
    | true => match d with
      | some d => (match lkb s.bx d with | some _ => none | none => some (.bp d 0 0, { s with bx := (d, ti.zero) :: s.bx }))
      | none => none
  | none => none
def xbox (s : XS) (dr : Bool) (x : LV) : XR := match dr, Lv.lcells x with
  | false, some cs => some (.ptr s.nx 0, s.new (.cells cs (cs.length + 1) cs.length))
  | _, _ => none
def xbs (T : Tab) (s : XS) (dr : Bool) (t : TypeId) (n : Nat) (ps : List (Nat × LV)) : XR := match bsl T t n ps with
  | some (ei, cs) => match dr with
    | false => some (.sl s.nx 0 n (2 * n + 1), s.new (.cells cs (n * ei.size + 1) ei.size))
    | true => some (.isl true ei.size (chunks ei.size n cs), s)
  | none => none
def xs2a (T : Tab) (s : XS) (dr : Bool) (t : TypeId) (p : LV) : XR := match T t, p, dr with
  | some ti, .sl v off len _, false => match ti.kind with
    | .arr n _ => if 0 < n ∧ n ≤ len then some (.ptr v off, s) else none
    | _ => none
  | _, _, _ => none
/-- Bytes of a constant string. -/
def xmark (T : Tab) (s : XS) (dr : Bool) (t : TypeId) (p : LV) : XR := match p, dr with
  | .sl v off len k, false => match kElem T t, s.t.get v with
    | some ei, some (.cells cs _ _) => if ei.kind = .int .u8 ∧ off + len * ei.size ≤ cs.length ∧ k % 2 = 1 ∧ 0 < len then
        some (.isl (decide (k / 2 = len)) ei.size (chunks ei.size len ((cs.drop off).take (len * ei.size))), s.upd v none) else none
    | _, _ => none
  | _, _ => none
/-- An operation that calls nobody. -/
def xop (T : Tab) (dr : Bool) (o : Op) (d : Option Tmp) (e : ET) (s : XS) : XR := match o with
  | .move p => some (xev e p, s)
  | .assign p => some (xev e p, s)
  | .pick c p q => lft s (pfPick (xev e c) (xev e p) (xev e q))
  | .load t p => lft s (xload T s t (xev e p))
  | .nilCheck p => xnc s (xev e p)
  | .binOp op t p q _ => lft s (binL T op t (xev e p) (xev e q))
  | .unOp op _ p => lft s (pfUn op (xev e p))
  | .convert a d p => (match Nat.beq a d with | true => xmark T s dr a (xev e p) | false => lft s (xconv T s a d (xev e p)))
  | .sliceToArrayPointer t p => xs2a T s dr t (xev e p)
  | .fieldAddr t p f => lft s (xfa T s t (xev e p) f)
  | .field t p f => lft s (pfField T t (xev e p) f)
  | .indexAddr t p i => lft s (xia T s t (xev e p) (xev e i))
  | .index t p i => lft s (pfIndex T t (xev e p) (xev e i))
  | .slice t p lo hi mx => lft s (xslice T s t (xev e p) (lo.map (xev e)) (hi.map (xev e)) (mx.map (xev e)))
  | .extract p i => lft s (pfExtract (xev e p) i)
  | .makeInterface t p => lft s (xif T t (xev e p))
  | .makeFunc f fst caps => lft s (xmf f (xevs e fst) (xevs e caps))
  | .build t ps => lft s (bld T t (xparts e ps))
  | .buildSlice t n ps => xbs T s dr t n (xparts e ps)
  | .alloc t => xalloc T s dr d t
  | .box t x => xbox s dr (xev e x)
  | .store t p x => xstore T s t (xev e p) (xev e x)
  | .makeSlice t l c => xms T s t (xev e l) (xev e c)
  | .makeMap _ none => some (.mp s.nx, s.new (.map [] 0))
  | .lookup t m k ok => lft s (xlook T s t (xev e m) (xev e k) ok)
  | .mapUpdate t m k v => xmu T s t (xev e m) (xev e k) (xev e v)
  | .mapEntry t m k => xme T s t (xev e m) (xev e k)
  | .entryStore _ m en v => xes s (xev e m) (xev e en) (xev e v)
  | .call c => (match c.callee with
    | .builtin b => xbi T s dr b (xevs e c.args) c.argTypes.toList
    | _ => none)
  | _ => none
end Go.Xv
/- Xe, part C: what relates the machine's state to a walk's: numbers to blocks. Over any program; no condition. -/
namespace Go.Xv
open Go Go.Lv
set_option linter.unusedVariables false
set_option linter.unusedSimpArgs false

/-- Where a number's block lies: the block, from which cell on, how many cells it has, the size of its elements. -/
structure MI where
  b : Nat
  δ : Nat
  n : Nat
  es : Nat
abbrev VM := Nat → Option MI
def Mle (m m' : VM) : Prop := ∀ v i, m v = some i → m' v = some i
theorem Mle.refl (m : VM) : Mle m m := fun _ _ h => h
theorem Mle.trans {m m' m'' : VM} (h : Mle m m') (h' : Mle m' m'') : Mle m m'' := fun v i x => h' v i (h v i x)
def base : LV → Bool
  | .bool _ | .int .. | .str _ | .nilp | .nilsl | .wsl | .nilm | .nilf | .nilif => true
  | _ => false
inductive Tv (m : VM) : LV → LV → Prop
  | any (y : LV) (h : y.glob = true) : Tv m .any y
  | base (x : LV) (h : base x = true) : Tv m x x
  | ptr (v o : Nat) (i : MI) (h : m v = some i) : Tv m (.ptr v o) (.ptr i.b (i.δ + o))
  | sl (v o l k o' c : Nat) (i : MI) (h : m v = some i) (hl : l ≤ c) (hk : (k % 2 = 1 ∧ c = k / 2 ∧ o' = i.δ + o) ∨ (k % 2 = 0 ∧ k / 2 ≤ c ∧ o' + c * i.es ≤ i.n ∧ i.δ + o + c * i.es = i.n ∧ 0 < i.es ∧ (o' = i.δ + o ∨ c = 0))) :
      Tv m (.sl v o l k) (.sl i.b o' l c)
  | isl (f : Bool) (e : Nat) (xs ys : List (List LV)) (hl : ys.length = xs.length) (he : ∀ (i : Nat) x y, xs[i]? = some x → ys[i]? = some y → y.length = x.length)
      (h : ∀ (i j : Nat) x y a b, xs[i]? = some x → ys[i]? = some y → x[j]? = some a → y[j]? = some b → Tv m a b) : Tv m (.isl f e xs) (.isl f e ys)
  | iptr (cs ds : List LV) (hl : ds.length = cs.length) (h : ∀ (i : Nat) x y, cs[i]? = some x → ds[i]? = some y → Tv m x y) : Tv m (.iptr cs) (.iptr ds)
  | mp (v : Nat) (i : MI) (h : m v = some i) : Tv m (.mp v) (.mp i.b)
  | yld (v : Nat) (i : MI) (h : m v = some i) : Tv m (.yld v) (.yld i.b)
  | fn (f : FuncId) (us bs us' bs' : List LV) (hl : us'.length = us.length) (hm : bs'.length = bs.length) (h : ∀ (i : Nat) x y, us[i]? = some x → us'[i]? = some y → Tv m x y)
      (h' : ∀ (i : Nat) x y, bs[i]? = some x → bs'[i]? = some y → Tv m x y) : Tv m (.fn f us bs) (.fn f us' bs')
  | ifc (t : TypeId) (x y : LV) (h : Tv m x y) : Tv m (.ifc t x) (.ifc t y)
  | agg (cs ds : List LV) (hl : ds.length = cs.length) (h : ∀ (i : Nat) x y, cs[i]? = some x → ds[i]? = some y → Tv m x y) : Tv m (.agg cs) (.agg ds)
  | tup (cs ds : List LV) (hl : ds.length = cs.length) (h : ∀ (i : Nat) x y, cs[i]? = some x → ds[i]? = some y → Tv m x y) : Tv m (.tup cs) (.tup ds)
section
variable {m m' : VM} {x y : LV} {cs ds : List LV}
theorem Tv.mono (hle : Mle m m') (h : Tv m x y) : Tv m' x y := by
  induction h with
  | any y h => exact .any y h
  | base x h => exact .base x h
  | ptr v o i h => exact .ptr v o i (hle _ _ h)
  | sl v o l k o' c i h hl hk => exact .sl v o l k o' c i (hle _ _ h) hl hk
  | isl f e xs ys hl he h ih => exact .isl f e xs ys hl he ih
  | iptr cs ds hl h ih => exact .iptr cs ds hl ih
  | mp v i h => exact .mp v i (hle _ _ h)
  | yld v i h => exact .yld v i (hle _ _ h)
  | fn f us bs us' bs' hl hm h h' ih ih' => exact .fn f us bs us' bs' hl hm ih ih'
  | ifc t x y h ih => exact .ifc t x y ih
  | agg cs ds hl h ih => exact .agg cs ds hl ih
  | tup cs ds hl h ih => exact .tup cs ds hl ih
theorem Tv.glob (h : Tv m x y) : y.glob = true := by
  cases h with
  | any y h => exact h
  | base x h => cases x <;> first | rfl | simp [Xv.base] at h
  | _ => rfl
theorem Tv.one (h : Tv m x y) (ho : x.one = true) : y.one = true := by
  cases h with
  | any y h => simp [LV.one] at ho
  | base x h => exact ho
  | agg => simp [LV.one] at ho
  | tup => simp [LV.one] at ho
  | _ => rfl
/-- Lists, one by one. -/
def Tvs (m : VM) (cs ds : List LV) : Prop := ds.length = cs.length ∧ ∀ (i : Nat) x y, cs[i]? = some x → ds[i]? = some y → Tv m x y
theorem Tvs.mono (hle : Mle m m') (h : Tvs m cs ds) : Tvs m' cs ds := ⟨h.1, fun i x y a b => (h.2 i x y a b).mono hle⟩
theorem Tvs.nil (m : VM) : Tvs m [] [] := ⟨rfl, fun i x y h => by simp at h⟩
theorem Tvs.cons (h : Tv m x y) (hs : Tvs m cs ds) : Tvs m (x :: cs) (y :: ds) := ⟨by simp [hs.1], fun i a b ha hb => by
  cases i with
  | zero => simp at ha hb; subst ha; subst hb; exact h
  | succ i => simp at ha hb; exact hs.2 i a b ha hb⟩
theorem Tvs.head (h : Tvs m (x :: cs) (y :: ds)) : Tv m x y := h.2 0 x y rfl rfl
theorem Tvs.tail (h : Tvs m (x :: cs) (y :: ds)) : Tvs m cs ds := ⟨by have := h.1; simpa using this, fun i a b ha hb => h.2 (i + 1) a b (by simpa using ha) (by simpa using hb)⟩
theorem Tvs.nil_inv (h : Tvs m [] ds) : ds = [] := List.eq_nil_of_length_eq_zero (by simpa using h.1)
theorem Tvs.cons_inv (h : Tvs m (x :: cs) ds) : ∃ y ds', ds = y :: ds' ∧ Tv m x y ∧ Tvs m cs ds' := by
  cases ds with
  | nil => have := h.1; simp at this
  | cons y ds' => exact ⟨y, ds', rfl, h.head, h.tail⟩
theorem Tvs.get (h : Tvs m cs ds) {i : Nat} (hx : cs[i]? = some x) : ∃ y, ds[i]? = some y ∧ Tv m x y := by
  have hi : i < cs.length := (List.getElem?_eq_some_iff.1 hx).1
  have hi' : i < ds.length := by rw [h.1]; exact hi
  exact ⟨ds[i], List.getElem?_eq_getElem hi', h.2 i x _ hx (List.getElem?_eq_getElem hi')⟩
theorem Tvs.append {cs' ds' : List LV} (h : Tvs m cs ds) (h' : Tvs m cs' ds') : Tvs m (cs ++ cs') (ds ++ ds') := by
  refine ⟨by simp [h.1, h'.1], fun i x y hx hy => ?_⟩
  by_cases hi : i < cs.length
  · rw [List.getElem?_append_left hi] at hx
    rw [List.getElem?_append_left (by rw [h.1]; exact hi)] at hy
    exact h.2 i x y hx hy
  · rw [List.getElem?_append_right (by omega)] at hx
    rw [List.getElem?_append_right (by rw [h.1]; omega), h.1] at hy
    exact h'.2 _ x y hx hy
theorem Tvs.take (h : Tvs m cs ds) (n : Nat) : Tvs m (cs.take n) (ds.take n) := by
  refine ⟨by simp [h.1], fun i x y hx hy => ?_⟩
  rw [List.getElem?_take] at hx hy
  split at hx
  · rename_i hi; rw [if_pos hi] at hy; exact h.2 i x y hx hy
  · simp at hx
theorem Tvs.drop (h : Tvs m cs ds) (n : Nat) : Tvs m (cs.drop n) (ds.drop n) :=
  ⟨by simp [h.1], fun i x y hx hy => by rw [List.getElem?_drop] at hx hy; exact h.2 _ x y hx hy⟩
theorem Tvs.set (h : Tvs m cs ds) (i : Nat) (hx : Tv m x y) : Tvs m (cs.set i x) (ds.set i y) := by
  refine ⟨by simp [h.1], fun j a b ha hb => ?_⟩
  rw [List.getElem?_set] at ha hb
  split at ha
  · rename_i e
    rw [if_pos e] at hb
    split at ha
    · split at hb
      · cases ha; cases hb; exact hx
      · cases hb
    · cases ha
  · rename_i e; rw [if_neg e] at hb; exact h.2 j a b ha hb
theorem Tvs.seg {ns ns' : List LV} (h : Tvs m cs ds) (h' : Tvs m ns ns') (k : Nat) : Tvs m (Lv.seg cs k ns) (Lv.seg ds k ns') := by
  unfold Lv.seg; rw [h'.1]; exact ((h.take k).append h').append (h.drop _)
theorem Tvs.same (h : ∀ x ∈ cs, base x = true) : Tvs m cs cs := ⟨rfl, fun i x y hx hy => by rw [hx] at hy; cases hy; exact .base x (h x (List.mem_of_getElem? hx))⟩
theorem Tvs.all_one (h : Tvs m cs ds) (ho : ∀ x ∈ cs, x.one = true) : ∀ y ∈ ds, y.one = true := fun y hy => by
  obtain ⟨i, hi, rfl⟩ := List.mem_iff_getElem.1 hy
  have hc : i < cs.length := by rw [← h.1]; exact hi
  exact (h.2 i _ _ (List.getElem?_eq_getElem hc) (List.getElem?_eq_getElem hi)).one (ho _ (List.getElem_mem hc))
theorem Tvs.all_glob (h : Tvs m cs ds) : ds.all LV.glob = true := List.all_eq_true.2 fun y hy => by
  obtain ⟨i, hi, rfl⟩ := List.mem_iff_getElem.1 hy
  have hc : i < cs.length := by rw [← h.1]; exact hi
  exact (h.2 i _ _ (List.getElem?_eq_getElem hc) (List.getElem?_eq_getElem hi)).glob
/-- A slot's value. -/
def TvE (m : VM) (B : Box) (x y : LV) : Prop := Tv m x y ∨ x = .any ∨ ∃ d ver off, x = .bp d 0 off ∧ y = .bp d ver off ∧ (B d).1 = ver ∧ (B d).2.isSome = true
def BLe (B B' : Box) : Prop := ∀ d, (B d).2.isSome = true → (B' d).1 = (B d).1 ∧ (B' d).2.isSome = true
theorem BLe.refl (B : Box) : BLe B B := fun _ h => ⟨rfl, h⟩
theorem TvE.mono {B B' : Box} (hle : Mle m m') (hB : BLe B B') (h : TvE m B x y) : TvE m' B' x y := by
  rcases h with h | h | ⟨d, ver, off, h1, h2, h3, h4⟩
  · exact .inl (h.mono hle)
  · exact .inr (.inl h)
  · exact .inr (.inr ⟨d, ver, off, h1, h2, by rw [(hB d h4).1]; exact h3, (hB d h4).2⟩)
theorem TvE.hand {B : Box} (h : TvE m B x y) (hh : Xv.hand x = true) : Tv m x y := by
  rcases h with h | h | ⟨d, ver, off, h1, h2, h3, h4⟩
  · exact h
  · subst h; simp [Xv.hand] at hh
  · subst h1; simp [Xv.hand] at hh
end
/-- Maps, entry by entry. -/
def Tm (m : VM) (es es' : List (LV × LV × Nat)) : Prop := es'.length = es.length ∧ ∀ (i : Nat) x y, es[i]? = some x → es'[i]? = some y → Tv m x.1 y.1 ∧ Tv m x.2.1 y.2.1 ∧ y.2.2 = x.2.2
/-- What lies in a block. -/
def XOR (m : VM) (i : MI) : XO → LO → Prop
  | .cells cs kn es, .cells ds n => n = i.n ∧ i.es = es ∧ (∀ x ∈ cs, x.one = true) ∧ (kn ≠ 0 → i.δ = 0 ∧ n + 1 = kn) ∧ ds.length ≤ n ∧ ∃ pre cs' post, ds = pre ++ cs' ++ post ∧ pre.length = i.δ ∧ Tvs m cs cs'
  | .map es c, .map es' c' => c' = c ∧ Tm m es es'
  | .ro cs, .blob (.cells arr ty fz) _ => i.δ = 0 ∧ cs = arr.toList.map ofV1 ∧ (∀ x ∈ cs, base x = true) ∧ ty = i.n ∧ fz = (0, 0)
  | _, _ => False
theorem Tm.mono {m m' : VM} {es es' : List (LV × LV × Nat)} (hle : Mle m m') (h : Tm m es es') : Tm m' es es' :=
  ⟨h.1, fun i x y a b => ⟨(h.2 i x y a b).1.mono hle, (h.2 i x y a b).2.1.mono hle, (h.2 i x y a b).2.2⟩⟩
theorem XOR.mono {m m' : VM} {i : MI} {o : XO} {lo : LO} (hle : Mle m m') (h : XOR m i o lo) : XOR m' i o lo := by
  cases o <;> cases lo <;> try exact h
  case ro.blob cs ob K => cases ob <;> exact h
  · obtain ⟨h1, h2, h3, h4, h8, pre, cs', post, h5, h6, h7⟩ := h
    exact ⟨h1, h2, h3, h4, h8, pre, cs', post, h5, h6, h7.mono hle⟩
  · exact ⟨h.1, h.2.mono hle⟩
/-- Records of loops that stand, and what they come to when the loop is left. -/
abbrev LP := Nat → Option (LO × (Ex → LO))
def recOf (br : Option (Nat × Ex)) (v : Nat) (o : LO) (od : Ex → LO) : LO := match br with
  | some (w, z) => if w = v then od z else o
  | none => o
structure Rel (bs : LP) (m : VM) (s : XS) (B : Box) (H : OHeap) : Prop where
  obj : ∀ v o, s.t.get v = some o → ∃ i lo, m v = some i ∧ H i.b = some lo ∧ XOR m i o lo
  lt : ∀ v, s.nx ≤ v → m v = none
  inj : ∀ u v i j, ((s.t.get u).isSome = true ∨ (bs u).isSome = true) → ((s.t.get v).isSome = true ∨ (bs v).isSome = true) → m u = some i → m v = some j → i.b = j.b → u = v
  loop : ∀ v o od, bs v = some (o, od) → s.t.get v = none ∧ ∃ i, m v = some i ∧ H i.b = some (recOf s.br v o od)
  box0 : ∀ d, lkb s.bx d = none → (B d).2 = none
  box1 : ∀ d cs, lkb s.bx d = some cs → (∀ x ∈ cs, x.one = true) ∧ ∃ cs', (B d).2 = some cs' ∧ Tvs m cs cs'
  glob : ∀ g, g < gN → ∃ i, m g = some i ∧ i.b = g ∧ i.δ = 0
def EnvR (m : VM) (B : Box) (e : ET) (E : Env) : Prop := ∀ i, TvE m B (eget e i) (E i)
theorem EnvR.mono {m m' : VM} {B B' : Box} {e : ET} {E : Env} (hle : Mle m m') (hB : BLe B B') (h : EnvR m B e E) : EnvR m' B' e E := fun i => (h i).mono hle hB
def setE (e : ET) (d : Option Tmp) (x : LV) : ET := match d with | some d => eset e d x | none => e
theorem EnvR.put {m : VM} {B : Box} {e : ET} {E : Env} (h : EnvR m B e E) {x y : LV} (hx : TvE m B x y) (d : Option Tmp) : EnvR m B (setE e d x) (updo E d y) := by
  cases d with
  | none => exact h
  | some d =>
    intro i
    simp only [setE, eget_eset, updo_some, upd_apply]
    split
    · exact hx
    · exact h i
def setM (m : VM) (v : Nat) (i : MI) : VM := fun u => if u = v then some i else m u
section
variable {bs : LP} {m : VM} {s : XS} {B : Box} {H : OHeap}
theorem Rel.mle (r : Rel bs m s B H) (i : MI) : Mle m (setM m s.nx i) := fun v j h => by
  unfold setM
  split
  · rename_i e; subst e; rw [r.lt _ (Nat.le_refl _)] at h; cases h
  · exact h
theorem new_get (s : XS) (o : XO) (v : Nat) : (s.new o).t.get v = if v = s.nx then some o else s.t.get v := Tr.get_set _ _ _ _ _ (Nat.lt_succ_self _)
theorem upd_get (s : XS) (u : Nat) (o : Option XO) (v : Nat) : (s.upd u o).t.get v = if v = u then o else s.t.get v := Tr.get_set _ _ _ _ _ (Nat.lt_succ_self _)
theorem Rel.lt' (r : Rel bs m s B H) {v : Nat} {i : MI} (h : m v = some i) : v < s.nx := by
  rcases Nat.lt_or_ge v s.nx with h' | h'
  · exact h'
  · rw [r.lt v h'] at h; cases h
/-- Whose block it is. -/
theorem Rel.ne (r : Rel bs m s B H) {b : Nat} (hb : H b = none) {v : Nat} {i : MI} (ha : (s.t.get v).isSome = true ∨ (bs v).isSome = true) (hm : m v = some i) : i.b ≠ b := by
  rintro rfl
  rcases ha with ha | ha
  · obtain ⟨o, ho⟩ := Option.isSome_iff_exists.1 ha
    obtain ⟨j, lo, h1, h2, _⟩ := r.obj v o ho
    rw [hm] at h1; cases h1
    rw [hb] at h2; cases h2
  · obtain ⟨⟨o, od⟩, ho⟩ := Option.isSome_iff_exists.1 ha
    obtain ⟨_, j, h1, h2⟩ := r.loop v o od ho
    rw [hm] at h1; cases h1
    rw [hb] at h2; cases h2
/-- A new block. -/
theorem Rel.new (r : Rel bs m s B H) {i : MI} (hb : H i.b = none) {o : XO} {lo : LO} (hx : XOR (setM m s.nx i) i o lo) : Rel bs (setM m s.nx i) (s.new o) B (setH H i.b lo) := by
  have hle := r.mle i
  have nbs : ∀ v p, bs v = some p → v ≠ s.nx := fun v p h e => by
    subst e
    obtain ⟨_, j, h1, _⟩ := r.loop _ p.1 p.2 h
    rw [r.lt _ (Nat.le_refl _)] at h1; cases h1
  have nt : s.t.get s.nx = none := by
    cases h : s.t.get s.nx with
    | none => rfl
    | some o => obtain ⟨j, lo, h1, _⟩ := r.obj _ o h; rw [r.lt _ (Nat.le_refl _)] at h1; cases h1
  have al : ∀ v, v ≠ s.nx → (((s.new o).t.get v).isSome = true ∨ (bs v).isSome = true) → ((s.t.get v).isSome = true ∨ (bs v).isSome = true) := fun v hv h => by rw [new_get, if_neg hv] at h; exact h
  refine ⟨fun v o' h => ?_, fun v h => ?_, fun u v a b hu hv ha hb' hab => ?_, fun v o' od h => ?_, r.box0, fun d cs h => ?_, fun g hg => ?_⟩
  · rw [new_get] at h
    split at h
    · rename_i e; subst e; cases h
      exact ⟨i, lo, by simp [setM], by simp, hx⟩
    · rename_i e
      obtain ⟨j, lo', h1, h2, h3⟩ := r.obj v o' h
      refine ⟨j, lo', hle _ _ h1, ?_, h3.mono hle⟩
      rw [setH_apply, if_neg (r.ne hb (.inl (by simp [h])) h1)]; exact h2
  · have h' : s.nx + 1 ≤ v := h
    simp only [setM]; rw [if_neg (by omega)]; exact r.lt v (by omega)
  · unfold setM at ha hb'
    split at ha
    · split at hb'
      · rename_i e1 e2; rw [e1, e2]
      · rename_i e1 e2; cases ha
        exact absurd hab.symm (r.ne hb (al v e2 hv) hb')
    · split at hb'
      · rename_i e1 e2; cases hb'
        exact absurd hab (r.ne hb (al u e1 hu) ha)
      · rename_i e1 e2
        exact r.inj u v a b (al u e1 hu) (al v e2 hv) ha hb' hab
  · obtain ⟨h1, j, h2, h3⟩ := r.loop v o' od h
    refine ⟨by rw [new_get, if_neg (nbs v _ h)]; exact h1, j, hle _ _ h2, ?_⟩
    rw [setH_apply, if_neg (r.ne hb (.inr (by simp [h])) h2)]; exact h3
  · obtain ⟨h1, cs', h2, h3⟩ := r.box1 d cs h
    exact ⟨h1, cs', h2, h3.mono hle⟩
  · obtain ⟨j, h1, h2⟩ := r.glob g hg
    exact ⟨j, hle _ _ h1, h2⟩
/-- A block is turned. -/
theorem Rel.turn (r : Rel bs m s B H) {v : Nat} {i : MI} {o0 : XO} (h0 : s.t.get v = some o0) (hm : m v = some i) {o : XO} {lo : LO} (hx : XOR m i o lo) : Rel bs m (s.upd v (some o)) B (setH H i.b lo) := by
  have al : ∀ u, (((s.upd v (some o)).t.get u).isSome = true ∨ (bs u).isSome = true) → ((s.t.get u).isSome = true ∨ (bs u).isSome = true) := fun u h => by
    rw [upd_get] at h
    split at h
    · rename_i e; subst e; exact .inl (by simp [h0])
    · exact h
  have ne : ∀ u j, u ≠ v → ((s.t.get u).isSome = true ∨ (bs u).isSome = true) → m u = some j → j.b ≠ i.b := fun u j hu ha hj e => hu (r.inj u v j i ha (.inl (by simp [h0])) hj hm e)
  refine ⟨fun u o' h => ?_, r.lt, fun u w a b hu hw ha hb hab => r.inj u w a b (al u hu) (al w hw) ha hb hab, fun u o' od h => ?_, r.box0, r.box1, r.glob⟩
  · rw [upd_get] at h
    split at h
    · rename_i e; subst e; cases h
      exact ⟨i, lo, hm, by simp, hx⟩
    · rename_i e
      obtain ⟨j, lo', h1, h2, h3⟩ := r.obj u o' h
      exact ⟨j, lo', h1, by rw [setH_apply, if_neg (ne u j e (.inl (by simp [h])) h1)]; exact h2, h3⟩
  · obtain ⟨h1, j, h2, h3⟩ := r.loop u o' od h
    have hu : u ≠ v := fun e => by subst e; rw [h1] at h0; cases h0
    exact ⟨by rw [upd_get, if_neg hu]; exact h1, j, h2, by rw [setH_apply, if_neg (ne u j hu (.inr (by simp [h])) h2)]; exact h3⟩
/-- A block is given up. -/
theorem Rel.kill (r : Rel bs m s B H) {v : Nat} {i : MI} {o0 : XO} (h0 : s.t.get v = some o0) (hm : m v = some i) : Rel bs m (s.upd v none) B (delH H i.b) := by
  have al : ∀ u, (((s.upd v none).t.get u).isSome = true ∨ (bs u).isSome = true) → ((s.t.get u).isSome = true ∨ (bs u).isSome = true) := fun u h => by
    rw [upd_get] at h
    split at h
    · rename_i e; subst e; exact .inl (by simp [h0])
    · exact h
  have ne : ∀ u j, u ≠ v → ((s.t.get u).isSome = true ∨ (bs u).isSome = true) → m u = some j → j.b ≠ i.b := fun u j hu ha hj e => hu (r.inj u v j i ha (.inl (by simp [h0])) hj hm e)
  refine ⟨fun u o' h => ?_, r.lt, fun u w a b hu hw ha hb hab => r.inj u w a b (al u hu) (al w hw) ha hb hab, fun u o' od h => ?_, r.box0, r.box1, r.glob⟩
  · rw [upd_get] at h
    split at h
    · cases h
    · rename_i e
      obtain ⟨j, lo', h1, h2, h3⟩ := r.obj u o' h
      exact ⟨j, lo', h1, by rw [delH_apply, if_neg (ne u j e (.inl (by simp [h])) h1)]; exact h2, h3⟩
  · obtain ⟨h1, j, h2, h3⟩ := r.loop u o' od h
    have hu : u ≠ v := fun e => by subst e; rw [h1] at h0; cases h0
    exact ⟨by rw [upd_get, if_neg hu]; exact h1, j, h2, by rw [delH_apply, if_neg (ne u j hu (.inr (by simp [h])) h2)]; exact h3⟩
end
/-- What is known behind an operation. -/
def Got (bs : LP) (m : VM) (B : Box) (v : LV) (s' : XS) (Q : LV → Box → OHeap → Prop) : Prop :=
  ∀ m' x B' H', Mle m m' → BLe B B' → TvE m' B' v x → Rel bs m' s' B' H' → Q x B' H'
end Go.Xv
/- Xe, part D: the operations that turn nothing: what the machine yields is what the walk yields. Over any program; no condition. -/
namespace Go.Xv
open Go Go.Lv
set_option linter.unusedVariables false
set_option linter.unusedSimpArgs false
section
variable {bs : LP} {m : VM} {s : XS} {B : Box} {H : OHeap} {e : ET} {E : Env} {T : Tab} {x y p q v : LV} {cs ds : List LV}
theorem Tv.base_inv (h : Tv m x y) (hb : Xv.base x = true) : y = x := by
  cases h <;> first | rfl | simp [Xv.base] at hb
theorem TvE.base_inv (h : TvE m B x y) (hb : Xv.base x = true) : y = x := by
  rcases h with h | h | ⟨d, ver, off, h1, h2, h3, h4⟩
  · exact h.base_inv hb
  · subst h; simp [Xv.base] at hb
  · subst h1; simp [Xv.base] at hb
theorem ofV1R (v : Value) : Tv m (ofV1 v) (ofV1 v) := by
  unfold ofV1
  split <;> first | exact .base _ rfl | exact .any _ rfl | exact .fn _ [] [] [] [] rfl rfl (by simp) (by simp)
theorem ofVR (v : Value) : Tv m (ofV v) (ofV v) := by
  unfold ofV
  split
  · refine .agg _ _ rfl fun i x y hx hy => ?_
    rw [hx] at hy; cases hy
    simp only [List.getElem?_map, Option.map_eq_some_iff] at hx
    obtain ⟨a, _, rfl⟩ := hx
    exact ofV1R a
  · exact .tup [] [] rfl (by simp)
  · exact ofV1R _
theorem evR (r : Rel bs m s B H) (he : EnvR m B e E) (p : Operand) : TvE m B (xev e p) (ev E p) := by
  cases p with
  | tmp t => exact he t
  | const v => exact .inl (ofVR v)
  | global g =>
    simp only [xev, ev]
    split
    · rename_i hg
      obtain ⟨i, h1, h2, h3⟩ := r.glob g hg
      have := Tv.ptr (m := m) g 0 i h1
      rw [h2, h3] at this
      exact .inl this
    · exact .inr (.inl rfl)
  | func f => exact .inl (.fn _ [] [] [] [] rfl rfl (by simp) (by simp))
theorem evsR (r : Rel bs m s B H) (he : EnvR m B e E) : ∀ (l : List Operand), (l.map (xev e)).all hand = true → Tvs m (l.map (xev e)) (l.map (ev E))
  | [], _ => Tvs.nil m
  | p :: l, h => by
    simp only [List.map_cons, List.all_cons, Bool.and_eq_true] at h ⊢
    exact Tvs.cons ((evR r he p).hand h.1) (evsR r he l h.2)
theorem xevsR (r : Rel bs m s B H) (he : EnvR m B e E) (a : Array Operand) (h : (xevs e a).all hand = true) : Tvs m (xevs e a) (evs E a) := evsR r he a.toList h
theorem TvE.int {k : IntKind} {n : Int} (h : TvE m B (.int k n) y) : y = .int k n := h.base_inv rfl
theorem drop_win {α : Type} (pre cs post : List α) (o : Nat) : (pre ++ cs ++ post).drop (pre.length + o) = cs.drop o ++ post.drop (o - cs.length) := by
  rw [List.append_assoc, ← List.drop_drop, List.drop_left, List.drop_append]
/-- What stands at an address. -/
theorem cellsR (r : Rel bs m s B H) (h : TvE m B p q) (hc : xcells s p = some cs) : ∃ ds post, cellsAt B H q = some (ds ++ post) ∧ Tvs m cs ds := by
  rcases h with h | h | ⟨d, ver, off, h1, h2, h3, h4⟩
  · cases h with
    | ptr v o i hm =>
      simp only [xcells] at hc
      split at hc
      · rename_i cs0 kn es hg
        cases hc
        obtain ⟨j, lo, h1, h2, h3⟩ := r.obj v _ hg
        rw [hm] at h1; cases h1
        cases lo with
        | cells ds n =>
          obtain ⟨_, _, _, _, _, pre, cs', post, e1, e2, e3⟩ := h3
          refine ⟨cs'.drop o, post.drop (o - cs'.length), ?_, e3.drop o⟩
          simp only [cellsAt, h2, e1]
          rw [← e2, drop_win]
        | _ => exact h3.elim
      · rename_i cs0 hg
        cases hc
        obtain ⟨j, lo, h1, h2, h3⟩ := r.obj v _ hg
        rw [hm] at h1; cases h1
        cases lo with
        | blob ob K => cases ob with
          | cells arr ty fz =>
            obtain ⟨e1, e2, e3, _⟩ := h3
            refine ⟨cs0.drop o, [], ?_, Tvs.same fun x hx => e3 x (List.mem_of_mem_drop hx)⟩
            simp only [cellsAt, h2, e1, Nat.zero_add, List.append_nil, e2]
          | _ => exact h3.elim
        | _ => exact h3.elim
      · cases hc
    | iptr cs0 ds hl hh =>
      simp only [xcells, Option.some.injEq] at hc; subst hc
      exact ⟨ds, [], by simp [cellsAt], ⟨hl, hh⟩⟩
    | base x hb => cases p <;> simp [xcells] at hc <;> simp [Xv.base] at hb
    | _ => simp [xcells] at hc
  · subst h; simp [xcells] at hc
  · subst h1; subst h2
    simp only [xcells, Option.map_eq_some_iff] at hc
    obtain ⟨cs0, hc, rfl⟩ := hc
    obtain ⟨_, cs', h5, h6⟩ := r.box1 d cs0 hc
    exact ⟨cs'.drop off, [], by simp [cellsAt, h3, h5], h6.drop off⟩
theorem pickR {ti : TI} {post : List LV} (h : Tvs m cs ds) (hp : pick ti cs = some x) : ∃ y, pick ti (ds ++ post) = some y ∧ Tv m x y := by
  unfold pick at hp ⊢
  split at hp
  · rename_i ha
    rw [if_pos ha]
    split at hp
    · rename_i hl
      cases hp
      have hl' : ti.size ≤ ds.length := by rw [h.1]; exact hl
      refine ⟨.agg (ds.take ti.size), ?_, .agg _ _ (h.take _).1 (h.take _).2⟩
      rw [if_pos (by simp; omega), List.take_append_of_le_length hl']
    · cases hp
  · rename_i ha
    rw [if_neg ha]
    cases cs with
    | nil => simp at hp
    | cons c cs =>
      obtain ⟨y, ds', rfl, h1, h2⟩ := h.cons_inv
      simp at hp; subst hp
      exact ⟨y, by simp, h1⟩
theorem loadR (r : Rel bs m s B H) (h : TvE m B p q) {t : TypeId} (hx : xload T s t p = some x) : ∃ y, pfLoad T B H t q = some y ∧ Tv m x y := by
  unfold xload at hx
  split at hx
  · rename_i ti cs hT hc
    obtain ⟨ds, post, h1, h2⟩ := cellsR r h hc
    obtain ⟨y, h3, h4⟩ := pickR (post := post) h2 hx
    exact ⟨y, by simp [pfLoad, hT, h1, h3], h4⟩
  · cases hx
theorem notNilR (h : Tv m x y) (hn : notNil x = true) : notNil y = true := by
  cases h <;> first | exact hn | rfl | simp [notNil] at hn
theorem ncR (r : Rel bs m s B H) (h : TvE m B p q) {s' : XS} (hx : xnc s p = some (x, s')) : s' = s ∧ x = p ∧ (notNil q || bpHere B q) = true := by
  unfold xnc at hx
  split at hx
  · split at hx
    · cases hx
      refine ⟨rfl, rfl, ?_⟩
      rcases h with h | h | ⟨d, ver, off, h1, h2, h3, h4⟩
      · cases h; rename_i hb; simp [Xv.base] at hb
      · cases h
      · cases h1; subst h2; simp [bpHere, h3, h4]
    · cases hx
  · rename_i hnb
    split at hx
    · rename_i hn
      cases hx
      refine ⟨rfl, rfl, ?_⟩
      rcases h with h | h | ⟨d, ver, off, h1, h2, h3, h4⟩
      · simp [notNilR h hn]
      · subst h; simp [notNil] at hn
      · subst h1; simp [notNil] at hn
    · cases hx
theorem ptrAddR (r : Rel bs m s B H) (h : TvE m B p q) {n : Nat} (hx : xpadd s p n = some x) : ∃ y, ptrAdd B q n = some y ∧ TvE m B x y := by
  rcases h with h | h | ⟨d, ver, off, h1, h2, h3, h4⟩
  · cases h with
    | ptr v o i hm =>
      simp only [xpadd, Option.some.injEq] at hx; subst hx
      refine ⟨_, rfl, .inl ?_⟩
      rw [Nat.add_assoc]
      exact .ptr v (o + n) i hm
    | iptr cs0 ds hl hh =>
      simp only [xpadd] at hx
      split at hx
      · rename_i hle
        cases hx
        have t : Tvs m cs0 ds := ⟨hl, hh⟩
        exact ⟨.iptr (ds.drop n), by simp [ptrAdd, hl, hle], .inl (.iptr _ _ (t.drop n).1 (t.drop n).2)⟩
      · cases hx
    | base x hb => cases p <;> simp [xpadd] at hx <;> simp [Xv.base] at hb
    | _ => simp [xpadd] at hx
  · subst h; simp [xpadd] at hx
  · subst h1; subst h2
    simp only [xpadd] at hx
    split at hx
    · cases hx
      exact ⟨.bp d ver (off + n), by simp [ptrAdd, h3, h4], .inr (.inr ⟨d, ver, off + n, rfl, rfl, h3, h4⟩)⟩
    · cases hx
theorem faR (r : Rel bs m s B H) (h : TvE m B p q) {t : TypeId} {f : Nat} (hx : xfa T s t p f = some x) : ∃ y, pfFieldAddr T B t q f = some y ∧ TvE m B x y := by
  unfold xfa at hx
  unfold pfFieldAddr
  split at hx <;> try cases hx
  rename_i ti hT
  split at hx <;> try cases hx
  rename_i fs hk
  split at hx <;> try cases hx
  rename_i ft off hf
  split at hx <;> try cases hx
  rename_i fi hfi
  split at hx <;> try cases hx
  rename_i hz
  obtain ⟨y, h1, h2⟩ := ptrAddR r h hx
  exact ⟨y, by simp [hT, hk, hf, hfi, hz, h1], h2⟩
theorem fieldR (h : TvE m B p q) {t : TypeId} {f : Nat} (hx : pfField T t p f = some x) : ∃ y, pfField T t q f = some y ∧ Tv m x y := by
  unfold pfField at hx ⊢
  split at hx <;> try cases hx
  rename_i ti cs hT
  rcases h with h | h | ⟨d, ver, off, h1, h2, h3, h4⟩
  · cases h with
    | base _ hb => simp [Xv.base] at hb
    | agg _ ds hl hh =>
      have t : Tvs m cs ds := ⟨hl, hh⟩
      split at hx <;> try cases hx
      rename_i fs hk
      split at hx <;> try cases hx
      rename_i ft off hf
      split at hx <;> try cases hx
      rename_i fi hfi
      obtain ⟨y, h1, h2⟩ := pickR (post := []) (t.drop off) hx
      rw [List.append_nil] at h1
      exact ⟨y, by simp [hT, hk, hf, hfi, h1], h2⟩
  · cases h
  · cases h1
theorem iaR (r : Rel bs m s B H) (h : TvE m B p q) {t : TypeId} {i j : LV} (hi : TvE m B i j) (hx : xia T s t p i = some x) : ∃ y, pfIndexAddr T B t q j = some y ∧ TvE m B x y := by
  unfold xia at hx
  unfold pfIndexAddr
  split at hx <;> try cases hx
  rename_i ti k n hT
  have := hi.int; subst this
  split at hx <;> try cases hx
  · rename_i el hk
    split at hx <;> try cases hx
    rename_i ei hei
    split at hx <;> try cases hx
    · rename_i b off len cap
      split at hx <;> try cases hx
      rename_i hn
      rcases h with h | h | ⟨d, ver, off, h1, h2, h3, h4⟩
      · cases h with
        | base _ hb => simp [Xv.base] at hb
        | sl _ _ _ _ o' c mi hm hl hk' =>
          have ho' : o' = mi.δ + off := by omega
          refine ⟨.ptr mi.b (o' + n.toNat * ei.size), by simp [hT, hk, hei, hn], .inl ?_⟩
          rw [ho', Nat.add_assoc]
          exact .ptr _ _ _ hm
      · cases h
      · cases h1
    · rename_i f es xs
      split at hx <;> try cases hx
      rename_i hn
      split at hx <;> try cases hx
      rename_i row hrow
      rcases h with h | h | ⟨d, ver, off, h1, h2, h3, h4⟩
      · cases h with
        | base _ hb => simp [Xv.base] at hb
        | isl _ _ _ ys hl he hh =>
          have hi' : n.toNat < ys.length := by rw [hl]; exact (List.getElem?_eq_some_iff.1 hrow).1
          have hy := List.getElem?_eq_getElem hi'
          refine ⟨.iptr ys[n.toNat], by simp [hT, hk, hei, hn, hy], .inl (.iptr _ _ (he _ _ _ hrow hy) fun a u w hu hw => hh _ a _ _ u w hrow hy hu hw)⟩
      · cases h
      · cases h1
  · rename_i M el hk
    split at hx <;> try cases hx
    rename_i ei hei
    split at hx <;> try cases hx
    rename_i hn
    obtain ⟨y, h1, h2⟩ := ptrAddR r h hx
    exact ⟨y, by simp [hT, hk, hei, hn, h1], h2⟩
theorem indexR (h : TvE m B p q) {t : TypeId} {i j : LV} (hi : TvE m B i j) (hx : pfIndex T t p i = some x) : ∃ y, pfIndex T t q j = some y ∧ Tv m x y := by
  unfold pfIndex at hx ⊢
  split at hx <;> try cases hx
  rename_i k n
  have := hi.int; subst this
  split at hx <;> try cases hx
  · have := h.base_inv rfl; subst this
    refine ⟨x, hx, ?_⟩
    split at hx <;> try cases hx
    split at hx <;> try cases hx
    split at hx <;> try cases hx
    split at hx <;> try cases hx
    exact .base _ rfl
  · rename_i cs
    rcases h with h | h | ⟨d, ver, off, h1, h2, h3, h4⟩
    · cases h with
      | base _ hb => simp [Xv.base] at hb
      | agg _ ds hl hh =>
        have t : Tvs m cs ds := ⟨hl, hh⟩
        split at hx <;> try cases hx
        rename_i ti hT
        split at hx <;> try cases hx
        rename_i M el hk
        split at hx <;> try cases hx
        rename_i ei hei
        split at hx <;> try cases hx
        rename_i hn
        obtain ⟨y, h1, h2⟩ := pickR (post := []) (t.drop _) hx
        rw [List.append_nil] at h1
        exact ⟨y, by simp [hT, hk, hei, hn, h1], h2⟩
    · cases h
    · cases h1
theorem extR (h : TvE m B p q) {i : Nat} (hx : pfExtract p i = some x) : ∃ y, pfExtract q i = some y ∧ Tv m x y := by
  unfold pfExtract at hx
  split at hx <;> try cases hx
  rcases h with h | h | ⟨d, ver, off, h1, h2, h3, h4⟩
  · cases h with
    | base _ hb => simp [Xv.base] at hb
    | tup _ ds hl hh =>
      have t : Tvs m _ ds := ⟨hl, hh⟩
      obtain ⟨y, h1, h2⟩ := t.get hx
      exact ⟨y, h1, h2⟩
  · cases h
  · cases h1
theorem unR (h : TvE m B p q) {op : UnOp} (hx : pfUn op p = some x) : pfUn op q = some x ∧ base x = true := by
  unfold pfUn at hx
  split at hx <;> try cases hx
  · have := h.base_inv rfl; subst this; exact ⟨rfl, rfl⟩
  · have := h.base_inv rfl; subst this; exact ⟨rfl, rfl⟩
theorem minR {p' q' : LV} (h : TvE m B p p') (h' : TvE m B q q') (hx : pfMin p q = some x) : pfMin p' q' = some x ∧ base x = true := by
  unfold pfMin at hx
  split at hx <;> try cases hx
  have := h.int; subst this
  have := h'.int; subst this
  refine ⟨hx, ?_⟩
  split at hx <;> cases hx
  rfl
theorem maxR {p' q' : LV} (h : TvE m B p p') (h' : TvE m B q q') (hx : pfMax p q = some x) : pfMax p' q' = some x ∧ base x = true := by
  unfold pfMax at hx
  split at hx <;> try cases hx
  have := h.int; subst this
  have := h'.int; subst this
  refine ⟨hx, ?_⟩
  split at hx <;> cases hx
  rfl
theorem pickvR {c c' p' q' : LV} (hc : TvE m B c c') (h : TvE m B p p') (h' : TvE m B q q') (hx : pfPick c p q = some x) : ∃ y, pfPick c' p' q' = some y ∧ TvE m B x y := by
  unfold pfPick at hx
  split at hx <;> try cases hx
  rename_i t
  have := hc.base_inv rfl; subst this
  exact ⟨_, rfl, by cases t <;> assumption⟩
theorem ifR (h : TvE m B p q) {t : TypeId} (hx : xif T t p = some x) : ∃ y, pfIface T t q = some y ∧ Tv m x y := by
  unfold xif at hx
  split at hx <;> try cases hx
  rename_i ti hT
  split at hx <;> try cases hx
  rename_i hh
  have := h.hand hh.2
  exact ⟨.ifc t q, by simp [pfIface, hT, hh.1, this.glob], .ifc _ _ _ this⟩
theorem mfR (r : Rel bs m s B H) (he : EnvR m B e E) {f : Fn} {fst caps : Array Operand} (hx : xmf f (xevs e fst) (xevs e caps) = some x) : ∃ y, pfFunc E f fst caps = some y ∧ Tv m x y := by
  unfold xmf at hx
  split at hx <;> try cases hx
  split at hx <;> try cases hx
  rename_i hh
  have h1 := xevsR r he fst hh.1
  have h2 := xevsR r he caps hh.2
  exact ⟨_, by simp [pfFunc, h1.all_glob, h2.all_glob], .fn _ _ _ _ _ h1.1 h2.1 h1.2 h2.2⟩
end
end Go.Xv
/- Xe, part E: more operations that turn nothing: arithmetic, conversions, slices, lengths, composite values; all of them in one. Over any program; no condition. -/
namespace Go.Xv
open Go Go.Lv
set_option linter.unusedVariables false
set_option linter.unusedSimpArgs false
section
variable {bs : LP} {m : VM} {s : XS} {B : Box} {H : OHeap} {e : ET} {E : Env} {T : Tab} {x y p q v p' q' : LV} {cs ds : List LV}
theorem binI_base {op : BinOp} {k : IntKind} {a b : Int} (h : binI op k a b = some x) : base x = true := by
  unfold binI at h; split at h <;> (try split at h) <;> cases h <;> rfl
theorem shiftI_base {op : BinOp} {k : IntKind} {a b : Int} (h : shiftI op k a b = some x) : base x = true := by
  unfold shiftI at h; split at h
  · cases h
  · split at h <;> cases h <;> rfl
theorem eqB_base {op : BinOp} {b : Bool} (h : eqB op b = some x) : base x = true := by
  unfold eqB at h; split at h <;> cases h <;> rfl
theorem binS_base {op : BinOp} {a b : ByteArray} (h : binS op a b = some x) : base x = true := by
  unfold binS at h; split at h <;> (try split at h) <;> cases h <;> rfl
theorem nilKR {k : TK} (h : Tv m p p') (hn : nilK k p = true) : nilK k p' = true ∧ nilB p' = nilB p ∧ isNilC p' = isNilC p := by
  cases h with
  | any => cases k <;> simp [nilK] at hn
  | base => exact ⟨hn, rfl, rfl⟩
  | isl f e xs ys hl _ _ =>
    refine ⟨by cases k <;> first | rfl | simp [nilK] at hn, ?_, rfl⟩
    have : ys.isEmpty = xs.isEmpty := by cases xs <;> cases ys <;> first | rfl | simp at hl
    simp [nilB, this]
  | agg => cases k <;> simp [nilK] at hn
  | tup => cases k <;> simp [nilK] at hn
  | _ => exact ⟨by cases k <;> first | rfl | simp [nilK] at hn, rfl, rfl⟩
theorem binL_nil {op : BinOp} {t : TypeId} {k : TK} (h : nilK k p = true) : binL T op t p q = (match T t with
    | some ti => if nilK ti.kind p && nilK ti.kind q then (if isNilC q then (nilB p).bind (eqB op) else if isNilC p then (nilB q).bind (eqB op) else none) else none
    | none => none) := by
  unfold binL
  cases p <;> first | rfl | (cases k <;> simp [nilK] at h)
theorem eq1_base {k : TK} {b : Bool} (h : eq1 k x y = some b) : base x = true ∧ base y = true := by
  unfold eq1 at h
  split at h <;> first | exact ⟨rfl, rfl⟩ | cases h
theorem eqFR {cs' ds' : List LV} (hc : Tvs m cs cs') (hd : Tvs m ds ds') : ∀ (fs : List (TypeId × Nat)) (b : Bool), eqF T fs cs ds = some b → eqF T fs cs' ds' = some b
  | [], b, h => h
  | (t, off) :: fs, b, h => by
    unfold eqF at h ⊢
    split at h <;> try cases h
    rename_i ti x y hT hx hy
    obtain ⟨x', h1, h2⟩ := hc.get hx
    obtain ⟨y', h3, h4⟩ := hd.get hy
    simp only [hT, h1, h3]
    obtain ⟨b1, h5, h6⟩ := Option.bind_eq_some_iff.1 h
    obtain ⟨b2, h7, h8⟩ := Option.map_eq_some_iff.1 h6
    have := h2.base_inv (eq1_base h5).1; subst this
    have := h4.base_inv (eq1_base h5).2; subst this
    rw [h5, Option.bind_some, eqFR hc hd fs b2 h7, Option.map_some, h8]
theorem binR {op : BinOp} {t : TypeId} (h : TvE m B p p') (h' : TvE m B q q') (hx : binL T op t p q = some x) : binL T op t p' q' = some x ∧ base x = true := by
  have hx0 := hx
  unfold binL at hx
  split at hx
  · have := h.int; subst this
    have := h'.int; subst this
    refine ⟨hx0, ?_⟩
    split at hx
    · exact shiftI_base hx
    · split at hx
      · exact binI_base hx
      · cases hx
  · have := h.base_inv rfl; subst this
    have := h'.base_inv rfl; subst this
    exact ⟨hx0, binS_base hx⟩
  · have := h.base_inv rfl; subst this
    have := h'.base_inv rfl; subst this
    refine ⟨hx0, ?_⟩
    split at hx <;> try cases hx
    split at hx <;> try cases hx
    exact eqB_base hx
  · rename_i cs ds
    split at hx <;> try cases hx
    rename_i ti hT
    split at hx <;> try cases hx
    rename_i fs hk
    split at hx <;> try cases hx
    rename_i hfl
    obtain ⟨b, h1, h2⟩ := Option.bind_eq_some_iff.1 hx
    rcases h with h | h | ⟨d, ver, off, g1, g2, g3, g4⟩
    · rcases h' with h' | h' | ⟨d, ver, off, g1, g2, g3, g4⟩
      · cases h with
        | base _ hb => simp [Xv.base] at hb
        | agg _ cs' hl hh =>
          cases h' with
          | base _ hb => simp [Xv.base] at hb
          | agg _ ds' hl' hh' =>
            have := eqFR (T := T) (show Tvs m cs cs' from ⟨hl, hh⟩) (show Tvs m ds ds' from ⟨hl', hh'⟩) fs b h1
            exact ⟨by simp [binL, hT, hk, hfl, this, h2], eqB_base h2⟩
      · cases h'
      · cases g1
    · cases h
    · cases g1
  · split at hx <;> try cases hx
    rename_i ti hT
    split at hx <;> try cases hx
    rename_i hn
    simp only [Bool.and_eq_true] at hn
    have hh : Tv m p p' := h.hand (by cases p <;> first | rfl | simp [nilK] at hn)
    have hh' : Tv m q q' := h'.hand (by cases q <;> first | rfl | simp [nilK] at hn)
    obtain ⟨a1, a2, a3⟩ := nilKR hh hn.1
    obtain ⟨b1, b2, b3⟩ := nilKR hh' hn.2
    refine ⟨?_, ?_⟩
    · rw [binL_nil a1]
      simp only [hT, a1, b1, a2, a3, b2, b3, Bool.and_self, if_true]
      exact hx
    · split at hx
      · obtain ⟨b, _, h2⟩ := Option.bind_eq_some_iff.1 hx; exact eqB_base h2
      · split at hx
        · obtain ⟨b, _, h2⟩ := Option.bind_eq_some_iff.1 hx; exact eqB_base h2
        · cases hx
theorem chk_one {xs : List LV} (h : xs.all LV.one = true) : ∀ x ∈ xs, x.one = true := List.all_eq_true.1 h
theorem flattenR {xs ys : List (List LV)} : ys.length = xs.length → (∀ (i : Nat) x y, xs[i]? = some x → ys[i]? = some y → y.length = x.length) →
    (∀ (i j : Nat) x y a b, xs[i]? = some x → ys[i]? = some y → x[j]? = some a → y[j]? = some b → Tv m a b) → Tvs m xs.flatten ys.flatten := by
  induction xs generalizing ys with
  | nil => intro hl _ _; cases ys with
    | nil => exact Tvs.nil m
    | cons => simp at hl
  | cons x xs ih => intro hl he h; cases ys with
    | nil => simp at hl
    | cons y ys =>
      simp only [List.flatten_cons]
      refine Tvs.append ⟨he 0 x y rfl rfl, fun j a b ha hb => h 0 j x y a b rfl rfl ha hb⟩ (ih (by simpa using hl) (fun i a b ha hb => he (i + 1) a b (by simpa using ha) (by simpa using hb)) fun i j a b u w ha hb => h (i + 1) j a b u w (by simpa using ha) (by simpa using hb))
theorem win_take {α : Type} {pre cs post : List α} {o n : Nat} (h : o + n ≤ cs.length) : ((pre ++ cs ++ post).drop (pre.length + o)).take n = (cs.drop o).take n := by
  rw [List.append_assoc, ← List.drop_drop, List.drop_left, List.drop_append_of_le_length (by omega), List.take_append_of_le_length (by simp; omega)]
/-- What an argument of append or copy yields. -/
theorem srcR (r : Rel bs m s B H) (h : TvE m B p q) {size n : Nat} (hx : xsrc s size p = some (n, cs)) : ∃ ds, srcL H size q = some (n, ds) ∧ Tvs m cs ds ∧ ∀ x ∈ cs, x.one = true := by
  rcases h with h | h | ⟨d, ver, off, h1, h2, h3, h4⟩
  · cases h with
    | isl f e xs ys hl he hh =>
      simp only [xsrc] at hx
      split at hx <;> cases hx
      rename_i hc
      exact ⟨ys.flatten, by simp [srcL, hc.1, hl], flattenR hl he hh, chk_one hc.2.1⟩
    | sl v o l k o' c i hm hl hk =>
      simp only [xsrc] at hx
      split at hx
      · cases hx; rename_i h0; exact ⟨[], by simp [srcL, h0], Tvs.nil m, by simp⟩
      · rename_i h0
        split at hx <;> try cases hx
        rename_i cs0 kn es hg
        split at hx
        case isFalse => cases hx
        rename_i hle
        simp only [Option.some.injEq, Prod.mk.injEq] at hx
        obtain ⟨rfl, rfl⟩ := hx
        obtain ⟨j, lo, h1, h2, h3⟩ := r.obj v _ hg
        rw [hm] at h1; cases h1
        cases lo with
        | cells ds n =>
          obtain ⟨_, _, h1, _, _, pre, cs', post, e1, e2, e3⟩ := h3
          have ho' : o' = i.δ + o := by omega
          have hle' : o + l * size ≤ cs'.length := by rw [e3.1]; exact hle
          refine ⟨(cs'.drop o).take (l * size), ?_, (e3.drop o).take _, fun x hx => h1 x (List.mem_of_mem_drop (List.mem_of_mem_take hx))⟩
          simp only [srcL, h0, if_false, h2, e1]
          rw [ho', ← e2, win_take hle', if_pos (by simp; omega)]
        | _ => exact h3.elim
    | base x hb =>
      have : xsrc s size p = srcL H size p := by cases p <;> first | rfl | simp [Xv.base] at hb
      have key : ∀ x ∈ cs, Xv.base x = true ∧ x.one = true := fun x h => by
        cases p <;> (first | (simp [Xv.base] at hb; done) | skip) <;> simp [xsrc] at hx <;> (first | (obtain ⟨_, rfl⟩ := hx; simp at h; done) | skip)
        obtain ⟨_, _, rfl⟩ := hx; simp at h; obtain ⟨_, _, rfl⟩ := h; exact ⟨rfl, rfl⟩
      refine ⟨cs, by rw [← this]; exact hx, Tvs.same fun x h => ?_, fun x h => ?_⟩
      · exact (key x h).1
      · exact (key x h).2
    | _ => simp [xsrc] at hx
  · subst h; simp [xsrc] at hx
  · subst h1; simp [xsrc] at hx
theorem bytesOfR : ∀ {ns ns' : List LV} {l : List UInt8}, Tvs m ns ns' → bytesOf ns = some l → bytesOf ns' = some l
  | [], ns', l, h, hb => by rw [h.nil_inv]; exact hb
  | x :: ns, ns', l, h, hb => by
    obtain ⟨y, ds, rfl, h1, h2⟩ := h.cons_inv
    unfold bytesOf at hb
    split at hb
    · rename_i h0; cases h0
    · rename_i n r h0
      cases h0
      have := h1.base_inv rfl; subst this
      obtain ⟨l', h3, h4⟩ := Option.map_eq_some_iff.1 hb
      simp [bytesOf, bytesOfR h2 h3, h4]
    · cases hb
theorem convR (r : Rel bs m s B H) (h : TvE m B p q) {a d : TypeId} (hx : xconv T s a d p = some x) : ∃ y, pfConvM T H a d q = some y ∧ Tv m x y := by
  have pb : ∀ z, pfConv T a d z = some x → Xv.base x = true := fun z hz => by
    unfold pfConv at hz
    split at hz
    · split at hz <;> cases hz; rfl
    · split at hz <;> cases hz; rfl
    · cases hz
  unfold xconv at hx
  split at hx
  · have := h.int; subst this
    exact ⟨x, hx, .base _ (pb _ hx)⟩
  · rename_i b
    have := h.base_inv rfl; subst this
    split at hx <;> try cases hx
    rename_i di hd
    split at hx
    · rename_i el hk
      refine ⟨x, by simp [pfConvM, hd, hk, hx], ?_⟩
      unfold s2bL at hx
      split at hx <;> try cases hx
      split at hx <;> cases hx
      refine .isl _ _ _ _ rfl (fun i x y hx hy => by rw [hx] at hy; cases hy; rfl) fun i j x y a b hx hy ha hb => ?_
      rw [hx] at hy; cases hy
      rw [ha] at hb; cases hb
      simp only [List.getElem?_map, Option.map_eq_some_iff] at hx
      obtain ⟨c, _, rfl⟩ := hx
      cases j <;> simp at ha
      subst ha; exact .base _ rfl
    · rename_i hk
      refine ⟨x, ?_, .base _ (pb _ hx)⟩
      simp only [pfConvM, hd]
      first | exact hx | (split <;> first | exact hx | (rename_i el hk'; exact absurd hk' (hk el)))
  · rename_i hni hns
    split at hx <;> try cases hx
    rename_i si di hsi hdi
    split at hx <;> try cases hx
    rename_i el hk
    split at hx <;> try cases hx
    rename_i ei hei
    split at hx <;> try cases hx
    rename_i hc
    split at hx <;> try cases hx
    rename_i n ns hsrc
    obtain ⟨l, h1, h2⟩ := Option.map_eq_some_iff.1 hx
    obtain ⟨ds, h3, h4, _⟩ := srcR r h hsrc
    have hq : ∀ b, q ≠ .str b := fun b hq => by
      subst hq
      rcases h with h | h | ⟨d, ver, off, h1, h2, h3, h4⟩
      · cases h with
        | any => simp [xsrc] at hsrc
        | base => exact hns b rfl
      · subst h; simp [xsrc] at hsrc
      · cases h2
    have hq' : ∀ k n, q ≠ .int k n := fun k n hq => by
      subst hq
      rcases h with h | h | ⟨d, ver, off, h1, h2, h3, h4⟩
      · cases h with
        | any => simp [xsrc] at hsrc
        | base => exact hni k n rfl
      · subst h; simp [xsrc] at hsrc
      · cases h2
    refine ⟨x, ?_, by subst h2; exact .base _ rfl⟩
    unfold pfConvM
    split
    · rename_i k n; exact absurd rfl (hq' k n)
    · rename_i b; exact absurd rfl (hq b)
    · simp [b2sL, hsi, hdi, hk, hei, hc, h3, bytesOfR h4 h1, h2]
/-! ### Slices -/
def OR (m : VM) (B : Box) : Option LV → Option LV → Prop
  | none, none => True
  | some x, some y => TvE m B x y
  | _, _ => False
theorem OR.map (r : Rel bs m s B H) (he : EnvR m B e E) (p : Option Operand) : OR m B (p.map (xev e)) (p.map (ev E)) := by
  cases p with
  | none => trivial
  | some p => exact evR r he p
theorem OR.isSome {a b : Option LV} (h : OR m B a b) : b.isSome = a.isSome := by
  cases a <;> cases b <;> first | rfl | exact h.elim
theorem bndR {a b : Option LV} (h : OR m B a b) {y d n : Nat} (hx : bnd a y d = some n) : bnd b y d = some n := by
  cases a with
  | none => cases b with
    | none => exact hx
    | some => exact h.elim
  | some a => cases b with
    | none => exact h.elim
    | some b =>
      unfold bnd at hx
      split at hx
      · rename_i h0; cases h0
      · rename_i k n h0; cases h0
        have := TvE.int (show TvE m B (.int k n) b from h); subst this
        exact hx
      · cases hx
theorem bndsR {lo hi mx lo' hi' mx' : Option LV} (hl : OR m B lo lo') (hh : OR m B hi hi') (hm : OR m B mx mx') {len cap : Nat} {z : Nat × Nat × Nat} (hx : bnds len cap lo hi mx = some z) : bnds len cap lo' hi' mx' = some z := by
  unfold bnds at hx ⊢
  split at hx
  · cases hx
  · rename_i m1 h1
    rw [bndR hm h1]
    simp only []
    split at hx
    · cases hx
    · rename_i h h2
      split at hx
      · cases hx
      · rename_i l h3
        cases hi with
        | none => cases hi' with
          | none => simp only [] at h2 ⊢; rw [OR.isSome hm, h2]; simp only []; rw [bndR hl h3]; exact hx
          | some => exact hh.elim
        | some a => cases hi' with
          | none => exact hh.elim
          | some b => simp only [] at h2 ⊢; rw [bndR (show OR m B (some a) (some b) from hh) h2]; simp only []; rw [bndR hl h3]; exact hx
theorem bnds_up {len L c : Nat} {lo hi mx : Option LV} {l h n : Nat} (hc : L ≤ c) (hb : bnds len L lo hi mx = some (l, h, n)) : bnds len c lo hi mx = some (l, h, if mx.isSome then n else c) ∧ (mx.isSome = false → n = L) := by
  unfold bnds at hb ⊢
  cases mx with
  | none =>
    simp only [bnd] at hb ⊢
    cases hi with
    | none =>
      simp only [Option.isSome_none, Bool.false_eq_true, if_false] at hb ⊢
      split at hb <;> cases hb
      rename_i h3; simp [h3]
    | some a =>
      simp only [Option.isSome_none, Bool.false_eq_true, if_false] at hb ⊢
      split at hb
      · cases hb
      · rename_i h2 h3
        have h3' := bnd_more (d' := 0) hc h3
        unfold bnd at h3'
        rw [h3']
        simp only []
        split at hb <;> cases hb
        rename_i h4; simp [h4]
  | some b =>
    have : ∀ n, bnd (some b) L L = some n → bnd (some b) c c = some n := fun n hn => bnd_more hc hn
    split at hb
    · cases hb
    · rename_i m1 h1
      rw [this _ h1]
      cases hi with
      | none => simp at hb
      | some a =>
        simp only [Option.isSome_some, if_true] at hb ⊢
        split at hb
        · cases hb
        · rename_i h2 h3
          split at hb <;> cases hb
          rename_i h4; simp [h4]
theorem sliceR (r : Rel bs m s B H) (h : TvE m B p q) {t : TypeId} {lo hi mx lo' hi' mx' : Option LV} (hl : OR m B lo lo') (hh : OR m B hi hi') (hm : OR m B mx mx') (hx : xslice T s t p lo hi mx = some x) : ∃ y, pfSlice T t q lo' hi' mx' = some y ∧ Tv m x y := by
  unfold xslice at hx
  unfold pfSlice
  split at hx <;> try cases hx
  rename_i ti hT
  simp only [hT]
  split at hx <;> try cases hx
  · rename_i hk
    split at hx <;> try cases hx
    have := h.base_inv rfl; subst this
    split at hx <;> cases hx
    rename_i l h' n hb
    refine ⟨_, ?_, .base _ rfl⟩
    have hm' : mx' = none := by cases mx' with | none => rfl | some _ => exact hm.elim
    simp only [hk, hm']
    rw [bndsR hl hh (show OR m B none none from trivial) hb]
  · rename_i el hk
    simp only [hk]
    split at hx <;> try cases hx
    rename_i ei hei
    simp only [hei]
    split at hx <;> try cases hx
    · rename_i v off len k
      rcases h with h | h | ⟨d, ver, off, h1, h2, h3, h4⟩
      · cases h with
        | base _ hb => simp [Xv.base] at hb
        | sl _ _ _ _ o' c i hmi hlc hk' =>
          simp only [hlc, if_true]
          have odd : ∀ l h n, o' = i.δ + off → bnds len c lo hi mx = some (l, h, n) → x = .sl v (if n = l then off else off + l * ei.size) (h - l) (2 * (n - l) + 1) → ∃ y, (match bnds len c lo' hi' mx' with | some (l, h, m) => some (LV.sl i.b (if m = l then o' else o' + l * ei.size) (h - l) (m - l)) | none => none) = some y ∧ Tv m x y := fun l h n ho hb hx => by
            obtain ⟨b1, b2, b3⟩ := bnds_le hlc hb
            refine ⟨_, by rw [bndsR hl hh hm hb], ?_⟩
            subst hx
            refine .sl _ _ _ _ _ _ i hmi (by omega) (.inl ⟨by omega, by omega, ?_⟩)
            by_cases hnl : n = l
            · rw [if_pos hnl, if_pos hnl]; exact ho
            · rw [if_neg hnl, if_neg hnl]; omega
          split at hx
          · rename_i hk2
            rcases hk' with ⟨hk', _, _⟩ | ⟨hk', hkc, hn, hN, hp, ho⟩
            · omega
            · split at hx <;> try cases hx
              rename_i l h n hb
              obtain ⟨u1, u2⟩ := bnds_up hkc hb
              split at hx
              · rename_i hms
                rw [if_pos hms] at u1
                split at hx <;> cases hx
                rename_i hk0
                exact odd l h n (by omega) u1 rfl
              · rename_i hms
                have hms : mx.isSome = false := by simpa using hms
                rw [hms] at u1
                simp only [Bool.false_eq_true, if_false] at u1
                split at hx <;> try cases hx
                rename_i cs0 kn es hg
                split at hx <;> cases hx
                rename_i hes
                obtain ⟨b1, b2, b3⟩ := bnds_le hlc u1
                have hnL := u2 hms
                obtain ⟨j, lo, h1, h2, h3⟩ := r.obj v _ hg
                rw [hmi] at h1; cases h1
                have hie : i.es = es := by cases lo <;> first | exact h3.elim | exact h3.2.1
                refine ⟨_, by rw [bndsR hl hh hm u1], ?_⟩
                have hmul : (c - l) * i.es + l * i.es = c * i.es := by rw [← Nat.add_mul]; congr 1; omega
                refine .sl _ _ _ _ _ _ i hmi (by omega) (.inr ⟨by omega, by omega, ?_, by rw [← hes, ← hie]; omega, hp, ?_⟩)
                · split
                  · rename_i hcl; have : c - l = 0 := by omega
                    rw [this]; omega
                  · rw [← hes, ← hie]; omega
                · by_cases hcl : c = l
                  · right; omega
                  · left
                    rw [if_neg hcl]
                    rcases ho with ho | ho <;> omega
          · rename_i hk2
            split at hx <;> cases hx
            rename_i l h n hb
            rcases hk' with ⟨hk', rfl, ho⟩ | ⟨hk', _⟩
            · exact odd l h n ho hb rfl
            · exact absurd hk' hk2
      · cases h
      · cases h1
    · rename_i f es xs
      split at hx <;> try cases hx
      rename_i hes
      split at hx <;> cases hx
      rename_i l h' n hb
      rcases h with h | h | ⟨d, ver, off, h1, h2, h3, h4⟩
      · cases h with
        | base _ hb => simp [Xv.base] at hb
        | isl _ _ _ ys hyl hye hyh =>
          refine ⟨_, by simp only [hes, if_true, hyl]; rw [bndsR hl hh hm hb], ?_⟩
          rw [OR.isSome hm, hes]
          have hg : ∀ (i : Nat) x y, ((xs.take h').drop l)[i]? = some x → ((ys.take h').drop l)[i]? = some y → xs[l + i]? = some x ∧ ys[l + i]? = some y := fun i x y hx hy => by
            rw [List.getElem?_drop, List.getElem?_take] at hx hy
            split at hx
            · rename_i hi; rw [if_pos hi] at hy; exact ⟨hx, hy⟩
            · cases hx
          exact .isl _ _ _ _ (by simp [hyl]) (fun i x y hx hy => hye _ x y (hg i x y hx hy).1 (hg i x y hx hy).2) fun i j x y a b hx hy ha hb => hyh _ j x y a b (hg i x y hx hy).1 (hg i x y hx hy).2 ha hb
      · cases h
      · cases h1
    · have := h.base_inv rfl; subst this
      split at hx <;> cases hx
      rename_i hb
      refine ⟨_, ?_, .base _ rfl⟩
      simp only []
      rw [bndsR hl hh hm hb]
    · have := h.base_inv rfl; subst this
      split at hx <;> cases hx
      rename_i hb
      refine ⟨_, ?_, .base _ rfl⟩
      simp only []
      rw [bndsR hl hh hm hb]
  · rename_i n el hk
    simp only [hk]
    split at hx <;> try cases hx
    rename_i ei v off hei
    split at hx <;> cases hx
    rename_i l h' n' hb
    obtain ⟨b1, b2, b3⟩ := bnds_le (Nat.le_refl _) hb
    rcases h with h | h | ⟨d, ver, off, h1, h2, h3, h4⟩
    · cases h with
      | base _ hb => simp [Xv.base] at hb
      | ptr _ _ i hmi =>
        refine ⟨_, by simp only [hei]; rw [bndsR hl hh hm hb], ?_⟩
        refine .sl _ _ _ _ _ _ i hmi (by omega) (.inl ⟨by omega, by omega, ?_⟩)
        by_cases hnl : n' = l
        · rw [if_pos hnl, if_pos hnl]
        · rw [if_neg hnl, if_neg hnl]; omega
    · cases h
    · cases h1
theorem lenR (r : Rel bs m s B H) (h : TvE m B p q) {t : TypeId} (hx : xlen T s t p = some x) : pfLen T H t q = some x ∧ base x = true := by
  unfold xlen at hx
  split at hx <;> try cases hx
  rename_i ti hT
  split at hx <;> try cases hx
  · rename_i hk; have := h.base_inv rfl; subst this; exact ⟨by simp [pfLen, hT, hk], rfl⟩
  · rename_i n el hk; refine ⟨?_, rfl⟩; simp [pfLen, hT, hk]
  · rename_i el v o l k hk
    rcases h with h | h | ⟨d, ver, off, h1, h2, h3, h4⟩
    · cases h with
      | base _ hb => simp [Xv.base] at hb
      | sl => exact ⟨by simp [pfLen, hT, hk], rfl⟩
    · cases h
    · cases h1
  · rename_i el f e xs hk
    rcases h with h | h | ⟨d, ver, off, h1, h2, h3, h4⟩
    · cases h with
      | base _ hb => simp [Xv.base] at hb
      | isl _ _ _ ys hl => exact ⟨by simp [pfLen, hT, hk, hl], rfl⟩
    · cases h
    · cases h1
  · rename_i hk; have := h.base_inv rfl; subst this; exact ⟨by simp [pfLen, hT, hk], rfl⟩
  · rename_i hk; have := h.base_inv rfl; subst this; exact ⟨by simp [pfLen, hT, hk], rfl⟩
  · rename_i hk; have := h.base_inv rfl; subst this; exact ⟨by simp [pfLen, hT, hk], rfl⟩
  · rename_i kt et b hk
    split at hx <;> cases hx
    rename_i es c hg
    rcases h with h | h | ⟨d, ver, off, h1, h2, h3, h4⟩
    · cases h with
      | base _ hb => simp [Xv.base] at hb
      | mp _ i hmi =>
        obtain ⟨j, lo, h1, h2, h3⟩ := r.obj b _ hg
        rw [hmi] at h1; cases h1
        cases lo with
        | map es' c' => exact ⟨by simp [pfLen, hT, hk, h2, h3.2.1], rfl⟩
        | _ => exact h3.elim
    · cases h
    · cases h1
theorem capR (h : TvE m B p q) {t : TypeId} (hx : xcap T t p = some x) : pfCap T t q = some x ∧ base x = true := by
  unfold xcap at hx
  split at hx <;> try cases hx
  rename_i ti hT
  split at hx <;> try cases hx
  · rename_i n el hk; refine ⟨?_, rfl⟩; simp [pfCap, hT, hk]
  · rename_i el v o l k hk
    split at hx <;> cases hx
    rename_i hodd
    rcases h with h | h | ⟨d, ver, off, h1, h2, h3, h4⟩
    · cases h with
      | base _ hb => simp [Xv.base] at hb
      | sl _ _ _ _ o' c i hmi hlc hk' =>
        rcases hk' with ⟨_, rfl, _⟩ | ⟨hk', _⟩
        · exact ⟨by simp [pfCap, hT, hk], rfl⟩
        · omega
    · cases h
    · cases h1
  · rename_i el e xs hk
    rcases h with h | h | ⟨d, ver, off, h1, h2, h3, h4⟩
    · cases h with
      | base _ hb => simp [Xv.base] at hb
      | isl _ _ _ ys hl => exact ⟨by simp [pfCap, hT, hk, hl], rfl⟩
    · cases h
    · cases h1
  · rename_i hk; have := h.base_inv rfl; subst this; exact ⟨by simp [pfCap, hT, hk], rfl⟩
  · rename_i hk; have := h.base_inv rfl; subst this; exact ⟨by simp [pfCap, hT, hk], rfl⟩
end
end Go.Xv
/- Xe, part F: composite values; all operations that turn nothing in one. Over any program; no condition. -/
namespace Go.Xv
open Go Go.Lv
set_option linter.unusedVariables false
set_option linter.unusedSimpArgs false
section
variable {bs : LP} {m : VM} {s s' : XS} {B : Box} {H : OHeap} {e : ET} {E : Env} {T : Tab} {x y p q v p' q' : LV} {cs ds : List LV} {P : Program}
theorem Tv.one_ne (h : Tv m x y) (ho : x.one = true) : (∀ cs, y ≠ .agg cs) := fun cs he => by
  have := h.one ho; rw [he] at this; simp [LV.one] at this
theorem lcR (h : TvE m B p q) (hc : Lv.lcells p = some cs) : ∃ ds, Lv.lcells q = some ds ∧ Tvs m cs ds ∧ ∀ x ∈ cs, x.one = true := by
  unfold Lv.lcells at hc
  split at hc
  · rename_i cs0
    split at hc <;> cases hc
    rename_i ha
    rcases h with h | h | ⟨d, ver, off, h1, h2, h3, h4⟩
    · cases h with
      | base _ hb => simp [Xv.base] at hb
      | agg _ ds hl hh =>
        have t : Tvs m cs ds := ⟨hl, hh⟩
        have ho := List.all_eq_true.1 ha
        exact ⟨ds, by simp only [Lv.lcells]; rw [if_pos (List.all_eq_true.2 (t.all_one ho))], t, ho⟩
    · cases h
    · cases h1
  · rename_i hna
    split at hc <;> cases hc
    rename_i ho
    have hh : Tv m p q := h.hand (by cases p <;> first | rfl | simp [LV.one] at ho)
    have h1 := hh.one ho
    have h2 := hh.one_ne ho
    refine ⟨[q], ?_, Tvs.cons hh (Tvs.nil m), by simpa using ho⟩
    unfold Lv.lcells
    split
    · exact absurd rfl (h2 _)
    · rw [if_pos h1]
theorem cellsOf_lc : Lv.cellsOf p = Lv.lcells p := by unfold Lv.cellsOf Lv.lcells; cases p <;> rfl
def PTv (m : VM) (B : Box) (ps qs : List (Nat × LV)) : Prop := qs.length = ps.length ∧ ∀ (i : Nat) a b, ps[i]? = some a → qs[i]? = some b → b.1 = a.1 ∧ TvE m B a.2 b.2
theorem partsR (r : Rel bs m s B H) (he : EnvR m B e E) (ps : Array (Nat × Operand)) : PTv m B (xparts e ps) (evParts E ps) := by
  refine ⟨by simp [xparts, evParts], fun i a b ha hb => ?_⟩
  simp only [xparts, evParts, List.getElem?_map, Option.map_eq_some_iff] at ha hb
  obtain ⟨x, h1, rfl⟩ := ha
  obtain ⟨y, h2, rfl⟩ := hb
  rw [h1] at h2; cases h2
  exact ⟨rfl, evR r he _⟩
theorem putAtR {ns ns' : List LV} : ∀ {cs ds : List LV} {off : Nat}, Tvs m cs ds → Tvs m ns ns' → Tvs m (putAt cs off ns) (putAt ds off ns') := by
  induction ns generalizing ns' with
  | nil => intro cs ds off h hn; rw [hn.nil_inv]; exact h
  | cons x ns ih => intro cs ds off h hn; obtain ⟨y, ds', rfl, h1, h2⟩ := hn.cons_inv; exact ih (h.set off h1) h2
theorem putAt_one {ns : List LV} : ∀ {cs : List LV} {off : Nat}, (∀ x ∈ cs, x.one = true) → (∀ x ∈ ns, x.one = true) → ∀ x ∈ putAt cs off ns, x.one = true := by
  induction ns with
  | nil => intro cs off h _; exact h
  | cons y ns ih =>
    intro cs off h hn
    refine ih (fun x hx => ?_) fun x hx => hn x (List.mem_cons_of_mem _ hx)
    rcases List.mem_or_eq_of_mem_set hx with hx | rfl
    · exact h x hx
    · exact hn _ (List.mem_cons_self ..)
theorem fillR {place : Nat → Option (Nat × Nat)} : ∀ {ps qs : List (Nat × LV)} {cs ds out : List LV}, Tvs m cs ds → (∀ x ∈ cs, x.one = true) → PTv m B ps qs → fillL place cs ps = some out →
    ∃ out', fillL place ds qs = some out' ∧ Tvs m out out' ∧ (∀ x ∈ out, x.one = true) ∧ out.length = cs.length
  | [], qs, cs, ds, out, h, ho, hp, hf => by
    have : qs = [] := List.eq_nil_of_length_eq_zero (by simpa using hp.1)
    subst this
    simp only [fillL, Option.some.injEq] at hf; subst hf
    exact ⟨ds, rfl, h, ho, rfl⟩
  | (i, x) :: ps, [], cs, ds, out, h, ho, hp, hf => by have := hp.1; simp at this
  | (i, x) :: ps, (j, y) :: qs, cs, ds, out, h, ho, hp, hf => by
    obtain ⟨h1, h2⟩ := hp.2 0 (i, x) (j, y) rfl rfl
    simp only [] at h1 h2
    subst h1
    unfold fillL at hf ⊢
    split at hf <;> try cases hf
    rename_i off size new hpl hc
    split at hf <;> try cases hf
    rename_i hh
    rw [cellsOf_lc] at hc
    obtain ⟨new', g1, g2, g3⟩ := lcR h2 hc
    have g1' : Lv.cellsOf y = some new' := by rw [cellsOf_lc]; exact g1
    obtain ⟨out', k1, k2, k3, k4⟩ := fillR (putAtR h g2) (putAt_one ho g3) (show PTv m B ps qs from ⟨by have := hp.1; simpa using this, fun a u w hu hw => hp.2 (a + 1) u w (by simpa using hu) (by simpa using hw)⟩) hf
    refine ⟨out', ?_, k2, k3, by rw [k4, putAt_length]⟩
    simp only [hpl, g1', g2.1, hh.1, h.1, hh.2, and_self, if_true]
    exact k1
/-- What the table says of zeros. -/
theorem zero_base (hT : TOK P T) {t : TypeId} {ti : TI} (h : T t = some ti) : ∀ x ∈ ti.zero, Xv.base x = true ∨ ∃ f, x = .fn f [] [] := fun x hx => by
  obtain ⟨i, z, h1, h2, h3, h4, h5, h6⟩ := (hT t ti h).info
  rw [← h5] at hx
  obtain ⟨v, _, rfl⟩ := List.mem_map.1 hx
  have ho := (hT t ti h).one (ofV1 v) (by rw [← h5]; exact hx)
  generalize hy : ofV1 v = y at ho ⊢
  unfold ofV1 at hy
  split at hy <;> subst hy <;> first | exact .inl rfl | exact .inr ⟨_, rfl⟩ | simp [LV.one] at ho
theorem zeroR (hT : TOK P T) {t : TypeId} {ti : TI} (h : T t = some ti) : Tvs m ti.zero ti.zero := ⟨rfl, fun i x y hx hy => by
  rw [hx] at hy; cases hy
  rcases zero_base hT h x (List.mem_of_getElem? hx) with h | ⟨f, rfl⟩
  · exact .base _ h
  · exact .fn _ [] [] [] [] rfl rfl (by simp) (by simp)⟩
theorem zerosR (hT : TOK P T) {t : TypeId} {ti : TI} (h : T t = some ti) : ∀ n, Tvs m (zerosL ti.zero n) (zerosL ti.zero n)
  | 0 => Tvs.nil m
  | n + 1 => Tvs.append (zeroR hT h) (zerosR hT h n)
theorem bldR (hT : TOK P T) {t : TypeId} {ps qs : List (Nat × LV)} (h : PTv m B ps qs) (hx : bld T t ps = some x) : ∃ y, bld T t qs = some y ∧ Tv m x y := by
  unfold bld at hx ⊢
  split at hx <;> try cases hx
  rename_i ti hti
  have ho := (hT t ti hti).one
  split at hx <;> try cases hx
  · rename_i fs hk
    split at hx <;> try cases hx
    rename_i hall
    obtain ⟨cs, h1, rfl⟩ := Option.map_eq_some_iff.1 hx
    obtain ⟨ds, h2, h3, _⟩ := fillR (zeroR hT hti) ho h h1
    exact ⟨.agg ds, by simp only [hti, hk, hall, if_true, h2, Option.map_some], .agg _ _ h3.1 h3.2⟩
  · rename_i n el hk
    split at hx <;> try cases hx
    rename_i ei hei
    obtain ⟨cs, h1, rfl⟩ := Option.map_eq_some_iff.1 hx
    obtain ⟨ds, h2, h3, _⟩ := fillR (zeroR hT hti) ho h h1
    exact ⟨.agg ds, by simp only [hti, hk, hei, h2, Option.map_some], .agg _ _ h3.1 h3.2⟩
theorem kElem_ok {t : TypeId} {ei : TI} (h : kElem T t = some ei) : ∃ ti el, T t = some ti ∧ ti.kind = .slice el ∧ T el = some ei := by
  unfold kElem at h
  split at h <;> try cases h
  rename_i ti hti
  split at h <;> try cases h
  rename_i el hk
  exact ⟨ti, el, hti, hk, h⟩
theorem bslR (hT : TOK P T) {t : TypeId} {n : Nat} {ei : TI} {ps qs : List (Nat × LV)} (h : PTv m B ps qs) (hx : bsl T t n ps = some (ei, cs)) :
    ∃ ti el ds, T t = some ti ∧ ti.kind = .slice el ∧ T el = some ei ∧ n * ei.size ≤ 16777216 ∧ fillL (fun i => some (i * ei.size, ei.size)) (zerosL ei.zero n) qs = some ds ∧ Tvs m cs ds ∧ (∀ x ∈ cs, x.one = true) ∧ cs.length = n * ei.size := by
  unfold bsl at hx
  split at hx <;> try cases hx
  rename_i ei' hk
  obtain ⟨ti, el, h1, h2, h3⟩ := kElem_ok hk
  split at hx <;> try cases hx
  rename_i hle
  obtain ⟨cs', h4, h5⟩ := Option.map_eq_some_iff.1 hx
  cases h5
  obtain ⟨ds, h6, h7, h8, h9⟩ := fillR (zerosR hT h3 n) (zerosL_one (hT el ei h3).one n) h h4
  exact ⟨ti, el, ds, h1, h2, h3, hle, h6, h7, h8, by rw [h9, zerosL_length, (hT el ei h3).len]⟩
theorem lft_inv {z : Option LV} (h : lft s z = some (v, s')) : s' = s ∧ z = some v := by
  cases z with
  | none => cases h
  | some z => cases h; exact ⟨rfl, rfl⟩
theorem map1 {f : Operand → LV} {a : Array Operand} (h : a.toList.map f = [x]) : ∃ p, a.toList = [p] ∧ f p = x := by
  cases hl : a.toList with
  | nil => simp [hl] at h
  | cons p l => cases l with
    | nil => simp [hl] at h; exact ⟨p, rfl, h⟩
    | cons _ _ => simp [hl] at h
theorem map2 {f : Operand → LV} {a : Array Operand} (h : a.toList.map f = [x, y]) : ∃ p q, a.toList = [p, q] ∧ f p = x ∧ f q = y := by
  cases hl : a.toList with
  | nil => simp [hl] at h
  | cons p l => cases l with
    | nil => simp [hl] at h
    | cons q l => cases l with
      | nil => simp [hl] at h; exact ⟨p, q, rfl, h⟩
      | cons _ _ => simp [hl] at h
/-- All but literal rows. -/
def pureX (o : Oper) : Bool := pureOp o && (match o.op with | .buildSlice .. => false | .convert a d _ => !Nat.beq a d | _ => true)
theorem pureR (hT : TOK P T) (r : Rel bs m s B H) (he : EnvR m B e E) {o : Oper} {dr : Bool} (hp : pureX o = true) (hx : xop T dr o.op o.dst e s = some (v, s')) : s' = s ∧ ∃ y, pf T o E B H = some y ∧ TvE m B v y := by
  unfold pf
  unfold xop at hx
  cases ho : o.op <;> rw [ho] at hx <;> first | (simp [pureX, pureOp, ho] at hp; done) | skip
  all_goals simp only [] at hx
  case call c =>
    split at hx <;> try cases hx
    rename_i b hc
    simp only [pureX, pureOp, ho, hc] at hp
    have hx' := hx
    clear hx
    simp only [hc]
    cases b <;> first | (simp at hp; done) | skip
    all_goals simp only [xbi] at hx'
    all_goals (split at hx' <;> try cases hx')
    · rename_i a t ha ht
      obtain ⟨p, h1, rfl⟩ := map1 ha
      obtain ⟨h2, h3⟩ := lft_inv hx'
      obtain ⟨h4, h5⟩ := capR (evR r he p) h3
      exact ⟨h2, v, by simp only [h1, ht]; exact h4, .inl (.base _ h5)⟩
    · rename_i a t ha ht
      obtain ⟨p, h1, rfl⟩ := map1 ha
      obtain ⟨h2, h3⟩ := lft_inv hx'
      obtain ⟨h4, h5⟩ := lenR r (evR r he p) h3
      exact ⟨h2, v, by simp only [h1, ht]; exact h4, .inl (.base _ h5)⟩
    · rename_i a b' t t' ha ht
      obtain ⟨p, q, h1, rfl, rfl⟩ := map2 ha
      obtain ⟨h2, h3⟩ := lft_inv hx'
      obtain ⟨h4, h5⟩ := maxR (evR r he p) (evR r he q) h3
      exact ⟨h2, v, by simp only [h1, ht]; exact h4, .inl (.base _ h5)⟩
    · rename_i a b' t t' ha ht
      obtain ⟨p, q, h1, rfl, rfl⟩ := map2 ha
      obtain ⟨h2, h3⟩ := lft_inv hx'
      obtain ⟨h4, h5⟩ := minR (evR r he p) (evR r he q) h3
      exact ⟨h2, v, by simp only [h1, ht]; exact h4, .inl (.base _ h5)⟩
  case move p => cases hx; exact ⟨rfl, _, rfl, evR r he p⟩
  case assign p => cases hx; exact ⟨rfl, _, rfl, evR r he p⟩
  case pick c p q => obtain ⟨h1, h2⟩ := lft_inv hx; exact ⟨h1, pickvR (evR r he c) (evR r he p) (evR r he q) h2⟩
  case load t p => obtain ⟨h1, h2⟩ := lft_inv hx; obtain ⟨y, h3, h4⟩ := loadR r (evR r he p) h2; exact ⟨h1, y, h3, .inl h4⟩
  case nilCheck p =>
    obtain ⟨h1, h2, h3⟩ := ncR r (evR r he p) hx
    subst h2
    exact ⟨h1, ev E p, by simp only [h3, if_true], evR r he p⟩
  case binOp op t p q yt => obtain ⟨h1, h2⟩ := lft_inv hx; obtain ⟨h3, h4⟩ := binR (evR r he p) (evR r he q) h2; exact ⟨h1, v, h3, .inl (.base _ h4)⟩
  case unOp op t p => obtain ⟨h1, h2⟩ := lft_inv hx; obtain ⟨h3, h4⟩ := unR (evR r he p) h2; exact ⟨h1, v, h3, .inl (.base _ h4)⟩
  case convert a d p =>
    simp only [pureX, ho, Bool.and_eq_true, Bool.not_eq_true'] at hp
    simp only [hp.2] at hx
    obtain ⟨h1, h2⟩ := lft_inv hx; obtain ⟨y, h3, h4⟩ := convR r (evR r he p) h2; exact ⟨h1, y, h3, .inl h4⟩
  case fieldAddr t p f => obtain ⟨h1, h2⟩ := lft_inv hx; exact ⟨h1, faR r (evR r he p) h2⟩
  case field t p f => obtain ⟨h1, h2⟩ := lft_inv hx; obtain ⟨y, h3, h4⟩ := fieldR (evR r he p) h2; exact ⟨h1, y, h3, .inl h4⟩
  case indexAddr t p i => obtain ⟨h1, h2⟩ := lft_inv hx; exact ⟨h1, iaR r (evR r he p) (evR r he i) h2⟩
  case index t p i => obtain ⟨h1, h2⟩ := lft_inv hx; obtain ⟨y, h3, h4⟩ := indexR (evR r he p) (evR r he i) h2; exact ⟨h1, y, h3, .inl h4⟩
  case slice t p lo hi mx => obtain ⟨h1, h2⟩ := lft_inv hx; obtain ⟨y, h3, h4⟩ := sliceR r (evR r he p) (OR.map r he lo) (OR.map r he hi) (OR.map r he mx) h2; exact ⟨h1, y, h3, .inl h4⟩
  case extract p i => obtain ⟨h1, h2⟩ := lft_inv hx; obtain ⟨y, h3, h4⟩ := extR (evR r he p) h2; exact ⟨h1, y, h3, .inl h4⟩
  case makeInterface t p => obtain ⟨h1, h2⟩ := lft_inv hx; obtain ⟨y, h3, h4⟩ := ifR (evR r he p) h2; exact ⟨h1, y, h3, .inl h4⟩
  case makeFunc f fst caps => obtain ⟨h1, h2⟩ := lft_inv hx; obtain ⟨y, h3, h4⟩ := mfR r he h2; exact ⟨h1, y, h3, .inl h4⟩
  case build t ps => obtain ⟨h1, h2⟩ := lft_inv hx; obtain ⟨y, h3, h4⟩ := bldR hT (partsR r he ps) h2; exact ⟨h1, y, h3, .inl h4⟩
end
end Go.Xv
/- Xe, part G: the operations that turn memory. Over any program; no condition. -/
namespace Go.Xv
open Go Go.Lv
set_option linter.unusedVariables false
set_option linter.unusedSimpArgs false
set_option maxRecDepth 4000
section
variable {bs : LP} {m : VM} {s s' : XS} {B : Box} {H : OHeap} {e : ET} {E : Env} {T : Tab} {x y p q v p' q' : LV} {cs ds : List LV} {P : Program} {o : Oper} {Q : LV → Box → OHeap → Prop}
/-- What is owed of an operation: in a drawn region the condition, else the step. -/
def Fn (P : Program) (T : Tab) (dr : Bool) (o : Oper) (E : Env) (B : Box) (H : OHeap) (Q : LV → Box → OHeap → Prop) : Prop := match dr with
  | true => oneS P T o E B H Q
  | false => Step P o E B H Q
theorem Fn.op (hT : TOK P T) {dr : Bool} (ho : oneS P T o E B H Q = opS T o E B H Q) (h : opS T o E B H Q) : Fn P T dr o E B H Q := by
  cases dr
  · exact opS_sound hT h
  · show oneS P T o E B H Q
    rw [ho]; exact h
theorem Fn.mp (hT : TOK P T) {dr : Bool} (ho : oneS P T o E B H Q = mapS T o E H fun x H' => Q x B H') (h : mapS T o E H fun x H' => Q x B H') : Fn P T dr o E B H Q := by
  cases dr
  · exact mapS_sound hT h
  · show oneS P T o E B H Q
    rw [ho]; exact h
theorem Got.here (hq : Got bs m B v s' Q) {y : LV} {B' : Box} {H' : OHeap} (hB : BLe B B') (hy : TvE m B' v y) (r : Rel bs m s' B' H') : Q y B' H' := hq m y B' H' (Mle.refl m) hB hy r
theorem seg_win {pre post ns : List LV} {k : Nat} (hk : k ≤ cs.length) : seg (pre ++ cs ++ post) (pre.length + k) ns = pre ++ seg cs k ns ++ post.drop (k + ns.length - cs.length) := by
  have h1 : (pre ++ cs ++ post).take (pre.length + k) = pre ++ cs.take k := by
    rw [List.append_assoc, List.take_append, List.take_of_length_le (by omega), Nat.add_sub_cancel_left, List.take_append_of_le_length hk]
  unfold seg
  rw [h1, Nat.add_assoc, drop_win]
  simp only [List.append_assoc]
theorem seg_one {ns : List LV} {k : Nat} (h : ∀ x ∈ cs, x.one = true) (hn : ∀ x ∈ ns, x.one = true) : ∀ x ∈ seg cs k ns, x.one = true := fun x hx => by
  unfold seg at hx
  simp only [List.mem_append] at hx
  rcases hx with (hx | hx) | hx
  · exact h x (List.mem_of_mem_take hx)
  · exact hn x hx
  · exact h x (List.mem_of_mem_drop hx)
/-- A write into a block. -/
theorem XOR.seg {i : MI} {kn es n k : Nat} {ns ns' : List LV} (h : XOR m i (.cells cs kn es) (.cells ds n)) (hn : Tvs m ns ns') (ho : ∀ x ∈ ns, x.one = true) (hk : k ≤ cs.length) (hle : i.δ + k + ns.length ≤ n) :
    XOR m i (.cells (seg cs k ns) kn es) (.cells (Lv.seg ds (i.δ + k) ns') n) := by
  obtain ⟨h1, h2, h3, h4, h5, pre, cs', post, e1, e2, e3⟩ := h
  refine ⟨h1, h2, seg_one h3 ho, h4, ?_, pre, Lv.seg cs' k ns', post.drop (k + ns'.length - cs'.length), ?_, e2, e3.seg hn k⟩
  · have := hn.1
    unfold Lv.seg; simp; omega
  · rw [e1, ← e2, seg_win (by rw [e3.1]; exact hk)]
theorem XOR.len {i : MI} {kn es n : Nat} (h : XOR m i (.cells cs kn es) (.cells ds n)) : i.δ + cs.length ≤ n ∧ i.δ + cs.length ≤ ds.length := by
  obtain ⟨h1, h2, h3, h4, h5, pre, cs', post, e1, e2, e3⟩ := h
  have := e3.1
  rw [e1] at h5 ⊢; simp at h5 ⊢; omega
/-- The block of a number that stands. -/
theorem Rel.cells (r : Rel bs m s B H) {v kn es : Nat} {i : MI} (hm : m v = some i) (hg : s.t.get v = some (.cells cs kn es)) : ∃ ds n, H i.b = some (.cells ds n) ∧ XOR m i (.cells cs kn es) (.cells ds n) := by
  obtain ⟨j, lo, h1, h2, h3⟩ := r.obj v _ hg
  rw [hm] at h1; cases h1
  cases lo with
  | cells ds n => exact ⟨ds, n, h2, h3⟩
  | _ => exact h3.elim
theorem lkb_stb : ∀ (l : List (Nat × List LV)) (d : Nat) (cs : List LV) (d' : Nat), (lkb l d).isSome = true → lkb (stb l d cs) d' = if d' = d then some cs else lkb l d'
  | [], d, cs, d', h => by simp [lkb] at h
  | x :: l, d, cs, d', h => by
    unfold stb
    by_cases hx : x.1 = d
    · rw [if_pos hx]
      unfold lkb
      by_cases h' : d = d'
      · simp [h', eq_comm]
      · simp only [h', if_false, hx, if_false]
        rw [if_neg (fun e => h' e.symm)]
    · rw [if_neg hx]
      unfold lkb at h ⊢
      rw [if_neg hx] at h
      by_cases h' : x.1 = d'
      · rw [if_pos h', if_pos h', if_neg (fun e => hx (by rw [h', e]))]
      · rw [if_neg h', if_neg h', lkb_stb l d cs d' h]
theorem Rel.box (r : Rel bs m s B H) {d : Nat} {cs0 : List LV} (hd : lkb s.bx d = some cs0) (ht : Tvs m cs ds) (ho : ∀ x ∈ cs, x.one = true) : Rel bs m { s with bx := stb s.bx d cs } (setB B d ds) H := by
  have hl := lkb_stb s.bx d cs
  have hs : (lkb s.bx d).isSome = true := by simp [hd]
  refine ⟨r.obj, r.lt, r.inj, r.loop, fun d' h => ?_, fun d' c h => ?_, r.glob⟩
  · rw [hl d' hs] at h
    split at h
    · cases h
    · rename_i hne; rw [setB_apply, if_neg hne]; exact r.box0 d' h
  · rw [hl d' hs] at h
    split at h
    · rename_i e'; cases h; subst e'
      exact ⟨ho, ds, by simp, ht⟩
    · rename_i hne
      obtain ⟨h1, c', h2, h3⟩ := r.box1 d' c h
      exact ⟨h1, c', by rw [setB_apply, if_neg hne]; exact h2, h3⟩
theorem BLe.setB {d : Nat} (h : (B d).2.isSome = true) : BLe B (setB B d ds) := fun d' h' => by
  rw [setB_apply]
  split
  · rename_i e; subst e; exact ⟨rfl, rfl⟩
  · exact ⟨rfl, h'⟩
theorem stR (r : Rel bs m s B H) (h : TvE m B p q) {ns ns' : List LV} (hn : Tvs m ns ns') (ho : ∀ x ∈ ns, x.one = true) (hx : xst s p ns = some s') {K : Box → OHeap → Prop} (hK : ∀ B' H', BLe B B' → Rel bs m s' B' H' → K B' H') : stL B H q ns' K := by
  unfold xst at hx
  split at hx <;> try cases hx
  · rename_i d z off
    split at hx <;> try cases hx
    rename_i cs0 hd
    split at hx <;> cases hx
    rename_i hle
    rcases h with h | h | ⟨d', ver, off', h1, h2, h3, h4⟩
    · cases h; rename_i hb; simp [Xv.base] at hb
    · cases h
    · cases h1; subst h2
      obtain ⟨h5, cs', h6, h7⟩ := r.box1 d cs0 hd
      refine ⟨h3, ?_⟩
      simp only [h6]
      refine ⟨by rw [hn.1, h7.1]; exact hle, hK _ _ (BLe.setB h4) (r.box hd (h7.seg hn off) (seg_one h5 ho))⟩
  · rename_i w off
    split at hx <;> try cases hx
    rename_i cs0 kn es hg
    split at hx <;> cases hx
    rename_i hle
    rcases h with h | h | ⟨d', ver, off', h1, h2, h3, h4⟩
    · cases h with
      | base _ hb => simp [Xv.base] at hb
      | ptr _ _ i hm =>
        obtain ⟨ds, n, h1, h2⟩ := r.cells hm hg
        obtain ⟨l1, l2⟩ := h2.len
        have hs := h2.seg hn ho (k := off) (by omega) (by omega)
        unfold stL
        simp only [h1]
        exact ⟨⟨by omega, by rw [hn.1]; omega⟩, hK _ _ (BLe.refl B) (r.turn hg hm hs)⟩
    · cases h
    · cases h1
theorem kE {t : TypeId} {ei : TI} (h : kElem T t = some ei) : ∃ ti el, T t = some ti ∧ ti.kind = .slice el ∧ T el = some ei := kElem_ok h
/-- A new block of cells that are all known. -/
theorem new_cells (r : Rel bs m s B H) {b n es : Nat} (hb : H b = none) (ht : Tvs m cs ds) (ho : ∀ x ∈ cs, x.one = true) (hl : cs.length ≤ n) {kn : Nat} (hk : kn ≠ 0 → n + 1 = kn) :
    Rel bs (setM m s.nx ⟨b, 0, n, es⟩) (s.new (.cells cs kn es)) B (setH H b (.cells ds n)) :=
  r.new (i := ⟨b, 0, n, es⟩) hb ⟨rfl, rfl, ho, fun h => ⟨rfl, hk h⟩, by rw [ht.1]; exact hl, [], ds, [], by simp, rfl, ht.mono (r.mle _)⟩
theorem setM_here (v : Nat) (i : MI) : setM m v i v = some i := by simp [setM]
end
end Go.Xv
/- Xe, part I: the operations that turn memory, one by one. Over any program; no condition. -/
namespace Go.Xv
open Go Go.Lv
set_option linter.unusedVariables false
set_option linter.unusedSimpArgs false
set_option maxRecDepth 4000
section
variable {bs : LP} {m : VM} {s s' : XS} {B : Box} {H : OHeap} {e : ET} {E : Env} {T : Tab} {x y v : LV} {cs ds : List LV} {P : Program} {o : Oper} {Q : LV → Box → OHeap → Prop} {dr : Bool}
theorem storeR (hT : TOK P T) (r : Rel bs m s B H) (he : EnvR m B e E) {t : TypeId} {p x : Operand} (ho : o.op = .store t p x) (hx : xstore T s t (xev e p) (xev e x) = some (v, s')) (hq : Got bs m B v s' Q) : Fn P T dr o E B H Q := by
  refine Fn.op hT (by simp [oneS, ho]) ?_
  unfold xstore at hx
  split at hx <;> try cases hx
  rename_i ti ns hti hl
  split at hx <;> try cases hx
  rename_i hsz
  split at hx <;> cases hx
  rename_i hst
  obtain ⟨ns', h1, h2, h3⟩ := lcR (evR r he x) hl
  simp only [opS, ho, hti, h1]
  exact ⟨by rw [h2.1]; exact hsz, stR r (evR r he p) h2 h3 hst fun B' H' hB hr => hq.here hB (.inr (.inl rfl)) hr⟩
theorem allocR (hT : TOK P T) (r : Rel bs m s B H) {t : TypeId} (ho : o.op = .alloc t) (hx : xalloc T s dr o.dst t = some (v, s')) (hq : Got bs m B v s' Q) : Fn P T dr o E B H Q := by
  unfold xalloc at hx
  split at hx <;> try cases hx
  rename_i ti hti
  have hl := (hT t ti hti).len
  have h1 := (hT t ti hti).one
  cases dr with
  | false =>
    cases hx
    exact step_ownAlloc hT ho hti fun b hb => hq _ _ _ _ (r.mle ⟨b, 0, ti.size, ti.size⟩) (BLe.refl B) (.inl (by simpa using Tv.ptr s.nx 0 ⟨b, 0, ti.size, ti.size⟩ (setM_here _ _)))
      (new_cells r hb (zeroR hT hti) h1 (by omega) (by omega))
  | true =>
    simp only [] at hx
    split at hx <;> try cases hx
    rename_i d hd
    split at hx <;> cases hx
    rename_i hn
    have hB0 := r.box0 d hn
    have hne : ∀ d', (B d').2.isSome = true → d' ≠ d := fun d' h e => by subst e; rw [hB0] at h; cases h
    refine Fn.op (dr := true) hT (by simp [oneS, ho]) ?_
    simp only [opS, ho, hd, hti]
    have hB : BLe B (newB B d ti.zero) := fun d' h => by simp [hne d' h, h]
    refine hq.here hB (.inr (.inr ⟨d, _, 0, rfl, rfl, by simp, by simp⟩)) ⟨r.obj, r.lt, r.inj, r.loop, fun d' h => ?_, fun d' c h => ?_, r.glob⟩
    · simp only [lkb] at h
      split at h
      · cases h
      · rename_i hne'; rw [newB_apply, if_neg (fun e => hne' e.symm)]; exact r.box0 d' h
    · simp only [lkb] at h
      split at h
      · rename_i e; subst e; cases h; exact ⟨h1, ti.zero, by simp, zeroR hT hti⟩
      · rename_i hne'; rw [newB_apply, if_neg (fun e => hne' e.symm)]; exact r.box1 d' c h
theorem boxR (hT : TOK P T) (r : Rel bs m s B H) (he : EnvR m B e E) {t : TypeId} {x : Operand} (ho : o.op = .box t x) (hx : xbox s dr (xev e x) = some (v, s')) (hq : Got bs m B v s' Q) : Fn P T dr o E B H Q := by
  unfold xbox at hx
  split at hx <;> cases hx
  rename_i cs hl
  obtain ⟨ds, h1, h2, h3⟩ := lcR (evR r he x) hl
  refine step_ownBox ho h1 fun b hb => hq _ _ _ _ (r.mle ⟨b, 0, cs.length, cs.length⟩) (BLe.refl B) (.inl (by simpa using Tv.ptr s.nx 0 ⟨b, 0, cs.length, cs.length⟩ (setM_here _ _))) ?_
  rw [h2.1]
  exact new_cells r hb h2 h3 (Nat.le_refl _) (by omega)
theorem msR (hT : TOK P T) (r : Rel bs m s B H) (he : EnvR m B e E) {t : TypeId} {l c : Operand} (ho : o.op = .makeSlice t l c) (hx : xms T s t (xev e l) (xev e c) = some (v, s')) (hq : Got bs m B v s' Q) : Fn P T dr o E B H Q := by
  refine Fn.op hT (by simp [oneS, ho]) ?_
  unfold xms at hx
  split at hx <;> try cases hx
  rename_i ei kl ln kc cn hk hl hc
  obtain ⟨ti, el, h1, h2, h3⟩ := kElem_ok hk
  split at hx <;> cases hx
  rename_i hh
  have e1 : ev E l = .int kl ln := (by have := evR r he l; rw [hl] at this; exact this.int)
  have e2 : ev E c = .int kc cn := (by have := evR r he c; rw [hc] at this; exact this.int)
  simp only [opS, ho, h1, h2, h3, e1, e2]
  refine ⟨hh, fun b hb => hq _ _ _ _ (r.mle ⟨b, 0, cn.toNat * ei.size, ei.size⟩) (BLe.refl B) (.inl ?_) ?_⟩
  · exact Tv.sl s.nx 0 ln.toNat (2 * cn.toNat + 1) 0 cn.toNat ⟨b, 0, cn.toNat * ei.size, ei.size⟩ (setM_here _ _) (by omega) (.inl ⟨by omega, by omega, rfl⟩)
  · exact new_cells r hb (zerosR hT h3 _) (zerosL_one (hT el ei h3).one _) (by rw [zerosL_length, (hT el ei h3).len]; exact Nat.le_refl _) (by omega)
theorem chunksR {size n : Nat} (h : Tvs m cs ds) (hl : cs.length = n * size) (f : Bool) : Tv m (.isl f size (chunks size n cs)) (.isl f size (chunks size n ds)) := by
  have hl' : ds.length = n * size := by rw [h.1]; exact hl
  refine .isl _ _ _ _ (by rw [chunks_length, chunks_length]) (fun i x y hx hy => ?_) fun i j x y a b hx hy ha hb => ?_
  · rw [(chunks_get hl hx).2.1, (chunks_get hl' hy).2.1]
  · exact h.2 _ a b ((chunks_get hl hx).2.2 j a ha) ((chunks_get hl' hy).2.2 j b hb)
theorem bsR (hT : TOK P T) (r : Rel bs m s B H) (he : EnvR m B e E) {t : TypeId} {n : Nat} {ps : Array (Nat × Operand)} (ho : o.op = .buildSlice t n ps) (hx : xbs T s dr t n (xparts e ps) = some (v, s')) (hq : Got bs m B v s' Q) : Fn P T dr o E B H Q := by
  unfold xbs at hx
  split at hx <;> try cases hx
  rename_i ei cs hb
  obtain ⟨ti, el, ds, h1, h2, h3, h4, h5, h6, h7, h8⟩ := bslR hT (partsR r he ps) hb
  cases dr with
  | false =>
    cases hx
    refine step_ownSlice hT ho h1 h2 h3 h4 h5 fun b hb => hq _ _ _ _ (r.mle ⟨b, 0, n * ei.size, ei.size⟩) (BLe.refl B) (.inl ?_) (new_cells r hb h6 h7 (by omega) (by omega))
    exact Tv.sl s.nx 0 n (2 * n + 1) 0 n ⟨b, 0, n * ei.size, ei.size⟩ (setM_here _ _) (Nat.le_refl _) (.inl ⟨by omega, by omega, rfl⟩)
  | true =>
    cases hx
    refine Fn.op (dr := true) hT (by simp [oneS, ho]) ?_
    have : pf T o E B H = some (.isl true ei.size (chunks ei.size n ds)) := by
      simp only [pf, ho, pfBuildSlice, h1, h2, h3, h4, if_true, h5, Option.map_some]
    simp only [opS, ho, this, ob_some]
    exact hq.here (BLe.refl B) (.inl (chunksR h6 h8 true)) r
theorem s2aR (hT : TOK P T) (r : Rel bs m s B H) (he : EnvR m B e E) {t : TypeId} {p : Operand} (ho : o.op = .sliceToArrayPointer t p) (hx : xs2a T s dr t (xev e p) = some (v, s')) (hq : Got bs m B v s' Q) : Fn P T dr o E B H Q := by
  unfold xs2a at hx
  split at hx <;> try cases hx
  rename_i ti w off len k hti hp
  split at hx <;> try cases hx
  rename_i n el hk
  split at hx <;> cases hx
  rename_i hn
  have h := evR r he p
  rw [hp] at h
  rcases h with h | h | ⟨d', ver, off', h1, h2, h3, h4⟩
  · generalize hy : ev E p = y at h
    cases h with
    | base _ hb => simp [Xv.base] at hb
    | sl _ _ _ _ o' c i hm hlc hk' =>
      have ho' : o' = i.δ + off := by omega
      refine (pf_s2a hT ho hti hk hy hn.2).step (hq.here (BLe.refl B) (.inl ?_) r)
      rw [ho']; exact .ptr _ _ _ hm
  · cases h
  · cases h1
theorem markR (hT : TOK P T) (r : Rel bs m s B H) (he : EnvR m B e E) {t : TypeId} {p : Operand} (ho : o.op = .convert t t p) (hx : xmark T s dr t (xev e p) = some (v, s')) (hq : Got bs m B v s' Q) : Fn P T dr o E B H Q := by
  unfold xmark at hx
  split at hx <;> try cases hx
  rename_i w off len k hp
  split at hx <;> try cases hx
  rename_i ei cs kn es hk hg
  obtain ⟨ti, el, h1, h2, h3⟩ := kElem_ok hk
  split at hx <;> cases hx
  rename_i hh
  have h := evR r he p
  rw [hp] at h
  rcases h with h | h | ⟨d', ver, off', h1, h2, h3, h4⟩
  · generalize hy : ev E p = y at h
    cases h with
    | base _ hb => simp [Xv.base] at hb
    | sl _ _ _ _ o' c i hm hlc hk' =>
      have ho' : o' = i.δ + off := by omega
      have hc : c = k / 2 := by omega
      obtain ⟨ds, n, g1, g2⟩ := r.cells hm hg
      obtain ⟨l1, l2⟩ := g2.len
      obtain ⟨_, _, g3, _, _, pre, cs', post, e1, e2, e3⟩ := g2
      have hle' : off + len * ei.size ≤ cs'.length := by rw [e3.1]; exact hh.2.1
      refine step_mark hT ho h1 h2 h3 hh.1 hy g1 (by omega) hlc (hq.here (BLe.refl B) (.inl ?_) (r.kill hg hm))
      rw [ho', e1, ← e2, win_take hle', hc]
      exact chunksR ((e3.drop off).take _) (by simp; omega) _
  · cases h
  · cases h1
theorem clearR (hT : TOK P T) (r : Rel bs m s B H) (he : EnvR m B e E) {t : TypeId} {p : Operand} {ei : TI} (hk : kElem T t = some ei) {c : Call} (ho : o.op = .call c) (hc : c.callee = .builtin .clear) (ha : c.args.toList = [p]) (ht : c.argTypes.toList = [t])
    (hx : xclear s ei (xev e p) = some (v, s')) (hq : Got bs m B v s' Q) : Fn P T dr o E B H Q := by
  refine Fn.op hT (by simp [oneS, ho, hc]) ?_
  obtain ⟨ti, el, h1, h2, h3⟩ := kElem_ok hk
  unfold xclear at hx
  split at hx <;> try cases hx
  rename_i w off len k hp
  split at hx <;> try cases hx
  rename_i cs kn es hg
  split at hx <;> cases hx
  rename_i hh
  have h := evR r he p
  rw [hp] at h
  rcases h with h | h | ⟨d', ver, off', h1, h2, h3, h4⟩
  · generalize hy : ev E p = y at h
    cases h with
    | base _ hb => simp [Xv.base] at hb
    | sl _ _ _ _ o' c' i hm hlc hk' =>
      have ho' : o' = i.δ + off := by omega
      obtain ⟨ds, n, g1, g2⟩ := r.cells hm hg
      obtain ⟨l1, l2⟩ := g2.len
      have hz := zerosL_length ei.zero len
      rw [(hT el ei h3).len] at hz
      have hs := g2.seg (zerosR hT h3 len) (zerosL_one (hT el ei h3).one len) (k := off) (by omega) (by omega)
      simp only [opS, ho, hc, ha, ht, h1, h2, h3, hy, g1]
      rw [ho']
      exact ⟨by omega, hq.here (BLe.refl B) (.inl (.tup [] [] rfl (by simp))) (r.turn hg hm hs)⟩
  · cases h
  · cases h1
theorem slenR {n : Nat} (h : TvE m B x y) (hs : slen x = some n) : y.glob = true ∧ ∀ K v, R K y v → ∃ A c, v = .slice A n c := by
  rcases h with h | h | ⟨d', ver, off', h1, h2, h3, h4⟩
  · refine ⟨h.glob, fun K v hr => ?_⟩
    cases h with
    | any => simp [slen] at hs
    | base _ hb =>
      cases x <;> simp [slen] at hs <;> first | (simp [Xv.base] at hb; done) | skip
      · subst hs; cases hr; exact ⟨_, _, rfl⟩
      · subst hs; cases hr; exact ⟨_, _, rfl⟩
    | sl => simp [slen] at hs; subst hs; cases hr; exact ⟨_, _, rfl⟩
    | isl f e xs ys hl =>
      simp [slen] at hs; subst hs
      cases hr with
      | isln => simp at hl; rw [hl]; exact ⟨_, _, rfl⟩
      | isle => simp at hl; rw [hl]; exact ⟨_, _, rfl⟩
      | isl => rw [← hl]; exact ⟨_, _, rfl⟩
    | _ => simp [slen] at hs
  · subst h; simp [slen] at hs
  · subst h1; simp [slen] at hs
theorem cutR (k : Nat) (h : TvE m B x y) : TvE m B (cutL k x) (cutL k y) := by
  rcases h with h | h | h
  · left
    cases h with
    | any y h => simp only [cutL]; split <;> exact .any _ (by first | rfl | exact h)
    | base x h => cases x <;> first | exact .base _ h | simp [Xv.base] at h
    | sl v o l k o' c i h hl hk => exact .sl _ _ _ _ _ _ i h (by omega) hk
    | isl f e xs ys hl he h => exact .isl f e xs ys hl he h
    | iptr cs ds hl h => exact .iptr cs ds hl h
    | ptr v o i h => exact .ptr v o i h
    | mp v i h => exact .mp v i h
    | yld v i h => exact .yld v i h
    | fn f a b a' b' hl hm h h' => exact .fn f a b a' b' hl hm h h'
    | ifc t x y h => exact .ifc t x y h
    | agg cs ds hl h => exact .agg cs ds hl h
    | tup cs ds hl h => exact .tup cs ds hl h
  · subst h; exact .inr (.inl rfl)
  · obtain ⟨d, ver, off, rfl, rfl, h3, h4⟩ := h; exact .inr (.inr ⟨d, ver, off, rfl, rfl, h3, h4⟩)
theorem copyR (hT : TOK P T) (r : Rel bs m s B H) (he : EnvR m B e E) {t tx : TypeId} {p q : Operand} {ei : TI} (hk : kElem T t = some ei) {c : Call} (ho : o.op = .call c) (hc : c.callee = .builtin .copy) (ha : c.args.toList = [p, q]) (ht : c.argTypes.toList = [t, tx])
    (hx : xcopy s dr ei (xev e p) (xev e q) = some (v, s')) (hq : Got bs m B v s' Q) : Fn P T dr o E B H Q := by
  obtain ⟨ti, el, h1, h2, h3⟩ := kElem_ok hk
  unfold xcopy at hx
  split at hx <;> try cases hx
  rename_i l n hl hn
  obtain ⟨gp, sp⟩ := slenR (evR r he p) hl
  obtain ⟨gq, sq⟩ := slenR (evR r he q) hn
  split at hx
  · rename_i h0
    cases hx
    obtain ⟨h0, rfl⟩ := h0
    have hco : o.op = .call ⟨.builtin .copy, #[p, q], #[t, tx]⟩ := by
      rw [ho]; obtain ⟨cal, ar, at_⟩ := c; simp only at hc ha ht; subst hc; rw [arr2 ha, arr2 ht]
    exact step_copy0 hT hco h1 h2 h3 sp sq h0 gp gq (hq.here (BLe.refl B) (.inl (.base _ rfl)) r)
  · refine Fn.op hT (by simp [oneS, ho, hc]) ?_
    split at hx <;> try cases hx
    rename_i w off len k hp
    split at hx <;> try cases hx
    rename_i cs kn es n2 ns hg hsrc
    split at hx <;> cases hx
    rename_i hh
    have h := evR r he p
    rw [hp] at h
    obtain ⟨ns', g3, g4, g5⟩ := srcR r (cutR len (evR r he q)) hsrc
    rcases h with h | h | ⟨d', ver, off', h1, h2, h3, h4⟩
    · generalize hy : ev E p = y at h
      cases h with
      | base _ hb => simp [Xv.base] at hb
      | sl _ _ _ _ o' c' i hm hlc hk' =>
        have ho' : o' = i.δ + off := by omega
        obtain ⟨ds, n3, g1, g2⟩ := r.cells hm hg
        obtain ⟨l1, l2⟩ := g2.len
        have hle : (ns.take (min n2 len * ei.size)).length ≤ min n2 len * ei.size := by simp; omega
        have hs := g2.seg (g4.take (min n2 len * ei.size)) (fun x hx => g5 x (List.mem_of_mem_take hx)) (k := off) (by omega) (by omega)
        have hstr : ∀ b, ev E q ≠ .str b := fun b hb => by
          obtain ⟨A, c0, h⟩ := sq (fun _ _ => none) _ (by rw [hb]; exact .str b)
          cases h
        simp only [opS, ho, hc, ha, ht, h1, h2, h3, hy, g1, g3]
        rw [ho']
        refine ⟨by revert hstr; cases ev E q <;> intro hstr <;> first | trivial | exact hstr _ rfl, ⟨List.all_eq_true.2 (g4.all_one g5), by omega, by omega⟩, hq.here (BLe.refl B) (.inl (.base _ rfl)) (r.turn hg hm hs)⟩
    · cases h
    · cases h1
end
end Go.Xv
/- Xe, part J: append. Over any program; no condition. -/
namespace Go.Xv
open Go Go.Lv
set_option linter.unusedVariables false
set_option linter.unusedSimpArgs false
set_option maxRecDepth 4000
section
variable {bs : LP} {m : VM} {s s' : XS} {B : Box} {H : OHeap} {e : ET} {E : Env} {T : Tab} {x y v : LV} {cs ds : List LV} {P : Program} {o : Oper} {Q : LV → Box → OHeap → Prop} {dr : Bool}
theorem srcLen {size n : Nat} (hx : xsrc s size x = some (n, cs)) : cs.length = n * size := by
  unfold xsrc at hx
  split at hx <;> try cases hx
  · simp
  · simp
  · split at hx <;> cases hx
    rename_i h; exact h.2.2
  · split at hx
    · cases hx; simp
    · split at hx <;> try cases hx
      split at hx <;> cases hx
      rename_i h; simp; omega
  · split at hx <;> cases hx
    rename_i h; subst h; simp
theorem srcKR {size n : Nat} {k : TK} (h : TvE m B x y) (hx : xsrc s size x = some (n, cs)) (hk : srcK k x = true) : srcKind k y ∧ ∀ k' z, y ≠ .int k' z := by
  rcases h with h | h | ⟨d', ver, off', h1, h2, h3, h4⟩
  · cases h with
    | isl => refine ⟨?_, by simp⟩; cases k <;> simp [srcK] at hk; exact ⟨_, rfl⟩
    | sl => refine ⟨?_, by simp⟩; cases k <;> simp [srcK] at hk; exact ⟨_, rfl⟩
    | base x hb =>
      cases x <;> simp [xsrc] at hx <;> first | (simp [Xv.base] at hb; done) | skip
      · exact ⟨by simpa [srcK, srcKind] using hk, by simp⟩
      · refine ⟨?_, by simp⟩; cases k <;> simp [srcK] at hk; exact ⟨_, rfl⟩
      · refine ⟨?_, by simp⟩; cases k <;> simp [srcK] at hk; exact ⟨_, rfl⟩
    | _ => simp [xsrc] at hx
  · subst h; simp [xsrc] at hx
  · subst h1; simp [xsrc] at hx
/-- append, of what is no row of zeros. -/
def apS (H : OHeap) (size bytes n : Nat) (ns : List LV) (s : LV) (Q : LV → OHeap → Prop) : Prop := match s with
    | .nilsl => (n = 0 → Q .nilsl H) ∧ (0 < n → room n bytes ∧ Fresh H n fun b c => Q (.sl b 0 n c) (setH H b (.cells ns (c * size))))
    | .wsl => (n = 0 → Q .wsl H) ∧ (0 < n → room n bytes ∧ Fresh H n fun b c => Q (.sl b 0 n c) (setH H b (.cells ns (c * size))))
    | .isl true e xs => e = size ∧ xs.flatten.all LV.one = true ∧ (n = 0 → Q s H) ∧
        (0 < n → room (xs.length + n) bytes ∧ Fresh H (xs.length + n) fun b c => Q (.sl b 0 (xs.length + n) c) (setH H b (.cells (xs.flatten ++ ns) (c * size))))
    | .sl b off len cap => match H b with
      | some (.cells cs m) => (off + len * size ≤ cs.length ∧ off + cap * size ≤ m ∧ ((cs.drop off).take (len * size)).all LV.one = true) ∧
          (len + n ≤ cap → Q (.sl b off (len + n) cap) (setH H b (.cells (seg cs (off + len * size) ns) m))) ∧
          (cap < len + n → room (len + n) bytes ∧ Fresh H (len + n) fun b' c => Q (.sl b' 0 (len + n) c) (setH (delH H b) b' (.cells ((cs.drop off).take (len * size) ++ ns) (c * size))))
      | _ => False
    | _ => False
theorem appL_src {size bytes n : Nat} {a : LV} {ns : List LV} {Q : LV → OHeap → Prop} (hi : ∀ k z, y ≠ .int k z) (hs : srcL H size y = some (n, ns)) (h1 : ns.all LV.one = true) (h : apS H size bytes n ns a Q) : appL H size bytes a y Q := by
  unfold appL
  split
  · exact absurd rfl (hi _ _)
  · rw [hs]; exact ⟨h1, h⟩
theorem roomB_ok {n b : Nat} (h : roomB n b = true) : room n b := by
  simp only [roomB, Bool.and_eq_true, decide_eq_true_eq] at h; exact h
theorem Rel.ext {s' : XS} (r : Rel bs m s B H) (h : ∀ v, s'.t.get v = s.t.get v) (h1 : s'.nx = s.nx) (h2 : s'.br = s.br) (h3 : s'.bx = s.bx) : Rel bs m s' B H :=
  ⟨fun v o hv => r.obj v o (by rw [← h]; exact hv), fun v hv => r.lt v (by rw [← h1]; exact hv), fun u v i j hu hv => r.inj u v i j (by rw [← h]; exact hu) (by rw [← h]; exact hv),
    fun v o od hv => by rw [h, h2]; exact r.loop v o od hv, fun d hd => r.box0 d (by rw [← h3]; exact hd), fun d cs hd => r.box1 d cs (by rw [← h3]; exact hd), r.glob⟩
theorem Rel.still (r : Rel bs m s B H) {w : Nat} {i : MI} {ob : XO} {lo : LO} (hm : m w = some i) (hg : s.t.get w = some ob) (hx : XOR m i ob lo) : Rel bs m s B (setH H i.b lo) :=
  (r.turn hg hm hx).ext (fun v => by rw [upd_get]; split <;> first | (rename_i e; subst e; exact hg) | rfl) rfl rfl rfl
theorem seg_nil {k : Nat} : seg cs k [] = cs := by simp [seg]
theorem capOk_le {off c size kn es n : Nat} {i : MI} (h : capOk off c size cs kn = true) (hx : XOR m i (.cells cs kn es) (.cells ds n)) : i.δ + off + c * size ≤ n := by
  have h1 := hx.len
  obtain ⟨_, _, _, h4, _⟩ := hx
  simp only [capOk, Bool.or_eq_true, Bool.and_eq_true, Nat.ble_eq, Nat.blt_eq] at h
  rcases h with h | h
  · omega
  · have := h4 (by omega); omega
theorem win_one {i : MI} {kn es n off l : Nat} (hx : XOR m i (.cells cs kn es) (.cells ds n)) (hle : off + l ≤ cs.length) : Tvs m ((cs.drop off).take l) ((ds.drop (i.δ + off)).take l) ∧ (∀ x ∈ (cs.drop off).take l, x.one = true) ∧ i.δ + off + l ≤ ds.length := by
  have h1 := hx.len
  obtain ⟨_, _, h3, _, _, pre, cs', post, e1, e2, e3⟩ := hx
  refine ⟨?_, fun x hx => h3 x (List.mem_of_mem_drop (List.mem_of_mem_take hx)), by omega⟩
  rw [e1, ← e2, win_take (by rw [e3.1]; exact hle)]
  exact (e3.drop off).take l
/-- The row of an append that has found room, under its new number. -/
theorem XOR.tail {i : MI} {kn es n off l : Nat} {ns ns' : List LV} {m' : VM} (hle' : Mle m m') (h : XOR m i (.cells cs kn es) (.cells ds n)) (hn : Tvs m ns ns') (ho : ∀ x ∈ ns, x.one = true) (hle : off + l ≤ cs.length) (hN : i.δ + off + l + ns.length ≤ n) :
    XOR m' ⟨i.b, i.δ + off, i.n, i.es⟩ (.cells ((cs.drop off).take l ++ ns) 0 es) (.cells (Lv.seg ds (i.δ + off + l) ns') n) := by
  have hw := (win_one h hle).2.1
  obtain ⟨h1, h2, h3, h4, h5, pre, cs', post, e1, e2, e3⟩ := h
  have hcl := e3.1
  have hk : off + l ≤ cs'.length := by omega
  refine ⟨h1, h2, fun x hx => ?_, fun h => absurd rfl h, ?_, pre ++ cs'.take off, (cs'.drop off).take l ++ ns', cs'.drop (off + l + ns'.length) ++ post.drop (off + l + ns'.length - cs'.length), ?_, ?_, ?_⟩
  · rcases List.mem_append.1 hx with hx | hx
    · exact hw x hx
    · exact ho x hx
  · have := hn.1; unfold Lv.seg; simp; omega
  · rw [e1, ← e2, Nat.add_assoc, seg_win hk]
    unfold Lv.seg
    rw [List.take_add]
    simp only [List.append_assoc]
  · simp; omega
  · exact ((((e3.drop off).take l).append hn)).mono hle'
theorem grow_sl {b n c L : Nat} {es : Nat} (hn : n ≤ c) (hL : L ≤ n) (he : 0 < es) : Tv (setM m s.nx ⟨b, 0, c * es, es⟩) (.sl s.nx 0 n (2 * L)) (.sl b 0 n c) := by
  have := Tv.sl s.nx 0 n (2 * L) 0 c ⟨b, 0, c * es, es⟩ (setM_here (m := m) _ _) hn (.inr ⟨by omega, by omega, by simp, by simp, he, .inl rfl⟩)
  exact this
theorem appendR (hT : TOK P T) (r : Rel bs m s B H) (he : EnvR m B e E) {t tx : TypeId} {p q : Operand} {ei tix : TI} (hk : kElem T t = some ei) (htx : T tx = some tix) {c : Call} (ho : o.op = .call c) (hc : c.callee = .builtin .append) (ha : c.args.toList = [p, q]) (ht : c.argTypes.toList = [t, tx])
    (hsk : srcK tix.kind (xev e q) = true) (hx : xapp s dr ei (xev e p) (xev e q) = some (v, s')) (hq : Got bs m B v s' Q) : Fn P T dr o E B H Q := by
  obtain ⟨ti, el, h1, h2, h3⟩ := kElem_ok hk
  unfold xapp at hx
  split at hx <;> try cases hx
  rename_i n ns hsrc
  obtain ⟨ns', g1, g2, g3⟩ := srcR r (evR r he q) hsrc
  obtain ⟨hsk', hni⟩ := srcKR (evR r he q) hsrc hsk
  have hnl := srcLen hsrc
  have hall := List.all_eq_true.2 (g2.all_one g3)
  -- by the condition
  have go : apS H ei.size ei.bytes n ns' (ev E p) (fun r H' => Q r B H') → Fn P T dr o E B H Q := fun h => by
    refine Fn.op hT (by simp [oneS, ho, hc]) ?_
    simp only [opS, ho, hc, ha, ht, h1, htx, h2, h3]
    exact ⟨hsk', appL_src hni g1 hall h⟩
  -- a row that is laid anew
  have grow : ∀ {s1 : XS} {H1 : OHeap} {cs ds : List LV} {N b c : Nat}, Rel bs m s1 B H1 → H1 b = none → N ≤ c → 0 < ei.size → Tvs m cs ds → (∀ x ∈ cs, x.one = true) → cs.length = N * ei.size →
      v = .sl s1.nx 0 N (2 * N) → s' = s1.new (.cells cs 0 ei.size) → Q (.sl b 0 N c) B (setH H1 b (.cells ds (c * ei.size))) := fun {s1 H1 cs ds N b c} r1 hb hNc he ht1 ho1 hl1 hv hs => by
    subst hv; subst hs
    exact hq _ _ _ _ (r1.mle ⟨b, 0, c * ei.size, ei.size⟩) (BLe.refl B) (.inl (grow_sl hNc (Nat.le_refl _) he)) (new_cells r1 hb ht1 ho1 (by rw [hl1]; exact Nat.mul_le_mul_right _ hNc) (by omega))
  have hp := evR r he p
  generalize hpx : xev e p = a at hx hp
  split at hx
  · -- nothing is appended
    rename_i hn0
    subst hn0
    split at hx <;> try cases hx
    · have := hp.base_inv rfl
      refine go ?_
      rw [this]
      exact ⟨fun _ => hq.here (BLe.refl B) (.inl (.base _ rfl)) r, fun h => by omega⟩
    · rename_i w off len k
      split at hx <;> try cases hx
      rename_i cs kn es hg
      split at hx <;> try cases hx
      rename_i hh
      rcases hp with h | h | ⟨d', ver, off', h1, h2, h3, h4⟩
      · generalize hy : ev E p = y at h
        have h0 := h
        cases h with
        | base _ hb => simp [Xv.base] at hb
        | sl _ _ _ _ o' cap i hm hlc hk' =>
          obtain ⟨ds, N, k1, k2⟩ := r.cells hm hg
          have hie : i.es = es := k2.2.1
          have hN : N = i.n := k2.1
          obtain ⟨l1, l2⟩ := k2.len
          obtain ⟨w1, w2, w3⟩ := win_one k2 hh.1
          have fin : o' = i.δ + off → o' + cap * ei.size ≤ N → v = .sl w off len k → s' = s → Fn P T dr o E B H Q := fun ho' hcap hv hs => by
            subst hv; subst hs
            refine go ?_
            have hn0 : ns' = [] := List.eq_nil_of_length_eq_zero (by rw [g2.1, hnl]; simp)
            rw [hy]
            simp only [apS, k1]
            refine ⟨⟨by omega, hcap, ?_⟩, fun _ => ?_, fun h => by omega⟩
            · rw [ho']; exact List.all_eq_true.2 (w1.all_one w2)
            · rw [hn0, seg_nil]
              exact hq.here (BLe.refl B) (.inl h0) (r.still hm hg k2)
          split at hx
          · split at hx <;> cases hx
            rename_i hL
            have hes : cap * ei.size = cap * i.es := by rw [← hh.2, hie]
            exact fin (by omega) (by omega) rfl rfl
          · rename_i hk2
            split at hx <;> cases hx
            rename_i hL
            rcases hk' with ⟨_, rfl, ho'⟩ | hk'
            · exact fin ho' (by rw [ho']; exact capOk_le hL.2 k2) rfl rfl
            · exact absurd hk'.1 hk2
      · cases h
      · cases h1
  · -- something is
    rename_i hn0
    have hpos : 0 < n := Nat.pos_of_ne_zero hn0
    split at hx <;> try cases hx
    · have := hp.base_inv rfl
      split at hx <;> cases hx
      rename_i hr
      simp only [Bool.and_eq_true, Nat.blt_eq] at hr
      refine go ?_
      rw [this]
      exact ⟨fun h => absurd h hn0, fun _ => ⟨roomB_ok hr.1, fun b c hb hc => grow r hb hc hr.2 g2 g3 hnl rfl rfl⟩⟩
    · rename_i es xs
      split at hx <;> cases hx
      rename_i hr
      rcases hp with h | h | ⟨d', ver, off', h1, h2, h3, h4⟩
      · generalize hy : ev E p = y at h
        cases h with
        | base _ hb => simp [Xv.base] at hb
        | isl _ _ _ ys hl hel hh =>
          obtain ⟨hr1, hr2, hr3, hr4, hr5⟩ := hr
          have hf := flattenR hl hel hh
          refine go ?_
          rw [hy]
          refine ⟨hr1, List.all_eq_true.2 (hf.all_one (chk_one hr3)), fun h => absurd h hn0, fun _ => ?_⟩
          rw [hl]
          refine ⟨roomB_ok hr2, fun b c hb hc => grow r hb hc (by omega) (hf.append g2) (fun x hx => ?_) (by rw [List.length_append, hr5, hnl, hr1, Nat.add_mul]) rfl rfl⟩
          rcases List.mem_append.1 hx with hx | hx
          · exact chk_one hr3 x hx
          · exact g3 x hx
      · cases h
      · cases h1
    · rename_i w off len k
      split at hx <;> try cases hx
      rename_i cs kn es hg
      split at hx <;> try cases hx
      rename_i hle
      rcases hp with h | h | ⟨d', ver, off', h1, h2, h3, h4⟩
      · generalize hy : ev E p = y at h
        cases h with
        | base _ hb => simp [Xv.base] at hb
        | sl _ _ _ _ o' cap i hm hlc hk' =>
          obtain ⟨ds, N, k1, k2⟩ := r.cells hm hg
          have hie : i.es = es := k2.2.1
          have hN : N = i.n := k2.1
          obtain ⟨l1, l2⟩ := k2.len
          obtain ⟨w1, w2, w3⟩ := win_one k2 hle
          have hwl : ((cs.drop off).take (len * ei.size) ++ ns).length = (len + n) * ei.size := by simp [hnl, Nat.add_mul]; omega
          have hwo : ∀ x ∈ (cs.drop off).take (len * ei.size) ++ ns, x.one = true := fun x hx => (List.mem_append.1 hx).elim (w2 x) (g3 x)
          have hmul : len * ei.size + n * ei.size = (len + n) * ei.size := (Nat.add_mul ..).symm
          -- the condition, where its first part is given
          have cond : o' = i.δ + off → o' + cap * ei.size ≤ N →
              (len + n ≤ cap → Q (.sl i.b o' (len + n) cap) B (setH H i.b (.cells (Lv.seg ds (o' + len * ei.size) ns') N))) →
              (cap < len + n → room (len + n) ei.bytes ∧ Fresh H (len + n) fun b' c => Q (.sl b' 0 (len + n) c) B (setH (delH H i.b) b' (.cells ((ds.drop o').take (len * ei.size) ++ ns') (c * ei.size)))) → Fn P T dr o E B H Q := fun ho' hcap ha hb => by
            refine go ?_
            rw [hy]
            simp only [apS, k1]
            refine ⟨⟨by omega, hcap, ?_⟩, ha, hb⟩
            rw [ho']; exact List.all_eq_true.2 (w1.all_one w2)
          -- in place
          have place : o' = i.δ + off → o' + cap * ei.size ≤ N → len + n ≤ cap → v = .sl w off (len + n) k → s' = s.upd w (some (.cells (Lv.seg cs (off + len * ei.size) ns) kn es)) → Tv m (.sl w off (len + n) k) (.sl i.b o' (len + n) cap) → Q (.sl i.b o' (len + n) cap) B (setH H i.b (.cells (Lv.seg ds (o' + len * ei.size) ns') N)) := fun ho' hcap hln hv hs htv => by
            subst hv; subst hs
            have hc2 : (len + n) * ei.size ≤ cap * ei.size := Nat.mul_le_mul_right _ hln
            have hsg := k2.seg g2 g3 (k := off + len * ei.size) hle (by omega)
            rw [show i.δ + (off + len * ei.size) = o' + len * ei.size by omega] at hsg
            exact hq.here (BLe.refl B) (.inl htv) (r.turn hg hm hsg)
          -- moved, the old one given up
          have moved : o' = i.δ + off → 0 < ei.size → roomB (len + n) ei.bytes = true → v = .sl s.nx 0 (len + n) (2 * (len + n)) → s' = (s.upd w none).new (.cells ((cs.drop off).take (len * ei.size) ++ ns) 0 ei.size) →
              room (len + n) ei.bytes ∧ Fresh H (len + n) fun b' c => Q (.sl b' 0 (len + n) c) B (setH (delH H i.b) b' (.cells ((ds.drop o').take (len * ei.size) ++ ns') (c * ei.size))) := fun ho' hpe hr hv hs => by
            refine ⟨roomB_ok hr, fun b' c hb hc => ?_⟩
            have hb' : (delH H i.b) b' = none := by simp only [delH_apply]; split <;> first | rfl | exact hb
            have hw := w1.append g2
            rw [← ho'] at hw
            exact grow (r.kill hg hm) hb' hc hpe hw hwo hwl hv hs
          split at hx
          · -- so much room at least
            rename_i hk2
            rcases hk' with ⟨hk', _⟩ | ⟨_, hkc, hcn, hcN, hpe, hoc⟩
            · omega
            · split at hx <;> try cases hx
              rename_i hes
              have hce : cap * i.es = cap * ei.size := by rw [hie, hes]
              split at hx
              · rename_i hL
                cases hx
                have ho' : o' = i.δ + off := by omega
                refine cond ho' (by omega) (fun hln => place ho' (by omega) hln rfl (by rw [hes]) ?_) (fun h => by omega)
                exact .sl _ _ _ _ _ _ i hm hln (.inr ⟨hk2, hkc, hcn, hcN, hpe, hoc⟩)
              · rename_i hL
                split at hx <;> cases hx
                rename_i hr
                simp only [Bool.and_eq_true, Nat.blt_eq] at hr
                have ho' : o' = i.δ + off := by omega
                subst ho'
                subst hes
                refine cond rfl (by omega) (fun hln => ?_) (fun _ => moved rfl (by omega) hr.1.1 rfl rfl)
                -- in place, under a new number
                have hc2 : (len + n) * ei.size ≤ cap * ei.size := Nat.mul_le_mul_right _ hln
                have r1 := r.kill hg hm
                have hb' : (delH H i.b) i.b = none := by simp
                have hx2 := XOR.tail (r1.mle ⟨i.b, i.δ + off, i.n, i.es⟩) k2 g2 g3 hle (by omega)
                have r2 := r1.new (i := ⟨i.b, i.δ + off, i.n, i.es⟩) hb' hx2
                have hH : setH (delH H i.b) i.b (.cells (Lv.seg ds (i.δ + off + len * ei.size) ns') N) = setH H i.b (.cells (Lv.seg ds (i.δ + off + len * ei.size) ns') N) := by
                  funext z; simp only [setH_apply, delH_apply]; split <;> rfl
                rw [hH] at r2
                refine hq _ _ _ _ (r1.mle ⟨i.b, i.δ + off, i.n, i.es⟩) (BLe.refl B) (.inl ?_) r2
                have tt := Tv.sl s.nx 0 (len + n) (2 * (len + n)) (i.δ + off) cap ⟨i.b, i.δ + off, i.n, i.es⟩ (setM_here (m := m) _ _) hln (.inr ⟨by omega, by omega, hcn, hcN, hpe, .inl rfl⟩)
                exact tt
          · rename_i hk2
            have hk2 : ¬ k % 2 = 0 := hk2
            have hk3 : k % 2 = 1 := by omega
            rcases hk' with ⟨_, hcap, ho'⟩ | ⟨hk', _⟩
            · subst hcap
              split at hx
              · rename_i hlt
                split at hx <;> try cases hx
                rename_i hr
                simp only [Bool.and_eq_true, Nat.blt_eq] at hr
                split at hx
                · -- the old one stays
                  cases hx
                  have hco : o.op = .call ⟨.builtin .append, #[p, q], #[t, tx]⟩ := by
                    rw [ho]; obtain ⟨cal, ar, at_⟩ := c; simp only at hc ha ht; subst hc; rw [arr2 ha, arr2 ht]
                  refine step_appendKeep hT hco h1 h2 h3 htx hsk' g1 hall hy k1 (by omega) ?_ hlt (roomB_ok hr.1) fun b' c hb hc => ?_
                  · rw [ho']; exact List.all_eq_true.2 (w1.all_one w2)
                  · have hw := w1.append g2
                    rw [← ho'] at hw
                    exact grow r hb hc hr.2 hw hwo hwl rfl rfl
                · split at hx <;> cases hx
                  rename_i hcp
                  exact cond ho' (by rw [ho']; exact capOk_le hcp k2) (fun h => by omega) (fun _ => moved ho' hr.2 hr.1 rfl rfl)
              · rename_i hlt
                split at hx <;> cases hx
                rename_i hcp
                have hcl := capOk_le hcp k2
                refine cond ho' (by omega) (fun hln => place ho' (by omega) hln rfl ?_ ?_) (fun h => by omega)
                · rfl
                · exact .sl _ _ _ _ _ _ i hm hln (.inl ⟨hk3, rfl, ho'⟩)
            · omega
      · cases h
      · cases h1
end
end Go.Xv
/- Xe, part K: maps; all operations in one. Over any program; no condition. -/
namespace Go.Xv
open Go Go.Lv
set_option linter.unusedVariables false
set_option linter.unusedSimpArgs false
set_option maxRecDepth 4000
section
variable {bs : LP} {m : VM} {s s' : XS} {B : Box} {H : OHeap} {e : ET} {E : Env} {T : Tab} {x y v k k' : LV} {es es' : List (LV × LV × Nat)} {P : Program} {o : Oper} {Q : LV → Box → OHeap → Prop} {dr : Bool}
theorem keq_base {q : TK} {b : Bool} (h : keq q x y = some b) : base x = true ∧ base y = true := by
  unfold keq at h; split at h <;> first | exact ⟨rfl, rfl⟩ | cases h
theorem Tm.nil_inv (h : Tm m [] es') : es' = [] := List.eq_nil_of_length_eq_zero (by simpa using h.1)
theorem Tm.cons_inv {a : LV × LV × Nat} (h : Tm m (a :: es) es') : ∃ b r, es' = b :: r ∧ Tv m a.1 b.1 ∧ Tv m a.2.1 b.2.1 ∧ b.2.2 = a.2.2 ∧ Tm m es r := by
  cases es' with
  | nil => have := h.1; simp at this
  | cons b r => exact ⟨b, r, rfl, (h.2 0 a b rfl rfl).1, (h.2 0 a b rfl rfl).2.1, (h.2 0 a b rfl rfl).2.2, by have := h.1; simpa using this, fun i x y hx hy => h.2 (i + 1) x y (by simpa using hx) (by simpa using hy)⟩
theorem findR {q : TK} (hk : Tv m k k') : ∀ {es es' : List (LV × LV × Nat)} {i : Nat} {r : Option (Nat × LV)}, Tm m es es' → findL q k es i = some r → ∃ r', findL q k' es' i = some r' ∧ (match r, r' with | none, none => True | some a, some b => b.1 = a.1 ∧ Tv m a.2 b.2 | _, _ => False)
  | [], es', i, r, h, hf => by
    rw [h.nil_inv]
    simp only [findL, Option.some.injEq] at hf; subst hf
    exact ⟨none, rfl, trivial⟩
  | a :: es, es', i, r, h, hf => by
    obtain ⟨b, r', rfl, h1, h2, h3, h4⟩ := h.cons_inv
    unfold findL at hf ⊢
    split at hf
    · rename_i hq
      cases hf
      rw [h1.base_inv (keq_base hq).2, hk.base_inv (keq_base hq).1, hq]
      exact ⟨_, rfl, rfl, h2⟩
    · rename_i hq
      rw [h1.base_inv (keq_base hq).2, hk.base_inv (keq_base hq).1, hq]
      rw [← hk.base_inv (keq_base hq).1]
      exact findR hk h4 hf
    · cases hf
theorem mapKV_ok {t : TypeId} {ki ei : TI} (h : mapKV T t = some (ki, ei)) : ∃ ti kt et, T t = some ti ∧ ti.kind = .map kt et ∧ T kt = some ki ∧ T et = some ei := by
  unfold mapKV at h
  split at h <;> try cases h
  rename_i ti hti
  split at h <;> try cases h
  rename_i kt et hk
  split at h <;> cases h
  rename_i h1 h2
  exact ⟨ti, kt, et, hti, hk, h1, h2⟩
theorem zoR (hT : TOK P T) {t : TypeId} {ei : TI} (h : T t = some ei) {z : LV} (hz : zeroOne ei = some z) : Tv m z z := by
  have hr := zeroR (m := m) hT h
  unfold zeroOne at hz
  split at hz
  · cases hz; exact .agg _ _ rfl hr.2
  · split at hz <;> cases hz
    rename_i h1
    rw [h1] at hr
    exact hr.head
theorem okR {ok b : Bool} (h : Tv m x y) : Tv m (okL ok x b) (okL ok y b) := by
  unfold okL
  split
  · have := Tvs.cons h (Tvs.cons (Tv.base (m := m) (.bool b) rfl) (Tvs.nil m)); exact .tup _ _ this.1 this.2
  · exact h
/-- The map of a number. -/
theorem Rel.maps (r : Rel bs m s B H) {w c : Nat} {p : LV} (hp : TvE m B (.mp w) p) (hg : s.t.get w = some (.map es c)) : ∃ i es', m w = some i ∧ p = .mp i.b ∧ H i.b = some (.map es' c) ∧ Tm m es es' := by
  rcases hp with h | h | ⟨d', ver, off', h1, h2, h3, h4⟩
  · cases h with
    | base _ hb => simp [Xv.base] at hb
    | mp _ i hm =>
      obtain ⟨j, lo, h1, h2, h3⟩ := r.obj w _ hg
      rw [hm] at h1; cases h1
      cases lo with
      | map es' c' => obtain ⟨rfl, h4⟩ := h3; exact ⟨i, es', hm, rfl, h2, h4⟩
      | _ => exact h3.elim
  · cases h
  · cases h1
theorem lookR (hT : TOK P T) (r : Rel bs m s B H) (he : EnvR m B e E) {t : TypeId} {p q : Operand} {ok : Bool} (ho : o.op = .lookup t p q ok) (hx : xlook T s t (xev e p) (xev e q) ok = some v) (hq : Got bs m B v s Q) : Fn P T dr o E B H Q := by
  refine Fn.mp hT (by simp [oneS, ho]) ?_
  unfold xlook at hx
  split at hx <;> try cases hx
  rename_i ki ei es hkv hes
  obtain ⟨ti, kt, et, h1, h2, h3, h4⟩ := mapKV_ok hkv
  split at hx <;> try cases hx
  rename_i hh
  have hk := (evR r he q).hand hh.2
  have hm : ∃ es', Tm m es es' ∧ ((ev E p = .nilm ∧ es' = []) ∨ ∃ b c, ev E p = .mp b ∧ H b = some (.map es' c)) := by
    have hp := evR r he p
    split at hes
    · rename_i h0
      rw [h0] at hp
      have := hp.base_inv rfl
      cases hes
      exact ⟨[], ⟨rfl, by simp⟩, .inl ⟨this, rfl⟩⟩
    · rename_i w h0
      rw [h0] at hp
      split at hes <;> cases hes
      rename_i c hg
      obtain ⟨i, es', g1, g2, g3, g4⟩ := r.maps hp hg
      exact ⟨es', g4, .inr ⟨_, _, g2, g3⟩⟩
    · cases hes
  obtain ⟨es', g2, g1⟩ := hm
  have key : (match findL ki.kind (ev E q) es' 0 with | some none => (match zeroOne ei with | some z => Q (okL ok z false) B H | none => False) | some (some (_, v)) => Q (okL ok v true) B H | none => False) → mapS T o E H fun x H' => Q x B H' := fun h => by
    simp only [mapS, ho, h1, h2, h3, h4]
    rcases g1 with ⟨g1, rfl⟩ | ⟨b, c, g1, g3⟩
    · rw [g1]; exact ⟨⟨hh.1, hk.glob⟩, h⟩
    · rw [g1]; simp only [g3]; exact ⟨⟨hh.1, hk.glob⟩, h⟩
  refine key ?_
  split at hx <;> try cases hx
  · rename_i j w hf
    obtain ⟨r', f1, f2⟩ := findR hk g2 hf
    rw [f1]
    cases r' with
    | none => exact f2.elim
    | some b => exact hq.here (BLe.refl B) (.inl (okR f2.2)) r
  · rename_i hf
    obtain ⟨r', f1, f2⟩ := findR hk g2 hf
    rw [f1]
    obtain ⟨z, hz, rfl⟩ := Option.map_eq_some_iff.1 hx
    cases r' with
    | some b => exact f2.elim
    | none =>
      simp only [hz]
      exact hq.here (BLe.refl B) (.inl (okR (zoR hT h4 hz))) r
theorem Tm.add (h : Tm m es es') (hk : Tv m k k') (hv : Tv m x y) (c : Nat) : Tm m (es ++ [(k, x, c)]) (es' ++ [(k', y, c)]) := by
  refine ⟨by simp [h.1], fun i a b ha hb => ?_⟩
  by_cases hi : i < es.length
  · rw [List.getElem?_append_left hi] at ha
    rw [List.getElem?_append_left (by rw [h.1]; exact hi)] at hb
    exact h.2 i a b ha hb
  · rw [List.getElem?_append_right (by omega)] at ha
    rw [List.getElem?_append_right (by rw [h.1]; omega), h.1] at hb
    cases hj : i - es.length with
    | zero => rw [hj] at ha hb; simp at ha hb; subst ha; subst hb; exact ⟨hk, hv, rfl⟩
    | succ j => rw [hj] at ha; simp at ha
theorem Tm.mod (h : Tm m es es') (hv : Tv m x y) (i : Nat) : Tm m (es.modify i fun z => (z.1, x, z.2.2)) (es'.modify i fun z => (z.1, y, z.2.2)) := by
  refine ⟨by simp [h.1], fun j a b ha hb => ?_⟩
  rw [List.getElem?_modify] at ha hb
  obtain ⟨a', h1, rfl⟩ := Option.map_eq_some_iff.1 ha
  obtain ⟨b', h2, rfl⟩ := Option.map_eq_some_iff.1 hb
  have := h.2 j a' b' h1 h2
  split
  · exact ⟨this.1, hv, this.2.2⟩
  · exact this
theorem Tm.del (h : Tm m es es') (i : Nat) : Tm m (es.eraseIdx i) (es'.eraseIdx i) := by
  refine ⟨by simp [List.length_eraseIdx, h.1], fun j a b ha hb => ?_⟩
  rw [List.getElem?_eraseIdx] at ha hb
  split at ha
  · rename_i hj; rw [if_pos hj] at hb; exact h.2 _ a b ha hb
  · rename_i hj; rw [if_neg hj] at hb; exact h.2 _ a b ha hb
theorem muR (hT : TOK P T) (r : Rel bs m s B H) (he : EnvR m B e E) {t : TypeId} {p q z : Operand} (ho : o.op = .mapUpdate t p q z) (hx : xmu T s t (xev e p) (xev e q) (xev e z) = some (v, s')) (hq : Got bs m B v s' Q) : Fn P T dr o E B H Q := by
  refine Fn.mp hT (by simp [oneS, ho]) ?_
  unfold xmu at hx
  split at hx <;> try cases hx
  rename_i ki ei w hkv hp
  obtain ⟨ti, kt, et, h1, h2, h3, h4⟩ := mapKV_ok hkv
  split at hx <;> try cases hx
  rename_i es c hg
  split at hx <;> try cases hx
  rename_i hh
  have hp' := evR r he p
  rw [hp] at hp'
  obtain ⟨i, es', g1, g2, g3, g4⟩ := r.maps hp' hg
  have hk := (evR r he q).hand hh.2.1
  have hv := (evR r he z).hand hh.2.2
  simp only [mapS, ho, h1, h2, h3, g2, g3]
  refine ⟨⟨hh.1, hk.glob, hv.glob⟩, ?_⟩
  split at hx <;> cases hx
  · rename_i j u hf
    obtain ⟨r', f1, f2⟩ := findR hk g4 hf
    rw [f1]
    cases r' with
    | none => exact f2.elim
    | some b =>
      obtain ⟨b1, b2⟩ := b
      simp only [] at f2 ⊢
      rw [f2.1]
      exact hq.here (BLe.refl B) (.inr (.inl rfl)) (r.turn hg g1 ⟨rfl, g4.mod hv j⟩)
  · rename_i hf
    obtain ⟨r', f1, f2⟩ := findR hk g4 hf
    rw [f1]
    cases r' with
    | some b => exact f2.elim
    | none => exact hq.here (BLe.refl B) (.inr (.inl rfl)) (r.turn hg g1 ⟨rfl, g4.add hk hv c⟩)
theorem meR (hT : TOK P T) (r : Rel bs m s B H) (he : EnvR m B e E) {t : TypeId} {p q : Operand} (ho : o.op = .mapEntry t p q) (hx : xme T s t (xev e p) (xev e q) = some (v, s')) (hq : Got bs m B v s' Q) : Fn P T dr o E B H Q := by
  refine Fn.mp hT (by simp [oneS, ho]) ?_
  unfold xme at hx
  split at hx <;> try cases hx
  rename_i ki ei w hkv hp
  obtain ⟨ti, kt, et, h1, h2, h3, h4⟩ := mapKV_ok hkv
  split at hx <;> try cases hx
  rename_i es c hg
  split at hx <;> try cases hx
  rename_i hh
  have hp' := evR r he p
  rw [hp] at hp'
  obtain ⟨i, es', g1, g2, g3, g4⟩ := r.maps hp' hg
  have hk := (evR r he q).hand hh.2
  simp only [mapS, ho, h1, h2, h3, h4, g2, g3]
  refine ⟨⟨hh.1, hk.glob⟩, ?_⟩
  have pair : ∀ {a b : LV} (n : Nat), Tv m a b → Tv m (.tup [a, .int .i64 n]) (.tup [b, .int .i64 n]) := fun n h => by
    have := Tvs.cons h (Tvs.cons (Tv.base (m := m) (.int .i64 n) rfl) (Tvs.nil m)); exact .tup _ _ this.1 this.2
  split at hx <;> try cases hx
  · rename_i j u hf
    obtain ⟨r', f1, f2⟩ := findR hk g4 hf
    rw [f1]
    split at hx <;> cases hx
    rename_i a hj
    cases r' with
    | none => exact f2.elim
    | some b =>
      obtain ⟨b1, b2⟩ := b
      simp only [] at f2 ⊢
      rw [f2.1]
      have hj' : j < es'.length := by rw [g4.1]; exact (List.getElem?_eq_some_iff.1 hj).1
      have hy := List.getElem?_eq_getElem hj'
      rw [hy]
      simp only []
      rw [(g4.2 j _ _ hj hy).2.2]
      exact hq.here (BLe.refl B) (.inl (pair _ f2.2)) (r.still g1 hg ⟨rfl, g4⟩)
  · rename_i hf
    obtain ⟨r', f1, f2⟩ := findR hk g4 hf
    rw [f1]
    split at hx <;> cases hx
    rename_i z hz
    cases r' with
    | some b => exact f2.elim
    | none =>
      simp only [hz]
      exact hq.here (BLe.refl B) (.inl (pair _ (zoR hT h4 hz))) (r.turn hg g1 ⟨rfl, g4.add hk (zoR hT h4 hz) c⟩)
theorem fiR (h : Tm m es es') (n : Nat) : es'.findIdx? (fun x => decide (x.2.2 = n)) = es.findIdx? (fun x => decide (x.2.2 = n)) := by
  induction es generalizing es' with
  | nil => rw [h.nil_inv]
  | cons a es ih =>
    obtain ⟨b, r', rfl, h1, h2, h3, h4⟩ := h.cons_inv
    simp only [List.findIdx?_cons, h3, ih h4]
theorem esR (hT : TOK P T) (r : Rel bs m s B H) (he : EnvR m B e E) {t : TypeId} {p q z : Operand} (ho : o.op = .entryStore t p q z) (hx : xes s (xev e p) (xev e q) (xev e z) = some (v, s')) (hq : Got bs m B v s' Q) : Fn P T dr o E B H Q := by
  refine Fn.mp hT (by simp [oneS, ho]) ?_
  unfold xes at hx
  split at hx <;> try cases hx
  rename_i w n hp hn
  split at hx <;> try cases hx
  rename_i es c hg
  split at hx <;> try cases hx
  rename_i hh
  split at hx <;> cases hx
  rename_i j hj
  have hp' := evR r he p
  rw [hp] at hp'
  obtain ⟨i, es', g1, g2, g3, g4⟩ := r.maps hp' hg
  have hn' : ev E q = .int .i64 n := by have := evR r he q; rw [hn] at this; exact this.int
  have hv := (evR r he z).hand hh.2
  simp only [mapS, ho, g2, g3, hn']
  refine ⟨⟨hh.1, hv.glob⟩, ?_⟩
  rw [fiR g4, hj]
  exact hq.here (BLe.refl B) (.inr (.inl rfl)) (r.turn hg g1 ⟨rfl, g4.mod hv j⟩)
theorem delR (hT : TOK P T) (r : Rel bs m s B H) (he : EnvR m B e E) {t tx : TypeId} {p q : Operand} {c : Call} (ho : o.op = .call c) (hc : c.callee = .builtin .delete) (ha : c.args.toList = [p, q]) (ht : c.argTypes.toList = [t, tx])
    (hx : xdel T s t (xev e p) (xev e q) = some (v, s')) (hq : Got bs m B v s' Q) : Fn P T dr o E B H Q := by
  refine Fn.mp hT (by simp [oneS, ho, hc]) ?_
  unfold xdel at hx
  split at hx <;> try cases hx
  rename_i ki ei w hkv hp
  obtain ⟨ti, kt, et, h1, h2, h3, h4⟩ := mapKV_ok hkv
  split at hx <;> try cases hx
  rename_i es cl hg
  split at hx <;> try cases hx
  rename_i hh
  have hp' := evR r he p
  rw [hp] at hp'
  obtain ⟨i, es', g1, g2, g3, g4⟩ := r.maps hp' hg
  have hk := (evR r he q).hand hh.2
  simp only [mapS, ho, hc, ha, ht, h1, h2, h3, g2, g3]
  refine ⟨⟨hh.1, hk.glob⟩, ?_⟩
  split at hx <;> cases hx
  · rename_i j u hf
    obtain ⟨r', f1, f2⟩ := findR hk g4 hf
    rw [f1]
    cases r' with
    | none => exact f2.elim
    | some b =>
      obtain ⟨b1, b2⟩ := b
      simp only [] at f2 ⊢
      rw [f2.1]
      exact hq.here (BLe.refl B) (.inl (.tup [] [] rfl (by simp))) (r.turn hg g1 ⟨rfl, g4.del j⟩)
  · rename_i hf
    obtain ⟨r', f1, f2⟩ := findR hk g4 hf
    rw [f1]
    cases r' with
    | some b => exact f2.elim
    | none => exact hq.here (BLe.refl B) (.inl (.tup [] [] rfl (by simp))) (r.still g1 hg ⟨rfl, g4⟩)
theorem mmR (hT : TOK P T) (r : Rel bs m s B H) {t : TypeId} (ho : o.op = .makeMap t none) (hq : Got bs m B (.mp s.nx) (s.new (.map [] 0)) Q) : Fn P T dr o E B H Q := by
  refine Fn.mp hT (by simp [oneS, ho]) ?_
  simp only [mapS, ho]
  intro b hb
  exact hq _ _ _ _ (r.mle ⟨b, 0, 0, 0⟩) (BLe.refl B) (.inl (Tv.mp s.nx ⟨b, 0, 0, 0⟩ (setM_here _ _))) (r.new (i := ⟨b, 0, 0, 0⟩) hb ⟨rfl, rfl, by simp⟩)
/-- ANY OPERATION THAT CALLS NOBODY. -/
theorem opR (hT : TOK P T) (r : Rel bs m s B H) (he : EnvR m B e E) (hx : xop T dr o.op o.dst e s = some (v, s')) (hq : Got bs m B v s' Q) : Fn P T dr o E B H Q := by
  by_cases hp : pureX o = true
  · obtain ⟨rfl, y, h1, h2⟩ := pureR hT r he hp hx
    have hp' : pureOp o = true := by simp only [pureX, Bool.and_eq_true] at hp; exact hp.1
    have : oneS P T o E B H Q := by rw [oneS_pure hp', h1]; exact hq.here (BLe.refl B) h2 r
    cases dr
    · exact (pf_sound hT h1).step (hq.here (BLe.refl B) h2 r)
    · exact this
  · have hx0 := hx
    unfold xop at hx
    cases ho : o.op <;> rw [ho] at hx <;> first | (refine absurd ?_ hp; simp [pureX, pureOp, ho]; done) | skip
    all_goals try simp only [] at hx
    case call c =>
      split at hx <;> try cases hx
      rename_i b hc
      have hx' := hx
      clear hx
      cases b <;> simp only [xbi] at hx' <;> first | (cases hx'; done) | (refine absurd ?_ hp; simp [pureX, pureOp, ho, hc]; done) | skip
      all_goals (split at hx' <;> try cases hx')
      · rename_i a x t tx ha ht
        obtain ⟨p, q, h1, rfl, rfl⟩ := map2 ha
        split at hx' <;> try cases hx'
        rename_i ei tix hk htx
        split at hx' <;> try cases hx'
        rename_i hsk
        exact appendR hT r he hk htx ho hc h1 ht hsk hx' hq
      · rename_i a t ha ht
        obtain ⟨p, h1, rfl⟩ := map1 ha
        split at hx' <;> try cases hx'
        rename_i ei hk
        exact clearR hT r he hk ho hc h1 ht hx' hq
      · rename_i a x t tx ha ht
        obtain ⟨p, q, h1, rfl, rfl⟩ := map2 ha
        split at hx' <;> try cases hx'
        rename_i ei hk
        exact copyR hT r he hk ho hc h1 ht hx' hq
      · rename_i a x t tx ha ht
        obtain ⟨p, q, h1, rfl, rfl⟩ := map2 ha
        exact delR hT r he ho hc h1 ht hx' hq
    case convert a d p =>
      have had : Nat.beq a d = true := by
        cases hb : Nat.beq a d with
        | true => rfl
        | false => exact absurd (by simp [pureX, pureOp, ho, hb]) hp
      rw [had] at hx
      have : a = d := Nat.eq_of_beq_eq_true had
      subst this
      exact markR hT r he ho hx hq
    case sliceToArrayPointer t p => exact s2aR hT r he ho hx hq
    case buildSlice t n ps => exact bsR hT r he ho hx hq
    case alloc t => exact allocR hT r ho hx hq
    case box t p => exact boxR hT r he ho hx hq
    case store t p x => exact storeR hT r he ho hx hq
    case makeSlice t l c => exact msR hT r he ho hx hq
    case makeMap t c =>
      cases c with
      | none => cases hx; exact mmR hT r ho hq
      | some _ => cases hx
    case lookup t p q ok => obtain ⟨rfl, h2⟩ := lft_inv hx; exact lookR hT r he ho h2 hq
    case mapUpdate t p q z => exact muR hT r he ho hx hq
    case mapEntry t p q => exact meR hT r he ho hx hq
    case entryStore t p q z => exact esR hT r he ho hx hq
    all_goals cases hx
end
end Go.Xv
/- Xe, part R: a range over a function, whatever its body does. Over any program; no condition. -/
namespace Go.Lv
open Go
set_option linter.unusedVariables false
set_option linter.unusedSimpArgs false
/-- What a loop's record is: while it runs, and when it has been left. -/
def recL (o : LO) (od : Ex → LO) : Ex → LO
  | .norm => o
  | z => od z
def isN : Ex → Bool
  | .norm => true
  | _ => false
section
variable {P : Program} {ρ : Option Nat} {N : Nat} {e : Env} {B : Box} {H : OHeap} {K : Know} {jj : Nat → Nat} {w : World}
/-- A range over a function, whatever its body does with the memory. -/
theorem WP.rangeFuncX {g : Operand} {ps : Array Tmp} {asg body : Code} {f : FuncId} {lb : List LV} {Q : Post} (hgv : ev e g = .fn f [] lb) (hen : Enters P f) (hB : ∀ d, (B d).2 = none)
    (iter : ∀ (l : Nat) (o : LO) (od : Ex → LO), H l = none →
      (∀ (xs : List LV) (H1 : OHeap) (X : Ex → OHeap → Prop), H1 l = none → xs.length = ps.size → WP P (some l) N asg (AsgQ P (some l) N body fun z _ _ H2 => X z H2) (setps e ps.toList xs) B H1 →
        YieldL P l xs (setH H1 l o) fun r H'' => ∃ z H2, H'' = setH H2 l (recL o od z) ∧ H2 l = none ∧ r = .bool (isN z) ∧ X z H2) →
      CallL P f (.yld l :: lb) (setH H l o) fun _ H' => ∃ z H1, H' = setH H1 l (recL o od z) ∧ H1 l = none ∧ Q z e B H1) : WP P none N (.rangeFunc g ps asg body) Q e B H := by
  intro hd n m K jj w a g0 t d
  simp only [dstOk, Bool.and_eq_true, List.all_eq_true, decide_eq_true_eq] at hd
  obtain ⟨⟨hps, hda⟩, hdb⟩ := hd
  obtain ⟨ws, hev, hws⟩ : ∃ ws : List Value, a.eval g = .func (.func f) #[] ws.toArray ∧ Rs K lb ws := by
    have r := t.ev g
    rw [hgv] at r
    have r' : R K (.fn f [] lb) (a.eval g) := r
    generalize a.eval g = u at r'
    cases r' with
    | fn _ _ _ us ws hl hm h h' =>
      have : us = [] := List.eq_nil_of_length_eq_zero (by simpa using hl)
      subst this
      exact ⟨ws, rfl, hm, h'⟩
  refine wpIn_rangeFunc ?_
  intro fn hfn
  obtain ⟨rec, hrec⟩ : ∃ rec : LoopState → Option Code → Loop, rec = fun st pe => { state := st, pending := pe, fn, tmps := a.tmps, params := ps, assign := asg, body, defers := w.heap.size } := ⟨_, rfl⟩
  obtain ⟨l, hl⟩ : ∃ l, l = w.heap.size + 1 := ⟨_, rfl⟩
  obtain ⟨W1, hW1⟩ : ∃ W1, (w.alloc (.deferred (some []))).alloc (.loop (rec .ready none)) = W1 := ⟨_, rfl⟩
  have hsz1 : W1.heap.size = w.heap.size + 2 := by rw [← hW1]; simp
  have hold1 : ∀ b, b < w.heap.size → W1.heap[b]? = w.heap[b]? := fun b hb => by
    rw [← hW1]; exact (RowKit.Below.heap_alloc _ _ _ (by simp; omega)).trans (RowKit.Below.heap_alloc _ _ _ hb)
  have hL1 : W1.heap[l]? = some (.loop (rec .ready none)) := by
    rw [← hW1, hl]; have := World.alloc_heap_new (w.alloc (.deferred (some []))) (.loop (rec .ready none)); rwa [World.size_alloc] at this
  have hK1 : W1.heap[w.heap.size]? = some (.deferred (some [])) := by
    rw [← hW1]; exact (RowKit.Below.heap_alloc _ _ _ (by simp)).trans (World.alloc_heap_new w _)
  have hHlt : ∀ b, (H b).isSome = true → b < w.heap.size := fun b hb => g0.lt (.inl hb)
  have hHl : H l = none := by
    cases hh : H l with
    | none => rfl
    | some o => have := hHlt l (by simp [hh]); omega
  have hHD : H w.heap.size = none := by
    cases hh : H w.heap.size with
    | none => rfl
    | some o => have := hHlt w.heap.size (by simp [hh]); omega
  have hKhi : ∀ b i, w.heap.size ≤ b → K b i = none := fun b i hb => by
    cases hk : K b i with
    | none => rfl
    | some v => have := g0.klt hk; omega
  have g1 : Good K id nobox H W1 := by rw [← hW1]; exact (g0.nobox.alloc _).alloc _
  have gs : Good K id nobox (setH H l (.blob (.loop (rec .ready none)) K)) W1 :=
    g1.addH (fun h => by have := dom_nobox.1 h; rw [hHl] at this; cases this) (fun i => hKhi l i (by omega)) ⟨hL1, fun _ _ _ h => h⟩
  -- one round
  have hY : ∀ (xs : List LV) (H1 : OHeap) (X : Ex → OHeap → Prop), H1 l = none → xs.length = ps.size → WP P (some l) N asg (AsgQ P (some l) N body fun z _ _ H2 => X z H2) (setps e ps.toList xs) B H1 →
      YieldL P l xs (setH H1 l (.blob (.loop (rec .ready none)) K)) fun r H'' => ∃ z H2, H'' = setH H2 l (recL (.blob (.loop (rec .ready none)) K) (fun z => .blob (.loop (rec .done (some (exCode z)))) K) z) ∧ H2 l = none ∧ r = .bool (isN z) ∧ X z H2 := by
    rintro xs H1 X hl1 hlen hW n2 K2 w2 vs g2 hrs
    obtain ⟨hr2, hKK⟩ : w2.heap[l]? = some (.loop (rec .ready none)) ∧ ∀ b' i v, K b' i = some v → K2 b' i = some v := g2.own l (.blob (.loop (rec .ready none)) K) (by simp)
    have hk2 : ∀ i, K2 l i = none := noK_of_loop g2 hr2
    have hlt2 : l < w2.heap.size := (Array.getElem?_eq_some_iff.1 hr2).1
    have g2' : Good K2 jj B H1 w2 := by
      have := (g2.delH l).1
      rw [delH_setH hl1] at this
      exact this.dead hB
    have hvl : vs.length = ps.size := by rw [hrs.1, hlen]
    have hy := run_yield (P := P) (args := vs.toArray) hr2 (by rw [hrec]; simpa using hvl)
    rw [hrec] at hy
    refine ⟨fn, _, asg, body, hy, roundIn_of_wpIn trivial ?_⟩
    clear hy
    have te : TE K2 jj B N (setps e ps.toList xs) ((ps.zip vs.toArray).foldl (fun t pv => t.setIfInBounds pv.1 pv.2) a.tmps) := by
      have := TE.setps ps.toList xs vs e a.tmps (t.mono hKK) hps hrs (by simpa using hlen)
      rw [← Array.foldl_toList, Array.toList_zip]
      exact this
    refine wpIn_mono (hW hda n2 w2.heap.size K2 jj w2 { tmps := _, defers := [] } g2' te (Dok.nil _ (Nat.le_refl _))) ?_
    rintro ex a3 wa ⟨z, K3, jj3, e3, B3, H3, rfl, g3, t3, d3, f3, hq3⟩
    cases z with
    | exit i => exact hq3.elim
    | ret => exact hq3.elim
    | norm =>
      have hnd2 : ¬ dom H1 B jj l := fun h => by have := (dom_dead hB).1 h; rw [hl1] at this; cases this
      have hra : wa.heap[l]? = some (.loop (rec .ready none)) := by rw [f3.old l hlt2 hnd2]; exact hr2
      have hlta : l < wa.heap.size := (Array.getElem?_eq_some_iff.1 hra).1
      have hnd3 : ¬ dom H3 B3 jj3 l := fun h => (f3.newD l h).elim hnd2 (fun h => by omega)
      have hk3 : ∀ i, K3 l i = none := noK_of_loop g3 hra
      refine ⟨_, run_beginRound hra (by rw [hrec]), ?_⟩
      rw [putObj_setOb]
      refine wpIn_mono (hq3 hdb n2 w2.heap.size K3 jj3 (Lv.setOb wa l (.loop { rec .ready none with state := .busy })) a3 (g3.setOb hnd3 hk3) t3 (d3.setOb hra)) ?_
      rintro ex a4 wc ⟨z, K4, jj4, e4, B4, H4, rfl, g4, t4, d4, f4, hq4⟩
      have hrc : wc.heap[l]? = some (.loop { rec .ready none with state := .busy }) := by
        rw [f4.old l (by rw [setOb_size]; exact hlta) hnd3]; exact setOb_same hlta
      have hltc : l < wc.heap.size := (Array.getElem?_eq_some_iff.1 hrc).1
      have hnd4 : ¬ dom H4 B4 jj4 l := fun h => (f4.newD l h).elim hnd3 (fun h => by rw [setOb_size] at h; omega)
      have hH4 : H4 l = none := by
        cases hh : H4 l with
        | none => rfl
        | some o => exact absurd (.inl (by simp [hh])) hnd4
      have hk4 : ∀ i, K4 l i = none := noK_of_loop g4 hrc
      have fin : ∀ (o : Obj), Good K4 id nobox (setH H4 l (.blob o K)) (Lv.setOb wc l o) ∧ Fr (dom (setH H1 l (.blob (.loop (rec .ready none)) K)) nobox id) w2 K2 (dom (setH H4 l (.blob o K)) nobox id) (Lv.setOb wc l o) K4 := fun o => by
        have hle : K.le K4 := fun b i v h => f4.le _ _ _ (f3.le _ _ _ (hKK b i v h))
        have hd1 : ∀ b, dom H1 B jj b → dom (setH H1 l (.blob (.loop (rec .ready none)) K)) nobox id b := fun b h => dom_nobox.2 (by
          simp only [setH_apply]; split
          · rfl
          · exact (dom_dead hB).1 h)
        refine ⟨((g4.nobox.setOb (fun h => hnd4 (.inl (dom_nobox.1 h))) hk4).addH (fun h => hnd4 (.inl (dom_nobox.1 h))) hk4 ⟨setOb_same hltc, hle⟩), ?_⟩
        refine ⟨f4.os.trans f3.os, f4.tape.trans f3.tape, f4.output.trans f3.output, ?_, fun b hb hn => ?_, Know.le_trans f3.le f4.le, fun b i h1 h2 => ?_, fun b h => ?_⟩
        · have h1 := f3.size; have h2 := f4.size; rw [setOb_size] at h2 ⊢; omega
        · have hbl : b ≠ l := fun e => by subst e; exact hn (dom_nobox.2 (by simp))
          have hn1 : ¬ dom H1 B jj b := fun h => hn (hd1 b h)
          have hn3 : ¬ dom H3 B3 jj3 b := fun h => (f3.newD b h).elim hn1 (fun h => by omega)
          have hs := f3.size
          rw [setOb_other hbl, f4.old b (by rw [setOb_size]; omega) hn3, setOb_other hbl, f3.old b hb hn1]
        · cases hk : K3 b i with
          | some v => exact (f3.newK b i h1 (by simp [hk])).imp (hd1 b) id
          | none =>
            rcases f4.newK b i hk h2 with h | h
            · exact (f3.newD b h).imp (hd1 b) id
            · right; have := f3.size; rw [setOb_size] at h; omega
        · have h := dom_nobox.1 h
          by_cases hbl : b = l
          · subst hbl; exact .inl (dom_nobox.2 (by simp))
          · simp only [setH_apply, if_neg hbl] at h
            rcases f4.newD b (.inl h) with h | h
            · exact (f3.newD b h).imp (hd1 b) id
            · right; have := f3.size; rw [setOb_size] at h; omega
      cases z with
      | norm =>
        refine ⟨_, _, run_endRound (P := P) none hrc, .bool true, .bool true, K4, setH H4 l (.blob (.loop (rec .ready none)) K), rfl, ?_, .bool true, ?_, ⟨.norm, H4, rfl, hH4, rfl, hq4⟩⟩
        · have := (fin (.loop (rec .ready none))).1
          rw [putObj_setOb]; rw [hrec] at this ⊢; exact this
        · have := (fin (.loop (rec .ready none))).2
          rw [putObj_setOb]; rw [hrec] at this ⊢; exact this
      | ret =>
        refine ⟨_, _, run_endRound (P := P) (some .ret) hrc, .bool false, .bool false, K4, setH H4 l (.blob (.loop (rec .done (some .ret))) K), rfl, ?_, .bool false, ?_, ⟨.ret, H4, rfl, hH4, rfl, hq4⟩⟩
        · have := (fin (.loop (rec .done (some .ret)))).1
          rw [putObj_setOb]; rw [hrec] at this ⊢; exact this
        · have := (fin (.loop (rec .done (some .ret)))).2
          rw [putObj_setOb]; rw [hrec] at this ⊢; exact this
      | exit i =>
        refine ⟨_, _, run_endRound (P := P) (some (.exit i)) hrc, .bool false, .bool false, K4, setH H4 l (.blob (.loop (rec .done (some (.exit i)))) K), rfl, ?_, .bool false, ?_, ⟨.exit i, H4, rfl, hH4, rfl, hq4⟩⟩
        · have := (fin (.loop (rec .done (some (.exit i))))).1
          rw [putObj_setOb]; rw [hrec] at this ⊢; exact this
        · have := (fin (.loop (rec .done (some (.exit i))))).2
          rw [putObj_setOb]; rw [hrec] at this ⊢; exact this
  have hcall := iter l (.blob (.loop (rec .ready none)) K) (fun z => .blob (.loop (rec .done (some (exCode z)))) K) hHl hY
  have hcall := hcall.enter hen
  obtain ⟨fn2, hfn2, hbody2, hname2⟩ := hcall.1
  have hbn : fn2.body.isNone = false := by cases hb : fn2.body with | none => simp [hb] at hbody2 | some _ => rfl
  refine ⟨l, [{ target := .collected w.heap.size, args := #[] }], W1, { target := .fn (.func f) ws.toArray, args := #[.func (.yield l) #[] #[]] }, W1, f, ((.func (.yield l) #[] #[]) :: ws).toArray, W1, ?_, ?_, fun _ _ => trivial, ?_, fun h => by simp at h, ?_⟩
  · rw [← hW1, hrec, hl]; exact run_enterLoop_outer _ _ _ _ _
  · simp only [resolve, hev]
    simp [go_sem]
  · simp only [invoke, callFunc, Sem.run_bind, run_program, Result.andThen_ok, hfn2, hname2, hbn, if_false, Bool.false_eq_true, Sem.run_pure]
    congr 2
    apply Array.ext'; simp
  · refine (callsIn_wide (n := n - 1)).2 ((hcall.2 K W1 _ gs (Rs.cons (.yld l) hws)).mono ?_)
    rintro en W2 ⟨v, x, K', H', rfl, g', _, fr, hq⟩
    -- behind the iterator
    have hDn : ¬ dom (setH H l (.blob (.loop (rec .ready none)) K)) nobox id w.heap.size := fun h => by
      have := dom_nobox.1 h
      simp only [setH_apply, if_neg (show ¬ w.heap.size = l by omega), hHD] at this
      cases this
    have hD2 : W2.heap[w.heap.size]? = some (.deferred (some [])) := by rw [fr.old _ (by omega) hDn]; exact hK1
    have key : ∀ (H1 : OHeap) (r2 : Loop) (o : Obj), H' = setH H1 l (.blob (.loop r2) K) → H1 l = none → W2.heap[l]? = some (.loop r2) ∧
        Good K' jj B H1 (Lv.setOb W2 l o) ∧ TE K' jj B N e a.tmps ∧ Dok m (dom H1 B jj) (Lv.setOb W2 l o) ([{ target := .collected w.heap.size, args := #[] }] ++ a.defers) ∧ Fr (dom H B jj) w K (dom H1 B jj) (Lv.setOb W2 l o) K' := by
      rintro H1 r2 o rfl hl1
      obtain ⟨hr2, hKK⟩ : W2.heap[l]? = some (.loop r2) ∧ ∀ b' i v, K b' i = some v → K' b' i = some v := g'.own l (.blob (.loop r2) K) (by simp)
      have hlt2 : l < W2.heap.size := (Array.getElem?_eq_some_iff.1 hr2).1
      have gd : Good K' id nobox H1 W2 := by have := (g'.delH l).1; rwa [delH_setH hl1] at this
      have hsz := fr.size
      have hnew : ∀ b, (H1 b).isSome = true → (H b).isSome = true ∨ w.heap.size + 2 ≤ b := fun b hb => by
        have hbl : b ≠ l := fun e => by subst e; rw [hl1] at hb; cases hb
        rcases fr.newD b (dom_nobox.2 (by simp only [setH_apply, if_neg hbl]; exact hb)) with h | h
        · left; have := dom_nobox.1 h; simpa only [setH_apply, if_neg hbl] using this
        · right; omega
      have hold : ∀ b, b < w.heap.size → ¬ (H b).isSome = true → (Lv.setOb W2 l o).heap[b]? = w.heap[b]? := fun b hb hn => by
        have hbl : b ≠ l := by omega
        rw [setOb_other hbl, fr.old b (by omega) (fun h => hn (by have := dom_nobox.1 h; simpa only [setH_apply, if_neg hbl] using this)), hold1 b hb]
      refine ⟨hr2, (gd.setOb (fun h => by have := dom_nobox.1 h; rw [hl1] at this; cases this) (noK_of_loop gd hr2)).dead hB, t.mono hKK, ?_, ⟨?_, ?_, ?_, ?_, fun b hb hn => hold b hb (fun h => hn (.inl h)), hKK, fun b i h1 h2 => ?_, fun b h => ?_⟩⟩
      · obtain ⟨hm, bs, h1, h2, h3⟩ := d
        refine ⟨by rw [setOb_size]; omega, w.heap.size :: bs, by rw [h1]; rfl, List.nodup_cons.2 ⟨fun h => ?_, h2⟩, fun b hb => ?_⟩
        · have := (Array.getElem?_eq_some_iff.1 (h3 _ h).2.2).1; omega
        · rcases List.mem_cons.1 hb with rfl | hb
          · refine ⟨hm, fun h => ?_, by rw [setOb_other (by omega)]; exact hD2⟩
            rcases hnew _ ((dom_dead hB).1 h) with h | h
            · rw [hHD] at h; cases h
            · omega
          · obtain ⟨a1, a2, a3⟩ := h3 b hb
            have hblt := (Array.getElem?_eq_some_iff.1 a3).1
            have hbn : ¬ (H b).isSome = true := fun h => a2 (.inl h)
            refine ⟨a1, fun h => ?_, by rw [hold b hblt hbn]; exact a3⟩
            rcases hnew _ ((dom_dead hB).1 h) with h | h
            · exact hbn h
            · omega
      · rw [show (Lv.setOb W2 l o).os = W2.os from rfl, fr.os, ← hW1]; rfl
      · rw [show (Lv.setOb W2 l o).tape = W2.tape from rfl, fr.tape, ← hW1]; rfl
      · rw [show (Lv.setOb W2 l o).output = W2.output from rfl, fr.output, ← hW1]; rfl
      · rw [setOb_size]; omega
      · rcases fr.newK b i h1 h2 with h | h
        · have h := dom_nobox.1 h
          by_cases hbl : b = l
          · right; omega
          · left; left; simpa only [setH_apply, if_neg hbl] using h
        · right; omega
      · rcases hnew _ ((dom_dead hB).1 h) with h | h
        · exact .inl (.inl h)
        · right; omega
    obtain ⟨z, H1, hH', hl1, hj⟩ := hq
    cases z with
    | norm =>
      obtain ⟨k1, k2, k3, k4, k5⟩ := key H1 _ (.loop { rec .ready none with state := .exhausted }) hH' hl1
      refine ⟨none, _, by have := run_endLoop (P := P) k1 (by rw [hrec]; simp); rw [hrec] at this; exact this, ?_⟩
      rw [hrec] at k2 k4 k5
      exact ⟨.norm, K', jj, e, B, H1, rfl, k2, k3, k4, k5, hj⟩
    | ret =>
      obtain ⟨k1, k2, k3, k4, k5⟩ := key H1 _ (.loop { rec .done (some (exCode .ret)) with state := .exhausted }) hH' hl1
      refine ⟨some (exCode .ret), _, by have := run_endLoop (P := P) k1 (by rw [hrec]; simp); rw [hrec] at this; exact this, ?_⟩
      rw [hrec] at k2 k4 k5
      exact wpIn_ret ⟨.ret, K', jj, e, B, H1, rfl, k2, k3, k4, k5, hj⟩
    | exit i =>
      obtain ⟨k1, k2, k3, k4, k5⟩ := key H1 _ (.loop { rec .done (some (exCode (.exit i))) with state := .exhausted }) hH' hl1
      refine ⟨some (exCode (.exit i)), _, by have := run_endLoop (P := P) k1 (by rw [hrec]; simp); rw [hrec] at this; exact this, ?_⟩
      rw [hrec] at k2 k4 k5
      exact wpIn_exit ⟨.exit i, K', jj, e, B, H1, rfl, k2, k3, k4, k5, hj⟩
end
end Go.Lv
/- Xe, part H: the machine: operations in a row, drawn regions by their plans, code, functions. Over any program; no condition. -/
namespace Go.Xv
open Go Go.Lv
set_option linter.unusedVariables false
set_option linter.unusedSimpArgs false
abbrev Yh := Nat → Option (List LV → XS → Option (Bool × XS))
abbrev Cl := Yh → FuncId → List LV → XS → XR
/-- How a drawn region is walked. -/
structure DR where
  plan : Plan
  D : List Nat
  pm : Nat
  dels : List Nat
def exOne (T : Tab) (call : Cl) (yh : Yh) (dr : Bool) (o : Oper) (e : ET) (s : XS) : XR := match o.op with
  | .call c => match c.callee with
    | .value f => match xev e f with
      | .fn g fst caps => match (fst ++ xevs e c.args ++ caps).all hand with
        | true => match call yh g (fst ++ xevs e c.args ++ caps) { s with bx := [] } with
          | some (v, s') => some (v, { s' with bx := s.bx })
          | none => none
        | false => none
      | .yld l => match (xevs e c.args).all hand with
        | true => match yh l with
          | some h => match h (xevs e c.args) { s with bx := [] } with
            | some (b, s') => some (.bool b, { s' with bx := s.bx })
            | none => none
          | none => none
        | false => none
      | _ => none
    | _ => xop T dr o.op o.dst e s
  | _ => xop T dr o.op o.dst e s
def xw (ops : List Oper) (o : Oper) (e : ET) : Option Bool := match o.guard with
  | none => some true
  | some (j, want) => match (ops[j]?).bind (·.dst) with
    | some t => match eget e t with
      | .bool b => some (b == want)
      | .tup [] => some false
      | _ => none
    | none => none
def exOs (T : Tab) (call : Cl) (yh : Yh) (dr : Bool) (ops : List Oper) : List Oper → ET → XS → Option (ET × XS)
  | [], e, s => some (e, s)
  | o :: r, e, s => match xw ops o e with
    | some true => match exOne T call yh dr o e s with
      | some (v, s') => exOs T call yh dr ops r (setE e o.dst v) s'
      | none => none
    | some false => exOs T call yh dr ops r (setE e o.dst (.tup [])) s
    | none => none
/-- Surely the same. -/
def beqss : List (List LV) → List (List LV) → Bool
  | [], [] => true
  | x :: xs, y :: ys => LV.beqs x y && beqss xs ys
  | _, _ => false
def same1 : LV → LV → Bool
  | .ptr v o, .ptr w p => v == w && o == p
  | .sl v o l k, .sl w p n j => v == w && o == p && l == n && k == j && (k % 2 == 1 || k / 2 != 0)
  | .isl f e xs, .isl g d ys => f == g && e == d && beqss xs ys
  | .bp d j o, .bp w k p => d == w && o == p && j == 0 && k == 0
  | .mp v, .mp w => v == w
  | x, y => x.beq1 y
def sames : List LV → List LV → Bool
  | [], [] => true
  | x :: xs, y :: ys => same1 x y && sames xs ys
  | _, _ => false
def same : LV → LV → Bool
  | .tup xs, .tup ys => sames xs ys
  | .agg xs, .agg ys => sames xs ys
  | x, y => same1 x y
def pvX (T : Tab) (ops : List Oper) (o : Oper) (e : ET) (s : XS) : Option LV := match xw ops o e with
  | some true => match pureX o with
    | true => match xop T true o.op o.dst e s with
      | some (v, _) => some v
      | none => none
    | false => none
  | some false => some (.tup [])
  | none => none
def stabX (T : Tab) (ops : List Oper) (e : ET) (s : XS) (e' : ET) (s' : XS) : List Nat → Bool
  | [] => true
  | k :: r => match ops[k]? with
    | some o => match pvX T ops o e s, pvX T ops o e' s' with
      | some x, some y => match same x y with
        | true => stabX T ops e s e' s' r
        | false => false
      | _, _ => false
    | none => stabX T ops e s e' s' r
def exDr (T : Tab) (call : Cl) (yh : Yh) (ops : List Oper) : Plan → ET → XS → Option (ET × XS)
  | [], e, s => some (e, s)
  | a :: r, e, s => match ops[a.1]? with
    | some o => match exOs T call yh true ops [o] e s with
      | some (e', s') => match stabX T ops e s e' s' a.2 with
        | true => exDr T call yh ops r e' s'
        | false => none
      | none => none
    | none => none
/-- A box becomes a block. -/
def nbx (d v : Nat) : LV → LV
  | .bp d' k off => if d' = d then .ptr v off else .bp d' k off
  | x => x
def Tr.map {α : Type} (f : α → α) : Tr α → Tr α
  | .em => .em
  | .nd v l r => .nd (v.map f) (l.map f) (r.map f)
def boxOut : List (Nat × List LV) → ET → XS → Option (ET × XS)
  | [], e, s => some (e, s)
  | (d, cs) :: r, e, s => match lkb r d with
    | none => boxOut r (e.map (nbx d s.nx)) ({ s with bx := r }.new (.cells cs (cs.length + 1) cs.length))
    | some _ => none
def iter (f : ET → XS → Option (Ex × ET × XS)) : Nat → ET → XS → Option (Ex × ET × XS)
  | 0, _, _ => none
  | n + 1, e, s => match f e s with
    | some (.norm, e, s) => iter f n e s
    | r => r
def setpsX (e : ET) : List Tmp → List LV → ET
  | p :: ps, x :: xs => setpsX (eset e p x) ps xs
  | _, _ => e
def exC (T : Tab) (call : Cl) (dt : Nat → Option DR) (yh : Yh) : Bool → Code → ET → XS → Option (Ex × ET × XS)
  | _, .skip, e, s => some (.norm, e, s)
  | _, .label _, e, s => some (.norm, e, s)
  | _, .exit i, e, s => some (.exit i, e, s)
  | _, .ret, e, s => some (.ret, e, s)
  | _, .region _ ops false, e, s => match exOs T call yh false ops.toList ops.toList e s with
    | some (e, s) => match s.bx with
      | [] => some (.norm, e, s)
      | _ => none
    | none => none
  | _, .region id ops true, e, s => match dt id with
    | some dr => match exDr T call yh ops.toList dr.plan e s with
      | some (e, s) => match boxOut s.bx e s with
        | some (e, s) => some (.norm, e, s)
        | none => none
      | none => none
    | none => none
  | tp, .seq a b, e, s => match exC T call dt yh tp a e s with
    | some (.norm, e, s) => exC T call dt yh tp b e s
    | r => r
  | tp, .cond c a b, e, s => match xev e c with
    | .bool true => exC T call dt yh tp a e s
    | .bool false => exC T call dt yh tp b e s
    | _ => none
  | tp, .block i c, e, s => match exC T call dt yh tp c e s with
    | some (.exit j, e, s) => if j = i then some (.norm, e, s) else some (.exit j, e, s)
    | r => r
  | tp, .loop c, e, s => iter (exC T call dt yh tp c) 100000 e s
  | tp, .scope c, e, s => exC T call dt yh tp c e s
  | tp, .rangeFunc g ps asg body, e, s => match tp, xev e g with
    | true, .fn f [] caps => match caps.all hand, s.br with
      | true, none => match call (fun i => if i = s.nx then some fun xs s1 => match s1.br, Nat.beq xs.length ps.size with
          | none, true => match exC T call dt yh false asg (setpsX e ps.toList xs) s1 with
            | some (.norm, e2, s2) => match exC T call dt yh false body e2 s2 with
              | some (z, _, s3) => match s3.br with
                | none => (match z with
                  | .norm => some (true, s3)
                  | z => some (false, { s3 with br := some (s.nx, z) }))
                | some _ => none
              | none => none
            | _ => none
          | _, _ => none
        else none) f (.yld s.nx :: caps) { s with nx := s.nx + 1 } with
        | some (_, s') => match s'.br with
          | none => some (.norm, e, s')
          | some (w, z) => match z with
            | .norm => none
            | z => if w = s.nx then some (z, e, { s' with br := none }) else none
        | none => none
      | _, _ => none
    | _, _ => none
  | _, .goto _, e, s => none
  | _, .refuse w, e, s => none
def xres1 (T : Tab) (s : XS) (e : ET) : ResultVar → Option LV
  | .tmp t => match hand (eget e t) with | true => some (eget e t) | false => none
  | .cell a t => xload T s t (eget e a)
def xress (T : Tab) (s : XS) (e : ET) : List ResultVar → Option (List LV)
  | [] => some []
  | r :: rs => match xres1 T s e r with
    | some v => match xress T s e rs with
      | some vs => some (v :: vs)
      | none => none
    | none => none
def xres (T : Tab) (s : XS) (e : ET) (rs : List ResultVar) : Option LV := match rs with
  | [r] => xres1 T s e r
  | rs => match xress T s e rs with
    | some vs => some (.tup vs)
    | none => none
def exF (P : Program) (T : Tab) (dt : FuncId → Nat → Option DR) (intr : FuncId → Option (List LV → XS → XR)) : Nat → Cl
  | 0, _, _, _, _ => none
  | n + 1, yh, f, args, s => match intr f with
    | some g => g args s
    | none => match P.funcs[f]? with
      | some fn => match fn.body with
        | some c => match Nat.ble args.length fn.ntmps with
          | true => match exC T (exF P T dt intr n) (dt f) yh true c (eofL args 0 .em) s with
            | some (.exit _, _, _) => none
            | some (_, e, s) => match xres T s e fn.results.toList with
              | some v => some (v, s)
              | none => none
            | none => none
          | false => none
        | none => none
      | none => none
end Go.Xv
