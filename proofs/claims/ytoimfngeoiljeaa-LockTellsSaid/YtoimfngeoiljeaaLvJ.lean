/- Lv, part J: make, append, copy, clear. Over any program; no condition. -/
import Derived.Test.YtoimfngeoiljeaaLvI
import Derived.Deep.Upon
namespace Go.Lv
open Go
set_option linter.unusedVariables false
set_option linter.unusedSimpArgs false

section
variable {P : Program} {N : Nat} {o : Oper} {e : Env} {B : Box} {H : OHeap} {K : Know} {jj : Nat → Nat} {w w' : World}

theorem isl_flat {es b : Nat} : ∀ (xs : List (List LV)) (o : Nat), (∀ x ∈ xs, x.length = es) →
    (∀ i j x y, xs[i]? = some x → x[j]? = some y → ∃ u, K b (o + i * es + j) = some u ∧ R K y u) →
    ∀ (j : Nat) y, xs.flatten[j]? = some y → ∃ u, K b (o + j) = some u ∧ R K y u
  | [], o, he, h, j, y, hy => by simp at hy
  | x :: xs, o, he, h, j, y, hy => by
    simp only [List.flatten_cons] at hy
    have hx : x.length = es := he x (List.mem_cons_self ..)
    rcases Nat.lt_or_ge j x.length with hj | hj
    · rw [List.getElem?_append_left hj] at hy
      have := h 0 j x y rfl hy
      simpa using this
    · rw [List.getElem?_append_right hj] at hy
      have := isl_flat xs (o + es) (fun z hz => he z (List.mem_cons_of_mem _ hz)) (fun i j x y h1 h2 => by
        have := h (i + 1) j x y (by simpa using h1) h2
        rwa [show o + (i + 1) * es + j = o + es + i * es + j by rw [Nat.succ_mul]; omega] at this) (j - x.length) y hy
      rwa [show o + es + (j - x.length) = o + j by omega] at this

theorem Rs.one {xs : List LV} {vs : List Value} (h : Rs K xs vs) (ho : xs.all LV.one = true) : ∀ v ∈ vs, v.oneCell' = true := fun v hv => by
  obtain ⟨i, hi, rfl⟩ := List.getElem_of_mem hv
  have hi' : i < xs.length := by rw [← h.1]; exact hi
  exact (h.2 i _ _ (List.getElem?_eq_getElem hi') (List.getElem?_eq_getElem hi)).oneCell (List.all_eq_true.1 ho _ (List.getElem_mem hi'))

/-- What an argument of append or copy yields. -/
def srcL (H : OHeap) (size : Nat) : LV → Option (Nat × List LV)
  | .nilsl => some (0, [])
  | .isl _ e xs => if e = size then some (xs.length, xs.flatten) else none
  | .sl b off l _ => if l = 0 then some (0, []) else match H b with
    | some (.cells cs _) => if off + l * size ≤ cs.length then some (l, (cs.drop off).take (l * size)) else none
    | _ => none
  | .str s => if size = 1 then some (s.size, s.data.toList.map fun b => .int .u8 b.toNat) else none
  | _ => none

theorem flatten_length {es : Nat} : ∀ (xs : List (List LV)), (∀ x ∈ xs, x.length = es) → xs.flatten.length = xs.length * es
  | [], _ => by simp
  | x :: xs, h => by simp [flatten_length xs (fun z hz => h z (List.mem_cons_of_mem _ hz)), h x (List.mem_cons_self ..), Nat.succ_mul]; omega

/-- What stands behind a source: its cells in the world. -/
theorem src_cells (g : Good K jj B H w) {size n : Nat} {x : LV} {v : Value} {ns : List LV} (hr : RE K jj B x v) (h : srcL H size x = some (n, ns)) (hs : ∀ s, x ≠ .str s) :
    ∃ A c news, v = .slice A n c ∧ Rs K ns news ∧ ns.length = n * size ∧ (match A with | some a => a.spot = none ∧ ∀ (j : Nat) u, news[j]? = some u → w.cell? (a.add j) = some u | none => n = 0 ∧ news = []) := by
  have hadd : ∀ b o j : Nat, (⟨b, o, none⟩ : Addr).add j = ⟨b, o + j, none⟩ := fun b o j => by unfold Addr.add; split <;> simp_all
  unfold srcL at h
  split at h
  · simp at h; obtain ⟨rfl, rfl⟩ := h
    have r : R K .nilsl v := hr
    cases r
    exact ⟨none, 0, [], rfl, Rs.nil K, by simp, rfl, rfl⟩
  · rename_i f es xs
    split at h
    · rename_i he; subst he
      simp at h; obtain ⟨rfl, rfl⟩ := h
      have r : R K (.isl f es xs) v := hr
      cases r with
      | isln _ _ => exact ⟨none, 0, [], rfl, Rs.nil K, by simp, rfl, rfl⟩
      | isl _ _ _ b o c us hc hf he hK hR =>
        have hfl := isl_flat (K := K) xs o he (fun i j x y h1 h2 => ⟨_, hK i j x y h1 h2, hR i j x y h1 h2⟩)
        obtain ⟨news, h1, h2⟩ := cells_vals (w := w) (b := b) (o := o) (fun j y hy => by
          obtain ⟨u, h3, h4⟩ := hfl j y hy
          exact ⟨u, g.know _ _ _ h3, h4⟩)
        exact ⟨some ⟨b, o, none⟩, c, news, rfl, h1, flatten_length xs he, rfl, fun j u hu => by rw [hadd]; exact h2 j u hu⟩
    · simp at h
  · rename_i b off l c
    split at h
    · rename_i h0
      simp at h; obtain ⟨rfl, rfl⟩ := h
      have r : R K (.sl b off l c) v := hr
      cases r
      exact ⟨some ⟨b, off, none⟩, c, [], by rw [h0], Rs.nil K, by simp, rfl, fun j u hu => by simp at hu⟩
    rename_i hl0
    split at h
    · rename_i cs m hH
      split at h
      · rename_i hle
        simp at h; obtain ⟨rfl, rfl⟩ := h
        have r : R K (.sl b off l c) v := hr
        cases r
        obtain ⟨arr, T, fz, h1, h2, h3, h4, h5⟩ := g.own b _ hH
        obtain ⟨news, h6, h7⟩ := cells_vals (w := w) (K := K) (b := b) (o := off) (cs := (cs.drop off).take (l * size)) (fun j y hy => by
          rw [List.getElem?_take] at hy
          split at hy
          · rw [List.getElem?_drop] at hy
            obtain ⟨u, a1, _, a3⟩ := h4 _ y hy
            exact ⟨u, by simp [World.cell?, h1, a1], a3⟩
          · simp at hy)
        exact ⟨some ⟨b, off, none⟩, c, news, rfl, h6, by simp; omega, rfl, fun j u hu => by rw [hadd]; exact h7 j u hu⟩
      · simp at h
    · simp at h
  · exact absurd rfl (hs _)
  · simp at h

/-- Which kind of argument goes with which value. -/
def srcKind (k : TK) : LV → Prop
  | .str _ => k = .str
  | _ => ∃ e, k = .slice e

theorem src_ok {T : Tab} (hT : TOK P T) (g : Good K jj B H w) {tx : TypeId} {tix : TI} (htx : T tx = some tix) {size n : Nat} {x : LV} {v : Value} {ns : List LV} (hk : srcKind tix.kind x)
    (hr : RE K jj B x v) (h : srcL H size x = some (n, ns)) (h1 : ns.all LV.one = true) : ∃ news, Src P size tx v n news w ∧ Rs K ns news := by
  obtain ⟨d, hd, hkd⟩ := (hT tx tix htx).und
  by_cases hs : ∃ s, x = .str s
  · obtain ⟨s, rfl⟩ := hs
    simp only [srcL] at h
    split at h
    · rename_i h1'
      subst h1'
      simp at h; obtain ⟨rfl, rfl⟩ := h
      have hv := hr.str; subst hv
      have hkk : P.underlying tx = some .string := by rw [hd]; rw [hk] at hkd; rw [ofDesc_str hkd]
      refine ⟨byteCells s, Src.ofString w hkk s, by simp [byteCells], fun i y u hy hu => ?_⟩
      simp only [byteCells, List.getElem?_map] at hy hu
      obtain ⟨c, hc, rfl⟩ := Option.map_eq_some_iff.1 hy
      rw [hc] at hu
      simp at hu; subst hu
      exact .int _ _
    · simp at h
  · have hs' : ∀ s, x ≠ .str s := fun s hx => hs ⟨s, hx⟩
    have hk' : ∃ e, tix.kind = .slice e := by
      cases x <;> first | (exact absurd rfl (hs' _)) | exact hk
    obtain ⟨el, hel⟩ := hk'
    have hkk : P.underlying tx = some (.slice el) := by rw [hd]; rw [hel] at hkd; rw [ofDesc_slice hkd]
    obtain ⟨A, c, news, rfl, h2, h3, h4⟩ := src_cells g hr h hs'
    cases A with
    | none =>
      obtain ⟨rfl, rfl⟩ := h4
      exact ⟨[], Src.ofNil w hkk c, h2⟩
    | some a =>
      obtain ⟨h4, h5⟩ := h4
      exact ⟨news, Src.ofSlice w hkk a n c news (by rw [h2.1, h3]) h5 (h2.one h1), h2⟩

theorem Good.drew (g : Good K jj B H w) : Good K jj B H w.drew := {
  know := g.know
  own b o h := (g.own b o h).same rfl
  apart := g.apart
  box d ver cs h := (g.box d ver cs h).same rfl
  boxH := g.boxH
  boxne := g.boxne }

theorem zeroCells_size (z : Array Value) (n : Nat) : (Builtin.zeroCells z n).size = n * z.size := by simp [Builtin.zeroCells]
theorem zeroCells_one {T : Tab} (hT : TOK P T) {el : TypeId} {ei : TI} (hei : T el = some ei) {z : Value} (hz : ∀ u ∈ z.cells.toList, u.oneCell' = true) (n : Nat) : ∀ u ∈ (Builtin.zeroCells z.cells n).toList, u.oneCell' = true := fun u hu => by
  simp only [Builtin.zeroCells, Array.toList_map, List.mem_map, Array.toList_range, List.mem_range] at hu
  obtain ⟨i, hi, rfl⟩ := hu
  have h0 : 0 < z.cells.size := by
    rcases Nat.eq_zero_or_pos z.cells.size with h | h
    · rw [h] at hi; simp at hi
    · exact h
  have hm : i % z.cells.size < z.cells.size := Nat.mod_lt _ h0
  rw [getElem!_pos z.cells _ hm]
  exact hz _ (by simp)

def room (need bytes : Nat) : Prop := need ≤ 9223372036854775807 ∧ need * bytes ≤ 140737488355328

/-- Where a new row comes: any block that is not taken, any capacity that suffices. -/
def Fresh (H : OHeap) (need : Nat) (k : Nat → Nat → Prop) : Prop := ∀ b c, H b = none → need ≤ c → k b c

/-- append. -/
def appL (H : OHeap) (size bytes : Nat) (s x : LV) (Q : LV → OHeap → Prop) : Prop :=
  match srcL H size x with
  | none => False
  | some (n, ns) => ns.all LV.one = true ∧ match s with
    | .nilsl => (n = 0 → Q .nilsl H) ∧ (0 < n → room n bytes ∧ Fresh H n fun b c => Q (.sl b 0 n c) (setH H b (.cells ns (c * size))))
    | .isl true e xs => e = size ∧ xs.flatten.all LV.one = true ∧ (n = 0 → Q s H) ∧
        (0 < n → room (xs.length + n) bytes ∧ Fresh H (xs.length + n) fun b c => Q (.sl b 0 (xs.length + n) c) (setH H b (.cells (xs.flatten ++ ns) (c * size))))
    | .sl b off len cap => match H b with
      | some (.cells cs m) => (off + len * size ≤ cs.length ∧ off + cap * size ≤ m ∧ ((cs.drop off).take (len * size)).all LV.one = true) ∧
          (len + n ≤ cap → Q (.sl b off (len + n) cap) (setH H b (.cells (seg cs (off + len * size) ns) m))) ∧
          (cap < len + n → room (len + n) bytes ∧ Fresh H (len + n) fun b' c => Q (.sl b' 0 (len + n) c) (setH (delH H b) b' (.cells ((cs.drop off).take (len * size) ++ ns) (c * size))))
      | _ => False
    | _ => False

theorem Good.delH (g : Good K jj B H w) (b : Nat) : Good K jj B (Lv.delH H b) w ∧ Fr (dom H B jj) w K (dom (Lv.delH H b) B jj) w K := by
  have hd : ∀ x, dom (Lv.delH H b) B jj x → dom H B jj x := fun x h => by
    rcases h with h | h
    · by_cases hx : x = b
      · simp [hx] at h
      · exact .inl (by simpa [hx] using h)
    · exact .inr h
  refine ⟨⟨g.know, fun b' o h => ?_, fun b' o h => g.apart b' o (hd b' h), g.box, fun d h => ?_, g.boxne⟩, (Fr.refl _ w K).weak hd⟩
  · by_cases hx : b' = b
    · simp [hx] at h
    · simp [hx] at h; exact g.own b' o h
  · have := g.boxH d h
    by_cases hx : jj d = b <;> simp [hx, this]

/-- The new row of an append that finds no room. -/
theorem grow_new (g : Good K jj B H w) {el : TypeId} {olds news : List Value} {os ns : List LV} {z : Value} {size len n : Nat} (hz : ∀ u ∈ z.cells.toList, u.oneCell' = true) (hzs : z.cells.size = size)
    (hro : Rs K os olds) (hrn : Rs K ns news) (ho1 : os.all LV.one = true) (hn1 : ns.all LV.one = true) (hol : os.length = len * size) (hnl : ns.length = n * size) {c : Nat} (hc : len + n ≤ c) :
    H w.drew.heap.size = none ∧ Good K jj B (setH H w.drew.heap.size (.cells (os ++ ns) (c * size))) (w.drew.alloc (.cells ((olds ++ news).toArray ++ Builtin.zeroCells z.cells (c - (len + n))) el)) ∧
      Fr (dom H B jj) w K (dom (setH H w.drew.heap.size (.cells (os ++ ns) (c * size))) B jj) (w.drew.alloc (.cells ((olds ++ news).toArray ++ Builtin.zeroCells z.cells (c - (len + n))) el)) K := by
  have hsz : ((olds ++ news).toArray ++ Builtin.zeroCells z.cells (c - (len + n))).size = c * size := by
    have e1 : olds.length = len * size := by rw [hro.1, hol]
    have e2 : news.length = n * size := by rw [hrn.1, hnl]
    simp only [Array.size_append, List.size_toArray, List.length_append, zeroCells_size, hzs, e1, e2, ← Nat.add_mul]
    congr 1; omega
  have hlen : (os ++ ns).length = (olds ++ news).length := by simp [hro.1, hrn.1]
  have ho := ownObj.alloc (K := K) (w := w.drew) (T := el) (arr := (olds ++ news).toArray ++ Builtin.zeroCells z.cells (c - (len + n))) (cs := os ++ ns)
    (by rw [Array.toList_append, hlen, List.take_left' (by simp)]; exact hro.append hrn)
    (by rw [Array.size_append, List.size_toArray, hlen]; omega)
    (fun v hv => by
      rw [Array.toList_append, List.mem_append] at hv
      rcases hv with hv | hv
      · rw [List.toList_toArray, List.mem_append] at hv
        exact hv.elim (hro.one ho1 v) (hrn.one hn1 v)
      · simp only [Builtin.zeroCells, Array.toList_map, List.mem_map, Array.toList_range, List.mem_range] at hv
        obtain ⟨i, hi, rfl⟩ := hv
        have h0 : 0 < z.cells.size := by
          rcases Nat.eq_zero_or_pos z.cells.size with h | h
          · rw [h] at hi; simp at hi
          · exact h
        have hm : i % z.cells.size < z.cells.size := Nat.mod_lt _ h0
        rw [getElem!_pos z.cells _ hm]
        exact hz _ (by simp))
  rw [hsz] at ho
  obtain ⟨h1, h2, h3⟩ := g.drew.newH ho
  exact ⟨h1, h2, (Fr.refl (dom H B jj) w K).drew.trans h3⟩

theorem TIok.zero_one {w : World} {T : Tab} (hT : TOK P T) {t : TypeId} {ti : TI} (hti : T t = some ti) : ∃ i z, P.info? t = some i ∧ i.size = ti.size ∧ i.bytes = ti.bytes ∧ i.zero = some z ∧ z.cells.size = ti.size ∧ Rs K ti.zero z.cells.toList ∧ (∀ u ∈ z.cells.toList, u.oneCell' = true) := by
  have ht := hT t ti hti
  obtain ⟨i, z, hi, hs, hb, hz, hm, ha⟩ := ht.info
  obtain ⟨z', hz', hr, hsz, _⟩ := ht.run_zero K
  have : z' = z := by have := hz' w; simp [zeroValue, typeInfo, hi, hz] at this; exact this.symm
  subst this
  exact ⟨i, z', hi, hs, hb, hz, hsz, hr, hr.one (List.all_eq_true.2 ht.one)⟩

theorem step_append {T : Tab} (hT : TOK P T) {t tx el : TypeId} {s x : Operand} {ti tix ei : TI} (ho : o.op = .call ⟨.builtin .append, #[s, x], #[t, tx]⟩) (hti : T t = some ti) (hk : ti.kind = .slice el) (hei : T el = some ei) (htx : T tx = some tix)
    (hkx : srcKind tix.kind (ev e x))
    {Q : LV → Box → OHeap → Prop} (h : appL H ei.size ei.bytes (ev e s) (ev e x) fun r H' => Q r B H') : Step P o e B H Q := by
  intro K jj w a N g te
  suffices hs : ∃ v w', (Builtin.append_ #[t, tx] o.type #[a.eval s, a.eval x]).run P w = .ok v w' ∧ ∃ r H', Good K jj B H' w' ∧ R K r v ∧ Fr (dom H B jj) w K (dom H' B jj) w' K ∧ Q r B H' by
    obtain ⟨v, w', h1, r, H', h2, h3, h4, h5⟩ := hs
    exact ⟨.value v, v, w', by simp [execOp, ho, resolve, invoke, builtin, h1], .inl rfl, r, B, H', K, jj, h2, h3.re, te, h4, h5⟩
  unfold appL at h
  split at h
  · exact h.elim
  rename_i n ns hsrc
  obtain ⟨hn1, h⟩ := h
  obtain ⟨news, hSrc, hrn⟩ := src_ok (w := w) hT g htx hkx (te.ev x) hsrc hn1
  obtain ⟨d, hd, hkd⟩ := (hT t ti hti).und
  have ht : P.underlying t = some (.slice el) := by rw [hd]; rw [hk] at hkd; rw [ofDesc_slice hkd]
  obtain ⟨i, z, hi, hsz, hby, hz, hzs, hzr, hz1⟩ := TIok.zero_one (K := K) (w := w) hT hei
  rw [← hsz] at hSrc
  have hnl : ns.length = n * ei.size := by rw [← hrn.1, hSrc.newsLen, hsz]
  have rs := te.ev s
  have fits : ∀ {len cap : Nat}, room (len + n) ei.bytes → cap < len + n → ((len + n : Nat) : Int) ≤ 9223372036854775807 ∧ Builtin.nextslicecap (len + n) cap * i.bytes ≤ 281474976710656 := fun hr hlt => by
    refine ⟨by have := hr.1; omega, growslice_fits hlt ?_⟩
    rw [hby]; exact hr.2
  split at h
  · rename_i hs
    rw [hs] at rs
    have r : R K .nilsl (a.eval s) := rs
    generalize a.eval s = u at r ⊢
    cases r
    rcases Nat.eq_zero_or_pos n with h0 | h0
    · subst h0
      have hnews : news = [] := List.eq_nil_of_length_eq_zero (by rw [hSrc.newsLen]; simp)
      subst hnews
      exact ⟨_, w, run_append_nothing w t tx o.type el i ht hi none 0 0 (Nat.le_refl _) _ hSrc, _, H, g, .nilsl, Fr.refl _ _ _, h.1 rfl⟩
    · obtain ⟨hroom, hf⟩ := h.2 h0
      have hroom' : room (0 + n) ei.bytes := by simpa using hroom
      obtain ⟨h63, hfit⟩ := fits (cap := 0) hroom' (by omega)
      have hgr := run_append_grow_src w t tx o.type el i z ht hi hz none 0 0 [] (run_firstCells_none w.drew i.size 0 0 0) (a.eval x) n news hSrc (by omega) h63 hfit
      obtain ⟨h1, h2, h3⟩ := grow_new g (el := el) (olds := []) (os := []) (len := 0) (n := n) hz1 hzs (Rs.nil K) hrn rfl hn1 (by simp) hnl (c := grownCap w (0 + n) 0 el) (grownCap_ge _ _ _ _)
      simp only [Nat.zero_add, List.nil_append] at hgr h2 h3
      refine ⟨_, _, hgr, _, _, h2, .sl _ _ _ _, h3, hf _ _ h1 (by have := grownCap_ge w n 0 el; exact this)⟩
  · rename_i es xs hs
    obtain ⟨rfl, hx1, h⟩ := h
    rw [hs] at rs h
    have r : R K (.isl true ei.size xs) (a.eval s) := rs
    obtain ⟨A, c, olds, hv, hro, hol, hA⟩ := src_cells (H := H) (size := ei.size) (n := xs.length) (ns := xs.flatten) g rs (by simp [srcL]) (by simp)
    have hcap : c = xs.length := by obtain ⟨A', c', h1, h2, h3⟩ := r.isl_shape; rw [hv] at h1; simp at h1; rw [h1.2]; exact h3 rfl
    subst hcap
    rw [hv] at r ⊢
    rcases Nat.eq_zero_or_pos n with h0 | h0
    · subst h0
      have hnews : news = [] := List.eq_nil_of_length_eq_zero (by rw [hSrc.newsLen]; simp)
      subst hnews
      exact ⟨_, w, run_append_nothing w t tx o.type el i ht hi A _ _ (Nat.le_refl _) _ hSrc, _, H, g, r, Fr.refl _ _ _, h.1 rfl⟩
    · obtain ⟨hroom, hf⟩ := h.2 h0
      obtain ⟨h63, hfit⟩ := fits (cap := xs.length) hroom (by omega)
      have hold : (Builtin.firstCells i.size xs.length (.slice A xs.length xs.length)).run P w.drew = .ok olds.toArray w.drew := by
        cases A with
        | none => obtain ⟨h1, rfl⟩ := hA; rw [run_firstCells_none]
        | some b => exact run_firstCells_some w.drew i.size xs.length b _ _ olds (by rw [hro.1, hol, hsz]) (fun j u hu => by simpa using hA.2 j u hu)
      have hgr := run_append_grow_src w t tx o.type el i z ht hi hz A xs.length xs.length olds hold (a.eval x) n news hSrc (by omega) h63 hfit
      obtain ⟨h1, h2, h3⟩ := grow_new g (el := el) (len := xs.length) (n := n) hz1 hzs hro hrn hx1 hn1 hol hnl (c := grownCap w (xs.length + n) xs.length el) (grownCap_ge _ _ _ _)
      exact ⟨_, _, hgr, _, _, h2, .sl _ _ _ _, h3, hf _ _ h1 (grownCap_ge _ _ _ _)⟩
  · rename_i b off len cap hs
    rw [hs] at rs
    have r : R K (.sl b off len cap) (a.eval s) := rs
    split at h
    · rename_i cs m hH
      obtain ⟨⟨hle, hm, ho1⟩, hroomy, hgrow⟩ := h
      obtain ⟨A, c, olds, hv, hro, hol, hA⟩ := src_cells (H := H) (size := ei.size) (n := len) (ns := (cs.drop off).take (len * ei.size)) g rs (by by_cases h0 : len = 0 <;> simp [srcL, hH, hle, h0]) (by simp)
      have hv' : a.eval s = .slice (some ⟨b, off, none⟩) len cap := by generalize a.eval s = u at r; cases r; rfl
      rw [hv'] at hv ⊢
      simp at hv
      obtain ⟨rfl, rfl⟩ := hv
      rcases Nat.lt_or_ge cap (len + n) with hlt | hge
      · obtain ⟨hroom, hf⟩ := hgrow hlt
        obtain ⟨h63, hfit⟩ := fits hroom hlt
        have hold : (Builtin.firstCells i.size len (.slice (some ⟨b, off, none⟩) len cap)).run P w.drew = .ok olds.toArray w.drew :=
          run_firstCells_some w.drew i.size len _ _ _ olds (by rw [hro.1, hol, hsz]) (fun j u hu => by simpa using hA.2 j u hu)
        have hgr := run_append_grow_src w t tx o.type el i z ht hi hz (some ⟨b, off, none⟩) len cap olds hold (a.eval x) n news hSrc hlt h63 hfit
        obtain ⟨g1, f1⟩ := g.delH b
        obtain ⟨h1, h2, h3⟩ := grow_new g1 (el := el) (len := len) (n := n) hz1 hzs hro hrn ho1 hn1 hol hnl (c := grownCap w (len + n) cap el) (grownCap_ge _ _ _ _)
        have hHn : H w.heap.size = none := by
          cases hh : H w.heap.size with
          | none => rfl
          | some ob => exact absurd (g.own _ _ hh).lt (Nat.lt_irrefl _)
        exact ⟨_, _, hgr, _, _, h2, .sl _ _ _ _, f1.trans h3, hf _ _ hHn (grownCap_ge _ _ _ _)⟩
      · have hoo := g.own b _ hH
        have hmul : (len + n) * ei.size ≤ cap * ei.size := Nat.mul_le_mul_right _ hge
        have hbound : off + len * ei.size + ns.length ≤ m := by rw [hnl]; rw [Nat.add_mul] at hmul; omega
        obtain ⟨h2, h3, h4⟩ := own_store (P := P) (k := off + len * ei.size) hoo hrn hSrc.one hle hbound
        obtain ⟨arr, T', fz, hb, hsize, hle', hcs, hfz⟩ := hoo
        have hrun := run_append_room_src w t tx o.type el i ht hi b off len cap (a.eval x) n news hSrc hge (fun j hj => by
            have : off + len * i.size + j < arr.size := by rw [hsz]; rw [hrn.1] at hj; omega
            simp [World.cell?, hb]; omega) (fun j hj => hfz _)
        rw [hsz] at hrun
        obtain ⟨g', f'⟩ := g.wroteH (by rw [hH]; rfl) h3 h4
        exact ⟨_, _, hrun, _, _, g', .sl _ _ _ _, f', hroomy hge⟩
    · exact h.elim
  · exact h.elim

/-- make([]T, l, c). -/
theorem step_makeSlice {T : Tab} (hT : TOK P T) {t el : TypeId} {l c : Operand} {ti ei : TI} {kl kc : IntKind} {ln cn : Int} (ho : o.op = .makeSlice t l c) (hti : T t = some ti) (hk : ti.kind = .slice el) (hei : T el = some ei)
    (hl : ev e l = .int kl ln) (hc : ev e c = .int kc cn) (h0 : 0 ≤ ln) (hlc : ln ≤ cn) (hb : (ei.bytes : Int) * cn ≤ 281474976710656) (h63 : cn ≤ 9223372036854775807)
    {Q : LV → Box → OHeap → Prop} (h : ∀ b, H b = none → Q (.sl b 0 ln.toNat cn.toNat) B (setH H b (.cells (zerosL ei.zero cn.toNat) (cn.toNat * ei.size)))) : Step P o e B H Q := by
  intro K jj w a N g te
  obtain ⟨d, hd, hkd⟩ := (hT t ti hti).und
  have ht : P.underlying t = some (.slice el) := by rw [hd]; rw [hk] at hkd; rw [ofDesc_slice hkd]
  obtain ⟨i, z, hi, hsz, hby, hz, hzs, hzr, hz1⟩ := TIok.zero_one (K := K) (w := w) hT hei
  have rl := te.ev l; rw [hl] at rl
  have rc := te.ev c; rw [hc] at rc
  have hrun := run_make (P := P) w t el i z ht hi hz kl kc ln cn h0 hlc (by rw [hby]; exact hb) h63
  have hlen : ei.zero.length = ei.size := (hT el ei hei).len
  have hzz := Rs.zeros hzr cn.toNat (.inr trivial)
  have hmade : madeCells z.cells (cn.toNat * i.size) = (Array.range (cn.toNat * ei.zero.length)).map (z.cells[· % z.cells.size]!) := by unfold madeCells; rw [hsz, hlen]
  rw [← hmade] at hzz
  have hasz : (madeCells z.cells (cn.toNat * i.size)).size = cn.toNat * ei.size := by simp [madeCells, hsz]
  have hown := ownObj.alloc (w := w) (T := el) (arr := madeCells z.cells (cn.toNat * i.size)) (cs := zerosL ei.zero cn.toNat) (K := K)
    (by rw [List.take_of_length_le (by rw [Array.length_toList, hasz, zerosL_length, hlen]; exact Nat.le_refl _)]; exact hzz)
    (by rw [hasz, zerosL_length, hlen]; exact Nat.le_refl _)
    (hzz.one (List.all_eq_true.2 (zerosL_one (fun x hx => (hT el ei hei).one x hx) _)))
  rw [hasz] at hown
  obtain ⟨h1, h2, h3⟩ := g.newH hown
  refine ⟨_, _, _, ?_, .inl rfl, _, _, _, K, jj, h2, (R.sl _ _ _ _).re, te, h3, h _ h1⟩
  simp only [execOp, ho, rl.int, rc.int]
  exact run_value hrun

/-- copy. -/
theorem step_copy {T : Tab} (hT : TOK P T) {t tx el : TypeId} {s x : Operand} {ti ei : TI} (ho : o.op = .call ⟨.builtin .copy, #[s, x], #[t, tx]⟩) (hti : T t = some ti) (hk : ti.kind = .slice el) (hei : T el = some ei)
    {b off len cap n m : Nat} {cs ns : List LV} (hs : ev e s = .sl b off len cap) (hH : H b = some (.cells cs m)) (hx : srcL H ei.size (ev e x) = some (n, ns)) (hstr : ∀ s, ev e x ≠ .str s) (hn1 : ns.all LV.one = true)
    (hle : off ≤ cs.length) (hm : off + min n len * ei.size ≤ m)
    {Q : LV → Box → OHeap → Prop} (h : Q (.int .i64 (min n len : Nat)) B (setH H b (.cells (seg cs off (ns.take (min n len * ei.size))) m))) : Step P o e B H Q := by
  intro K jj w a N g te
  obtain ⟨d, hd, hkd⟩ := (hT t ti hti).und
  have ht : P.underlying t = some (.slice el) := by rw [hd]; rw [hk] at hkd; rw [ofDesc_slice hkd]
  have rs := te.ev s; rw [hs] at rs
  have r : R K (.sl b off len cap) (a.eval s) := rs
  have hv : a.eval s = .slice (some ⟨b, off, none⟩) len cap := by generalize a.eval s = u at r; cases r; rfl
  obtain ⟨A, c, news, hvx, hrn, hnl, hA⟩ := src_cells (w := w) g (te.ev x) hx hstr
  have hmin : min n len ≤ n := Nat.min_le_left _ _
  have hmul : min n len * ei.size ≤ n * ei.size := Nat.mul_le_mul_right _ hmin
  have hrt := hrn.take (min n len * ei.size)
  have hone : ∀ v ∈ news.take (min n len * ei.size), v.oneCell' = true := fun v hv' => hrn.one hn1 v (List.mem_of_mem_take hv')
  have hl : (ns.take (min n len * ei.size)).length = min n len * ei.size := by rw [List.length_take, hnl]; omega
  obtain ⟨h2, h3, h4⟩ := own_store (P := P) (k := off) (g.own b _ hH) hrt hone hle (by rw [hl]; exact hm)
  obtain ⟨g', f'⟩ := g.wroteH (by rw [hH]; rfl) h3 h4
  refine ⟨.value (.int .i64 (min n len : Nat)), _, _, ?_, .inl rfl, _, _, _, K, jj, g', (R.int _ _).re, te, f', h⟩
  have hfc : (Builtin.firstCells ei.size (min n len) (a.eval x)).run P w = .ok (news.take (min n len * ei.size)).toArray w := by
    rw [hvx]
    cases A with
    | none => obtain ⟨h1, rfl⟩ := hA; rw [run_firstCells_none]; simp
    | some bb => exact run_firstCells_some w ei.size (min n len) bb _ _ _ (by rw [hrt.1, hl]) (fun j u hu => by
        rw [List.getElem?_take] at hu
        split at hu
        · exact hA.2 j u hu
        · simp at hu)
  simp only [execOp, ho]
  simp only [resolve, invoke, builtin]
  have : (Builtin.copy_ #[t, tx] o.type #[a.eval s, a.eval x]).run P w = .ok (goInt (min n len : Nat)) (w.setCells b off (news.take (min n len * ei.size))) := by
    rw [hv]
    have hlen : (Builtin.lenOf (a.eval x)).run P w = .ok n w := by rw [hvx]; rfl
    have hmm : Nat.min n len = min n len := rfl
    simp [Builtin.copy_, run_underlying ht, hlen, (hT el ei hei).run_size w, hmm, hfc, h2]
  simp [this]
  rfl

/-- clear of a slice. -/
theorem step_clear {T : Tab} (hT : TOK P T) {t el : TypeId} {s : Operand} {ti ei : TI} (ho : o.op = .call ⟨.builtin .clear, #[s], #[t]⟩) (hti : T t = some ti) (hk : ti.kind = .slice el) (hei : T el = some ei)
    {b off len cap m : Nat} {cs : List LV} (hs : ev e s = .sl b off len cap) (hH : H b = some (.cells cs m))
    (hle : off ≤ cs.length) (hm : off + len * ei.size ≤ m)
    {Q : LV → Box → OHeap → Prop} (h : Q (.tup []) B (setH H b (.cells (seg cs off (zerosL ei.zero len)) m))) : Step P o e B H Q := by
  intro K jj w a N g te
  obtain ⟨d, hd, hkd⟩ := (hT t ti hti).und
  have ht : P.underlying t = some (.slice el) := by rw [hd]; rw [hk] at hkd; rw [ofDesc_slice hkd]
  have rs := te.ev s; rw [hs] at rs
  have r : R K (.sl b off len cap) (a.eval s) := rs
  have hv : a.eval s = .slice (some ⟨b, off, none⟩) len cap := by generalize a.eval s = u at r; cases r; rfl
  obtain ⟨i, z, hi, hsz, hby, hz, hzs, hzr, hz1⟩ := TIok.zero_one (K := K) (w := w) hT hei
  have hlen : ei.zero.length = ei.size := (hT el ei hei).len
  have hzz := Rs.zeros hzr len (.inr trivial)
  have hzc : Builtin.zeroCells z.cells len = (Array.range (len * ei.zero.length)).map (z.cells[· % z.cells.size]!) := by unfold Builtin.zeroCells; rw [hzs, hlen]
  rw [← hzc] at hzz
  obtain ⟨h2, h3, h4⟩ := own_store (P := P) (k := off) (g.own b _ hH) hzz (hzz.one (List.all_eq_true.2 (zerosL_one (fun x hx => (hT el ei hei).one x hx) _))) hle (by rw [zerosL_length, hlen]; exact hm)
  obtain ⟨g', f'⟩ := g.wroteH (by rw [hH]; rfl) h3 h4
  have key : ∃ w', (Builtin.clear_ #[t] o.type #[a.eval s]).run P w = .ok (.tuple #[]) w' ∧ w' = w.setCells b off (Builtin.zeroCells z.cells len).toList := by
    rw [hv]
    cases len with
    | zero =>
      refine ⟨w, by simp [Builtin.clear_, run_underlying ht], ?_⟩
      simp [Builtin.zeroCells, World.setCells]
    | succ k =>
      refine ⟨_, ?_, rfl⟩
      simp [Builtin.clear_, run_underlying ht, zeroValue, typeInfo, hi, hz, h2]
  obtain ⟨w', hrun, rfl⟩ := key
  refine ⟨.value (.tuple #[]), _, _, ?_, .inl rfl, _, _, _, K, jj, g', (R.tup [] [] rfl (fun i x v h => by simp at h)).re, te, f', h⟩
  simp only [execOp, ho]
  simp [resolve, invoke, builtin, hrun]

end
end Go.Lv
