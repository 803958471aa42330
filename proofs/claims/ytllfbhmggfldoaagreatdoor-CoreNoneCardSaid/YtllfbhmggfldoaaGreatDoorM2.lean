/- Texts of this proof, put together: LvJ, LvKm, LvKc, LvK, LvL, LvM. No condition. -/
import Derived.Test.YtllfbhmggfldoaaGreatDoorM1
import Derived.Deep.Upon
import Derived.Lib.AppendZerosOnto
import Derived.Laws.NewFold
import Derived.Laws.IdiomStrings
import Derived.Laws.BytesString
/- Lv, part J: make, append, copy, clear. Over any program; no condition. -/
namespace Go.Lv
open Go
set_option linter.unusedVariables false
set_option linter.unusedSimpArgs false

section
variable {P : Program} {N : Nat} {o : Oper} {e : Env} {B : Box} {H : OHeap} {K : Know} {jj : Nat → Nat} {w w' : World}

theorem isl_flat {es b : Nat} : ∀ (xs : List (List LV)) (o : Nat), (∀ x ∈ xs, x.length = es) →
    (∀ i j x y, xs[i]? = some x → x[j]? = some y → ∃ u, K b (o + i * es + j) = some u ∧ R K y u) →
    ∀ (j : Nat) y, xs.flatten[j]? = some y → ∃ u, K b (o + j) = some u ∧ R K y u
  | [], o, he, h, j, y, hy => by simp at hy
  | x :: xs, o, he, h, j, y, hy => by
    simp only [List.flatten_cons] at hy
    have hx : x.length = es := he x (List.mem_cons_self ..)
    rcases Nat.lt_or_ge j x.length with hj | hj
    · rw [List.getElem?_append_left hj] at hy
      have := h 0 j x y rfl hy
      simpa using this
    · rw [List.getElem?_append_right hj] at hy
      have := isl_flat xs (o + es) (fun z hz => he z (List.mem_cons_of_mem _ hz)) (fun i j x y h1 h2 => by
        have := h (i + 1) j x y (by simpa using h1) h2
        rwa [show o + (i + 1) * es + j = o + es + i * es + j by rw [Nat.succ_mul]; omega] at this) (j - x.length) y hy
      rwa [show o + es + (j - x.length) = o + j by omega] at this

theorem Rs.one {xs : List LV} {vs : List Value} (h : Rs K xs vs) (ho : xs.all LV.one = true) : ∀ v ∈ vs, v.oneCell' = true := fun v hv => by
  obtain ⟨i, hi, rfl⟩ := List.getElem_of_mem hv
  have hi' : i < xs.length := by rw [← h.1]; exact hi
  exact (h.2 i _ _ (List.getElem?_eq_getElem hi') (List.getElem?_eq_getElem hi)).oneCell (List.all_eq_true.1 ho _ (List.getElem_mem hi'))

/-- What an argument of append or copy yields. -/
def srcL (H : OHeap) (size : Nat) : LV → Option (Nat × List LV)
  | .nilsl => some (0, [])
  | .wsl => some (0, [])
  | .isl _ e xs => if e = size then some (xs.length, xs.flatten) else none
  | .sl b off l _ => if l = 0 then some (0, []) else match H b with
    | some (.cells cs _) => if off + l * size ≤ cs.length then some (l, (cs.drop off).take (l * size)) else none
    | _ => none
  | .str s => if size = 1 then some (s.size, s.data.toList.map fun b => .int .u8 b.toNat) else none
  | _ => none

theorem flatten_length {es : Nat} : ∀ (xs : List (List LV)), (∀ x ∈ xs, x.length = es) → xs.flatten.length = xs.length * es
  | [], _ => by simp
  | x :: xs, h => by simp [flatten_length xs (fun z hz => h z (List.mem_cons_of_mem _ hz)), h x (List.mem_cons_self ..), Nat.succ_mul]; omega

/-- What stands behind a source: its cells in the world. -/
theorem src_cells (g : Good K jj B H w) {size n : Nat} {x : LV} {v : Value} {ns : List LV} (hr : RE K jj B x v) (h : srcL H size x = some (n, ns)) (hs : ∀ s, x ≠ .str s) :
    ∃ A c news, v = .slice A n c ∧ Rs K ns news ∧ ns.length = n * size ∧ (match A with | some a => True ∧ ∀ (j : Nat) u, news[j]? = some u → w.cell? (a.add j) = some u | none => n = 0 ∧ news = []) := by
  have hadd : ∀ b o j : Nat, (⟨b, o, none⟩ : Addr).add j = ⟨b, o + j, none⟩ := fun b o j => by unfold Addr.add; split <;> simp_all
  unfold srcL at h
  split at h
  · simp at h; obtain ⟨rfl, rfl⟩ := h
    have r : R K .nilsl v := hr
    cases r
    exact ⟨none, 0, [], rfl, Rs.nil K, by simp, rfl, rfl⟩
  · simp at h; obtain ⟨rfl, rfl⟩ := h
    have r : R K .wsl v := hr
    cases r
    exact ⟨some _, 0, [], rfl, Rs.nil K, by simp, trivial, fun j u hu => by simp at hu⟩
  · rename_i f es xs
    split at h
    · rename_i he; subst he
      simp at h; obtain ⟨rfl, rfl⟩ := h
      have r : R K (.isl f es xs) v := hr
      cases r with
      | isln _ _ => exact ⟨none, 0, [], rfl, Rs.nil K, by simp, rfl, rfl⟩
      | isle _ _ a => exact ⟨some a, 0, [], rfl, Rs.nil K, by simp, trivial, fun j u hu => by simp at hu⟩
      | isl _ _ _ b o c us hc hf he hK hR =>
        have hfl := isl_flat (K := K) xs o he (fun i j x y h1 h2 => ⟨_, hK i j x y h1 h2, hR i j x y h1 h2⟩)
        obtain ⟨news, h1, h2⟩ := cells_vals (w := w) (b := b) (o := o) (fun j y hy => by
          obtain ⟨u, h3, h4⟩ := hfl j y hy
          exact ⟨u, g.know _ _ _ h3, h4⟩)
        exact ⟨some ⟨b, o, none⟩, c, news, rfl, h1, flatten_length xs he, trivial, fun j u hu => by rw [hadd]; exact h2 j u hu⟩
    · simp at h
  · rename_i b off l c
    split at h
    · rename_i h0
      simp at h; obtain ⟨rfl, rfl⟩ := h
      have r : R K (.sl b off l c) v := hr
      cases r
      exact ⟨some ⟨b, off, none⟩, c, [], by rw [h0], Rs.nil K, by simp, trivial, fun j u hu => by simp at hu⟩
    rename_i hl0
    split at h
    · rename_i cs m hH
      split at h
      · rename_i hle
        simp at h; obtain ⟨rfl, rfl⟩ := h
        have r : R K (.sl b off l c) v := hr
        cases r
        obtain ⟨arr, T, fz, h1, h2, h3, h4, h5⟩ := g.own b _ hH
        obtain ⟨news, h6, h7⟩ := cells_vals (w := w) (K := K) (b := b) (o := off) (cs := (cs.drop off).take (l * size)) (fun j y hy => by
          rw [List.getElem?_take] at hy
          split at hy
          · rw [List.getElem?_drop] at hy
            obtain ⟨u, a1, _, a3⟩ := h4 _ y hy
            exact ⟨u, by simp [World.cell?, h1, a1], a3⟩
          · simp at hy)
        exact ⟨some ⟨b, off, none⟩, c, news, rfl, h6, by simp; omega, trivial, fun j u hu => by rw [hadd]; exact h7 j u hu⟩
      · simp at h
    · simp at h
  · exact absurd rfl (hs _)
  · simp at h

/-- Which kind of argument goes with which value. -/
def srcKind (k : TK) : LV → Prop
  | .str _ => k = .str
  | .int _ _ => ∃ k', k = .int k'
  | _ => ∃ e, k = .slice e

theorem src_ok {T : Tab} (hT : TOK P T) (g : Good K jj B H w) {tx : TypeId} {tix : TI} (htx : T tx = some tix) {size n : Nat} {x : LV} {v : Value} {ns : List LV} (hk : srcKind tix.kind x)
    (hr : RE K jj B x v) (h : srcL H size x = some (n, ns)) (h1 : ns.all LV.one = true) : ∃ news, Src P size tx v n news w ∧ Rs K ns news := by
  obtain ⟨d, hd, hkd⟩ := (hT tx tix htx).und
  by_cases hs : ∃ s, x = .str s
  · obtain ⟨s, rfl⟩ := hs
    simp only [srcL] at h
    split at h
    · rename_i h1'
      subst h1'
      simp at h; obtain ⟨rfl, rfl⟩ := h
      have hv := hr.str; subst hv
      have hkk : P.underlying tx = some .string := by rw [hd]; rw [hk] at hkd; rw [ofDesc_str hkd]
      refine ⟨byteCells s, Src.ofString w hkk s, by simp [byteCells], fun i y u hy hu => ?_⟩
      simp only [byteCells, List.getElem?_map] at hy hu
      obtain ⟨c, hc, rfl⟩ := Option.map_eq_some_iff.1 hy
      rw [hc] at hu
      simp at hu; subst hu
      exact .int _ _
    · simp at h
  · have hs' : ∀ s, x ≠ .str s := fun s hx => hs ⟨s, hx⟩
    have hk' : ∃ e, tix.kind = .slice e := by
      cases x <;> first | (exact absurd rfl (hs' _)) | (simp [srcL] at h; done) | exact hk
    obtain ⟨el, hel⟩ := hk'
    have hkk : P.underlying tx = some (.slice el) := by rw [hd]; rw [hel] at hkd; rw [ofDesc_slice hkd]
    obtain ⟨A, c, news, rfl, h2, h3, h4⟩ := src_cells g hr h hs'
    cases A with
    | none =>
      obtain ⟨rfl, rfl⟩ := h4
      exact ⟨[], Src.ofNil w hkk c, h2⟩
    | some a =>
      obtain ⟨h4, h5⟩ := h4
      exact ⟨news, Src.ofSlice w hkk a n c news (by rw [h2.1, h3]) h5 (h2.one h1), h2⟩

theorem Good.drew (g : Good K jj B H w) : Good K jj B H w.drew := {
  know := g.know
  own b o h := (g.own b o h).same rfl
  apart := g.apart
  box d ver cs h := (g.box d ver cs h).same rfl
  boxH := g.boxH
  boxne := g.boxne }

theorem zeroCells_size (z : Array Value) (n : Nat) : (Builtin.zeroCells z n).size = n * z.size := by simp [Builtin.zeroCells]
theorem zeroCells_one {T : Tab} (hT : TOK P T) {el : TypeId} {ei : TI} (hei : T el = some ei) {z : Value} (hz : ∀ u ∈ z.cells.toList, u.oneCell' = true) (n : Nat) : ∀ u ∈ (Builtin.zeroCells z.cells n).toList, u.oneCell' = true := fun u hu => by
  simp only [Builtin.zeroCells, Array.toList_map, List.mem_map, Array.toList_range, List.mem_range] at hu
  obtain ⟨i, hi, rfl⟩ := hu
  have h0 : 0 < z.cells.size := by
    rcases Nat.eq_zero_or_pos z.cells.size with h | h
    · rw [h] at hi; simp at hi
    · exact h
  have hm : i % z.cells.size < z.cells.size := Nat.mod_lt _ h0
  rw [getElem!_pos z.cells _ hm]
  exact hz _ (by simp)

def room (need bytes : Nat) : Prop := need ≤ 9223372036854775807 ∧ need * bytes ≤ 140737488355328

/-- Where a new row comes: any block that is not taken, any capacity that suffices. -/
def Fresh (H : OHeap) (need : Nat) (k : Nat → Nat → Prop) : Prop := ∀ b c, H b = none → need ≤ c → k b c

/-- append. -/
def appL (H : OHeap) (size bytes : Nat) (s x : LV) (Q : LV → OHeap → Prop) : Prop :=
  match x with
  | .int _ k => match s with
    | .sl b off len cap => match H b with
      | some (.cells cs _) => (0 < k ∧ 0 < size ∧ off + len * size ≤ cs.length ∧ ((cs.drop off).take (len * size)).all LV.one = true) ∧ cap < len + k.toNat ∧ room (len + k.toNat) bytes ∧
          Fresh H (len + k.toNat) fun b' c => Q (.sl b' 0 (len + k.toNat) c) (setH H b' (.cells ((cs.drop off).take (len * size)) (c * size)))
      | _ => False
    | _ => False
  | x => match srcL H size x with
  | none => False
  | some (n, ns) => ns.all LV.one = true ∧ match s with
    | .nilsl => (n = 0 → Q .nilsl H) ∧ (0 < n → room n bytes ∧ Fresh H n fun b c => Q (.sl b 0 n c) (setH H b (.cells ns (c * size))))
    | .wsl => (n = 0 → Q .wsl H) ∧ (0 < n → room n bytes ∧ Fresh H n fun b c => Q (.sl b 0 n c) (setH H b (.cells ns (c * size))))
    | .isl true e xs => e = size ∧ xs.flatten.all LV.one = true ∧ (n = 0 → Q s H) ∧
        (0 < n → room (xs.length + n) bytes ∧ Fresh H (xs.length + n) fun b c => Q (.sl b 0 (xs.length + n) c) (setH H b (.cells (xs.flatten ++ ns) (c * size))))
    | .sl b off len cap => match H b with
      | some (.cells cs m) => (off + len * size ≤ cs.length ∧ off + cap * size ≤ m ∧ ((cs.drop off).take (len * size)).all LV.one = true) ∧
          (len + n ≤ cap → Q (.sl b off (len + n) cap) (setH H b (.cells (seg cs (off + len * size) ns) m))) ∧
          (cap < len + n → room (len + n) bytes ∧ Fresh H (len + n) fun b' c => Q (.sl b' 0 (len + n) c) (setH (delH H b) b' (.cells ((cs.drop off).take (len * size) ++ ns) (c * size))))
      | _ => False
    | _ => False

theorem Good.delH (g : Good K jj B H w) (b : Nat) : Good K jj B (Lv.delH H b) w ∧ Fr (dom H B jj) w K (dom (Lv.delH H b) B jj) w K := by
  have hd : ∀ x, dom (Lv.delH H b) B jj x → dom H B jj x := fun x h => by
    rcases h with h | h
    · by_cases hx : x = b
      · simp [hx] at h
      · exact .inl (by simpa [hx] using h)
    · exact .inr h
  refine ⟨⟨g.know, fun b' o h => ?_, fun b' o h => g.apart b' o (hd b' h), g.box, fun d h => ?_, g.boxne⟩, (Fr.refl _ w K).weak hd⟩
  · by_cases hx : b' = b
    · simp [hx] at h
    · simp [hx] at h; exact g.own b' o h
  · have := g.boxH d h
    by_cases hx : jj d = b <;> simp [hx, this]

/-- The new row of an append that finds no room. -/
theorem grow_new (g : Good K jj B H w) {el : TypeId} {olds news : List Value} {os ns : List LV} {z : Value} {size len n : Nat} (hz : ∀ u ∈ z.cells.toList, u.oneCell' = true) (hzs : z.cells.size = size)
    (hro : Rs K os olds) (hrn : Rs K ns news) (ho1 : os.all LV.one = true) (hn1 : ns.all LV.one = true) (hol : os.length = len * size) (hnl : ns.length = n * size) {c : Nat} (hc : len + n ≤ c) :
    H w.drew.heap.size = none ∧ Good K jj B (setH H w.drew.heap.size (.cells (os ++ ns) (c * size))) (w.drew.alloc (.cells ((olds ++ news).toArray ++ Builtin.zeroCells z.cells (c - (len + n))) el)) ∧
      Fr (dom H B jj) w K (dom (setH H w.drew.heap.size (.cells (os ++ ns) (c * size))) B jj) (w.drew.alloc (.cells ((olds ++ news).toArray ++ Builtin.zeroCells z.cells (c - (len + n))) el)) K := by
  have hsz : ((olds ++ news).toArray ++ Builtin.zeroCells z.cells (c - (len + n))).size = c * size := by
    have e1 : olds.length = len * size := by rw [hro.1, hol]
    have e2 : news.length = n * size := by rw [hrn.1, hnl]
    simp only [Array.size_append, List.size_toArray, List.length_append, zeroCells_size, hzs, e1, e2, ← Nat.add_mul]
    congr 1; omega
  have hlen : (os ++ ns).length = (olds ++ news).length := by simp [hro.1, hrn.1]
  have ho := ownObj.alloc (K := K) (w := w.drew) (T := el) (arr := (olds ++ news).toArray ++ Builtin.zeroCells z.cells (c - (len + n))) (cs := os ++ ns)
    (by rw [Array.toList_append, hlen, List.take_left' (by simp)]; exact hro.append hrn)
    (by rw [Array.size_append, List.size_toArray, hlen]; omega)
    (fun v hv => by
      rw [Array.toList_append, List.mem_append] at hv
      rcases hv with hv | hv
      · rw [List.toList_toArray, List.mem_append] at hv
        exact hv.elim (hro.one ho1 v) (hrn.one hn1 v)
      · simp only [Builtin.zeroCells, Array.toList_map, List.mem_map, Array.toList_range, List.mem_range] at hv
        obtain ⟨i, hi, rfl⟩ := hv
        have h0 : 0 < z.cells.size := by
          rcases Nat.eq_zero_or_pos z.cells.size with h | h
          · rw [h] at hi; simp at hi
          · exact h
        have hm : i % z.cells.size < z.cells.size := Nat.mod_lt _ h0
        rw [getElem!_pos z.cells _ hm]
        exact hz _ (by simp))
  rw [hsz] at ho
  obtain ⟨h1, h2, h3⟩ := g.drew.newH ho
  exact ⟨h1, h2, (Fr.refl (dom H B jj) w K).drew.trans h3⟩

theorem TIok.zero_one {w : World} {T : Tab} (hT : TOK P T) {t : TypeId} {ti : TI} (hti : T t = some ti) : ∃ i z, P.info? t = some i ∧ i.size = ti.size ∧ i.bytes = ti.bytes ∧ i.zero = some z ∧ z.cells.size = ti.size ∧ Rs K ti.zero z.cells.toList ∧ (∀ u ∈ z.cells.toList, u.oneCell' = true) := by
  have ht := hT t ti hti
  obtain ⟨i, z, hi, hs, hb, hz, hm, ha⟩ := ht.info
  obtain ⟨z', hz', hr, hsz, _⟩ := ht.run_zero K
  have : z' = z := by have := hz' w; simp [zeroValue, typeInfo, hi, hz] at this; exact this.symm
  subst this
  exact ⟨i, z', hi, hs, hb, hz, hsz, hr, hr.one (List.all_eq_true.2 ht.one)⟩

theorem step_append {T : Tab} (hT : TOK P T) {t tx el : TypeId} {s x : Operand} {ti tix ei : TI} (ho : o.op = .call ⟨.builtin .append, #[s, x], #[t, tx]⟩) (hti : T t = some ti) (hk : ti.kind = .slice el) (hei : T el = some ei) (htx : T tx = some tix)
    (hkx : srcKind tix.kind (ev e x))
    {Q : LV → Box → OHeap → Prop} (h : appL H ei.size ei.bytes (ev e s) (ev e x) fun r H' => Q r B H') : Step P o e B H Q := by
  intro K jj w a N g te
  suffices hs : ∃ v w', (Builtin.append_ #[t, tx] o.type #[a.eval s, a.eval x]).run P w = .ok v w' ∧ ∃ r H', Good K jj B H' w' ∧ R K r v ∧ Fr (dom H B jj) w K (dom H' B jj) w' K ∧ Q r B H' by
    obtain ⟨v, w', h1, r, H', h2, h3, h4, h5⟩ := hs
    exact ⟨.value v, v, w', by simp [execOp, ho, resolve, invoke, builtin, h1], .inl rfl, r, B, H', K, jj, h2, h3.re, te, h4, h5⟩
  obtain ⟨d, hd, hkd⟩ := (hT t ti hti).und
  have ht : P.underlying t = some (.slice el) := by rw [hd]; rw [hk] at hkd; rw [ofDesc_slice hkd]
  obtain ⟨i, z, hi, hsz, hby, hz, hzs, hzr, hz1⟩ := TIok.zero_one (K := K) (w := w) hT hei
  unfold appL at h
  split at h
  · rename_i kq k hx
    rw [hx] at hkx
    obtain ⟨kn, hkn⟩ := hkx
    have htn : P.underlying tx = some (.int kn) := by
      obtain ⟨dx, hdx, hkdx⟩ := (hT tx tix htx).und
      rw [hdx]; rw [hkn] at hkdx; rw [ofDesc_int hkdx]
    have rx := te.ev x
    rw [hx] at rx
    rw [rx.int]
    have rs := te.ev s
    split at h
    · rename_i b off len cap hs
      rw [hs] at rs
      have r : R K (.sl b off len cap) (a.eval s) := rs
      split at h
      · rename_i cs m hH
        obtain ⟨⟨hk0, hs0, hle, ho1⟩, hlt, hroom, hf⟩ := h
        obtain ⟨A, c, olds, hv, hro, hol, hA⟩ := src_cells (H := H) (size := ei.size) (n := len) (ns := (cs.drop off).take (len * ei.size)) g rs (by by_cases h0 : len = 0 <;> simp [srcL, hH, hle, h0]) (by simp)
        have hv' : a.eval s = .slice (some ⟨b, off, none⟩) len cap := by generalize a.eval s = u at r; cases r; rfl
        rw [hv'] at hv ⊢
        simp at hv
        obtain ⟨rfl, rfl⟩ := hv
        have hold : (Builtin.firstCells i.size len (.slice (some ⟨b, off, none⟩) len cap)).run P w.drew = .ok olds.toArray w.drew :=
          run_firstCells_some w.drew i.size len _ _ _ olds (by rw [hro.1, hol, hsz]) (fun j u hu => by simpa using hA.2 j u hu)
        obtain ⟨q, rfl⟩ : ∃ q : Nat, k = q := ⟨k.toNat, by omega⟩
        simp only [Int.toNat_natCast] at hlt hroom hf
        have hfit : Builtin.nextslicecap (len + q) cap * i.bytes ≤ 281474976710656 := growslice_fits hlt (by rw [hby]; exact hroom.2)
        have h48 : q * i.bytes ≤ 281474976710656 := by
          rw [hby]
          have h1 := hroom.2
          have : q * ei.bytes ≤ (len + q) * ei.bytes := Nat.mul_le_mul_right _ (by omega)
          omega
        have hgr := Lib.run_append_grow_zeros w t tx o.type el i z kq kn ht htn hi hz (some ⟨b, off, none⟩) len cap olds hold q (by omega) (by rw [hsz]; exact hs0) hlt (by have := hroom.1; omega) h48 hfit
        have hge := grownCap_ge w (len + q) cap el
        generalize grownCap w (len + q) cap el = gc at hgr hge
        have hcomb : olds.toArray ++ Builtin.zeroCells z.cells q ++ Builtin.zeroCells z.cells (gc - (len + q)) = (olds ++ []).toArray ++ (Builtin.zeroCells z.cells q ++ Builtin.zeroCells z.cells (gc - (len + q))) := by simp
        have hsz2 : (olds.toArray ++ Builtin.zeroCells z.cells q ++ Builtin.zeroCells z.cells (gc - (len + q))).size = gc * ei.size := by
          have e1 : olds.length = len * ei.size := by rw [hro.1, hol]
          simp only [Array.size_append, List.size_toArray, zeroCells_size, hzs, e1, ← Nat.add_mul]
          congr 1; omega
        have ho := ownObj.alloc (K := K) (w := w.drew) (T := el) (arr := olds.toArray ++ Builtin.zeroCells z.cells q ++ Builtin.zeroCells z.cells (gc - (len + q))) (cs := (cs.drop off).take (len * ei.size))
          (by rw [hcomb, Array.toList_append, List.take_left' (by simp [hro.1])]; simpa using hro)
          (by rw [Array.size_append, Array.size_append, List.size_toArray, hro.1]; omega)
          (fun v hv => by
            have hzc : ∀ n, v ∈ (Builtin.zeroCells z.cells n).toList → v.oneCell' = true := fun n hv => by
              simp only [Builtin.zeroCells, Array.toList_map, List.mem_map, Array.toList_range, List.mem_range] at hv
              obtain ⟨i, hi, rfl⟩ := hv
              have h0 : 0 < z.cells.size := by
                rcases Nat.eq_zero_or_pos z.cells.size with h | h
                · rw [h] at hi; simp at hi
                · exact h
              have hm : i % z.cells.size < z.cells.size := Nat.mod_lt _ h0
              rw [getElem!_pos z.cells _ hm]
              exact hz1 _ (by simp)
            rw [Array.toList_append, Array.toList_append, List.mem_append, List.mem_append] at hv
            rcases hv with (hv | hv) | hv
            · rw [List.toList_toArray] at hv; exact hro.one ho1 v hv
            · exact hzc _ hv
            · exact hzc _ hv)
        rw [hsz2] at ho
        obtain ⟨h1, h2, h3⟩ := g.drew.newH ho
        exact ⟨_, _, hgr, _, _, h2, .sl _ _ _ _, (Fr.refl (dom H B jj) w K).drew.trans h3, hf _ _ h1 hge⟩
      · exact h.elim
    · exact h.elim
  split at h
  · exact h.elim
  rename_i n ns hsrc
  obtain ⟨hn1, h⟩ := h
  obtain ⟨news, hSrc, hrn⟩ := src_ok (w := w) hT g htx hkx (te.ev x) hsrc hn1
  rw [← hsz] at hSrc
  have hnl : ns.length = n * ei.size := by rw [← hrn.1, hSrc.newsLen, hsz]
  have rs := te.ev s
  have fits : ∀ {len cap : Nat}, room (len + n) ei.bytes → cap < len + n → ((len + n : Nat) : Int) ≤ 9223372036854775807 ∧ Builtin.nextslicecap (len + n) cap * i.bytes ≤ 281474976710656 := fun hr hlt => by
    refine ⟨by have := hr.1; omega, growslice_fits hlt ?_⟩
    rw [hby]; exact hr.2
  split at h
  · rename_i hs
    rw [hs] at rs
    have r : R K .nilsl (a.eval s) := rs
    generalize a.eval s = u at r ⊢
    cases r
    rcases Nat.eq_zero_or_pos n with h0 | h0
    · subst h0
      have hnews : news = [] := List.eq_nil_of_length_eq_zero (by rw [hSrc.newsLen]; simp)
      subst hnews
      exact ⟨_, w, run_append_nothing w t tx o.type el i ht hi none 0 0 (Nat.le_refl _) _ hSrc, _, H, g, .nilsl, Fr.refl _ _ _, h.1 rfl⟩
    · obtain ⟨hroom, hf⟩ := h.2 h0
      have hroom' : room (0 + n) ei.bytes := by simpa using hroom
      obtain ⟨h63, hfit⟩ := fits (cap := 0) hroom' (by omega)
      have hgr := run_append_grow_src w t tx o.type el i z ht hi hz none 0 0 [] (run_firstCells_none w.drew i.size 0 0 0) (a.eval x) n news hSrc (by omega) h63 hfit
      obtain ⟨h1, h2, h3⟩ := grow_new g (el := el) (olds := []) (os := []) (len := 0) (n := n) hz1 hzs (Rs.nil K) hrn rfl hn1 (by simp) hnl (c := grownCap w (0 + n) 0 el) (grownCap_ge _ _ _ _)
      simp only [Nat.zero_add, List.nil_append] at hgr h2 h3
      refine ⟨_, _, hgr, _, _, h2, .sl _ _ _ _, h3, hf _ _ h1 (by have := grownCap_ge w n 0 el; exact this)⟩
  · rename_i hs
    rw [hs] at rs
    have r : R K .wsl (a.eval s) := rs
    generalize a.eval s = u at r ⊢
    cases r
    rename_i aa
    rcases Nat.eq_zero_or_pos n with h0 | h0
    · subst h0
      have hnews : news = [] := List.eq_nil_of_length_eq_zero (by rw [hSrc.newsLen]; simp)
      subst hnews
      exact ⟨_, w, run_append_nothing w t tx o.type el i ht hi (some aa) 0 0 (Nat.le_refl _) _ hSrc, _, H, g, .wsl aa, Fr.refl _ _ _, h.1 rfl⟩
    · obtain ⟨hroom, hf⟩ := h.2 h0
      have hroom' : room (0 + n) ei.bytes := by simpa using hroom
      obtain ⟨h63, hfit⟩ := fits (cap := 0) hroom' (by omega)
      have hold : (Builtin.firstCells i.size 0 (.slice (some aa) 0 0)).run P w.drew = .ok ([] : List Value).toArray w.drew := run_firstCells_some w.drew i.size 0 aa _ _ [] (by simp) (fun j u hu => by simp at hu)
      have hgr := run_append_grow_src w t tx o.type el i z ht hi hz (some aa) 0 0 [] hold (a.eval x) n news hSrc (by omega) h63 hfit
      obtain ⟨h1, h2, h3⟩ := grow_new g (el := el) (olds := []) (os := []) (len := 0) (n := n) hz1 hzs (Rs.nil K) hrn rfl hn1 (by simp) hnl (c := grownCap w (0 + n) 0 el) (grownCap_ge _ _ _ _)
      simp only [Nat.zero_add, List.nil_append] at hgr h2 h3
      refine ⟨_, _, hgr, _, _, h2, .sl _ _ _ _, h3, hf _ _ h1 (by have := grownCap_ge w n 0 el; exact this)⟩
  · rename_i es xs hs
    obtain ⟨rfl, hx1, h⟩ := h
    rw [hs] at rs h
    have r : R K (.isl true ei.size xs) (a.eval s) := rs
    obtain ⟨A, c, olds, hv, hro, hol, hA⟩ := src_cells (H := H) (size := ei.size) (n := xs.length) (ns := xs.flatten) g rs (by simp [srcL]) (by simp)
    have hcap : c = xs.length := by obtain ⟨A', c', h1, h2, h3⟩ := r.isl_shape; rw [hv] at h1; simp at h1; rw [h1.2]; exact h3 rfl
    subst hcap
    rw [hv] at r ⊢
    rcases Nat.eq_zero_or_pos n with h0 | h0
    · subst h0
      have hnews : news = [] := List.eq_nil_of_length_eq_zero (by rw [hSrc.newsLen]; simp)
      subst hnews
      exact ⟨_, w, run_append_nothing w t tx o.type el i ht hi A _ _ (Nat.le_refl _) _ hSrc, _, H, g, r, Fr.refl _ _ _, h.1 rfl⟩
    · obtain ⟨hroom, hf⟩ := h.2 h0
      obtain ⟨h63, hfit⟩ := fits (cap := xs.length) hroom (by omega)
      have hold : (Builtin.firstCells i.size xs.length (.slice A xs.length xs.length)).run P w.drew = .ok olds.toArray w.drew := by
        cases A with
        | none => obtain ⟨h1, rfl⟩ := hA; rw [run_firstCells_none]
        | some b => exact run_firstCells_some w.drew i.size xs.length b _ _ olds (by rw [hro.1, hol, hsz]) (fun j u hu => by simpa using hA.2 j u hu)
      have hgr := run_append_grow_src w t tx o.type el i z ht hi hz A xs.length xs.length olds hold (a.eval x) n news hSrc (by omega) h63 hfit
      obtain ⟨h1, h2, h3⟩ := grow_new g (el := el) (len := xs.length) (n := n) hz1 hzs hro hrn hx1 hn1 hol hnl (c := grownCap w (xs.length + n) xs.length el) (grownCap_ge _ _ _ _)
      exact ⟨_, _, hgr, _, _, h2, .sl _ _ _ _, h3, hf _ _ h1 (grownCap_ge _ _ _ _)⟩
  · rename_i b off len cap hs
    rw [hs] at rs
    have r : R K (.sl b off len cap) (a.eval s) := rs
    split at h
    · rename_i cs m hH
      obtain ⟨⟨hle, hm, ho1⟩, hroomy, hgrow⟩ := h
      obtain ⟨A, c, olds, hv, hro, hol, hA⟩ := src_cells (H := H) (size := ei.size) (n := len) (ns := (cs.drop off).take (len * ei.size)) g rs (by by_cases h0 : len = 0 <;> simp [srcL, hH, hle, h0]) (by simp)
      have hv' : a.eval s = .slice (some ⟨b, off, none⟩) len cap := by generalize a.eval s = u at r; cases r; rfl
      rw [hv'] at hv ⊢
      simp at hv
      obtain ⟨rfl, rfl⟩ := hv
      rcases Nat.lt_or_ge cap (len + n) with hlt | hge
      · obtain ⟨hroom, hf⟩ := hgrow hlt
        obtain ⟨h63, hfit⟩ := fits hroom hlt
        have hold : (Builtin.firstCells i.size len (.slice (some ⟨b, off, none⟩) len cap)).run P w.drew = .ok olds.toArray w.drew :=
          run_firstCells_some w.drew i.size len _ _ _ olds (by rw [hro.1, hol, hsz]) (fun j u hu => by simpa using hA.2 j u hu)
        have hgr := run_append_grow_src w t tx o.type el i z ht hi hz (some ⟨b, off, none⟩) len cap olds hold (a.eval x) n news hSrc hlt h63 hfit
        obtain ⟨g1, f1⟩ := g.delH b
        obtain ⟨h1, h2, h3⟩ := grow_new g1 (el := el) (len := len) (n := n) hz1 hzs hro hrn ho1 hn1 hol hnl (c := grownCap w (len + n) cap el) (grownCap_ge _ _ _ _)
        have hHn : H w.heap.size = none := by
          cases hh : H w.heap.size with
          | none => rfl
          | some ob => exact absurd (g.own _ _ hh).lt (Nat.lt_irrefl _)
        exact ⟨_, _, hgr, _, _, h2, .sl _ _ _ _, f1.trans h3, hf _ _ hHn (grownCap_ge _ _ _ _)⟩
      · have hoo := g.own b _ hH
        have hmul : (len + n) * ei.size ≤ cap * ei.size := Nat.mul_le_mul_right _ hge
        have hbound : off + len * ei.size + ns.length ≤ m := by rw [hnl]; rw [Nat.add_mul] at hmul; omega
        obtain ⟨h2, h3, h4⟩ := own_store (P := P) (k := off + len * ei.size) hoo hrn hSrc.one hle hbound
        obtain ⟨arr, T', fz, hb, hsize, hle', hcs, hfz⟩ := hoo
        have hrun := run_append_room_src w t tx o.type el i ht hi b off len cap (a.eval x) n news hSrc hge (fun j hj => by
            have : off + len * i.size + j < arr.size := by rw [hsz]; rw [hrn.1] at hj; omega
            simp [World.cell?, hb]; omega) (fun j hj => hfz _)
        rw [hsz] at hrun
        obtain ⟨g', f'⟩ := g.wroteH (by rw [hH]; rfl) h3 h4
        exact ⟨_, _, hrun, _, _, g', .sl _ _ _ _, f', hroomy hge⟩
    · exact h.elim
  · exact h.elim

/-- make([]T, l, c). -/
theorem step_makeSlice {T : Tab} (hT : TOK P T) {t el : TypeId} {l c : Operand} {ti ei : TI} {kl kc : IntKind} {ln cn : Int} (ho : o.op = .makeSlice t l c) (hti : T t = some ti) (hk : ti.kind = .slice el) (hei : T el = some ei)
    (hl : ev e l = .int kl ln) (hc : ev e c = .int kc cn) (h0 : 0 ≤ ln) (hlc : ln ≤ cn) (hb : (ei.bytes : Int) * cn ≤ 281474976710656) (h63 : cn ≤ 9223372036854775807)
    {Q : LV → Box → OHeap → Prop} (h : ∀ b, H b = none → Q (.sl b 0 ln.toNat cn.toNat) B (setH H b (.cells (zerosL ei.zero cn.toNat) (cn.toNat * ei.size)))) : Step P o e B H Q := by
  intro K jj w a N g te
  obtain ⟨d, hd, hkd⟩ := (hT t ti hti).und
  have ht : P.underlying t = some (.slice el) := by rw [hd]; rw [hk] at hkd; rw [ofDesc_slice hkd]
  obtain ⟨i, z, hi, hsz, hby, hz, hzs, hzr, hz1⟩ := TIok.zero_one (K := K) (w := w) hT hei
  have rl := te.ev l; rw [hl] at rl
  have rc := te.ev c; rw [hc] at rc
  have hrun := run_make (P := P) w t el i z ht hi hz kl kc ln cn h0 hlc (by rw [hby]; exact hb) h63
  have hlen : ei.zero.length = ei.size := (hT el ei hei).len
  have hzz := Rs.zeros hzr cn.toNat (.inr trivial)
  have hmade : madeCells z.cells (cn.toNat * i.size) = (Array.range (cn.toNat * ei.zero.length)).map (z.cells[· % z.cells.size]!) := by unfold madeCells; rw [hsz, hlen]
  rw [← hmade] at hzz
  have hasz : (madeCells z.cells (cn.toNat * i.size)).size = cn.toNat * ei.size := by simp [madeCells, hsz]
  have hown := ownObj.alloc (w := w) (T := el) (arr := madeCells z.cells (cn.toNat * i.size)) (cs := zerosL ei.zero cn.toNat) (K := K)
    (by rw [List.take_of_length_le (by rw [Array.length_toList, hasz, zerosL_length, hlen]; exact Nat.le_refl _)]; exact hzz)
    (by rw [hasz, zerosL_length, hlen]; exact Nat.le_refl _)
    (hzz.one (List.all_eq_true.2 (zerosL_one (fun x hx => (hT el ei hei).one x hx) _)))
  rw [hasz] at hown
  obtain ⟨h1, h2, h3⟩ := g.newH hown
  refine ⟨_, _, _, ?_, .inl rfl, _, _, _, K, jj, h2, (R.sl _ _ _ _).re, te, h3, h _ h1⟩
  simp only [execOp, ho, rl.int, rc.int]
  exact run_value hrun

/-- What of a source is copied, at most. -/
def cutL (k : Nat) : LV → LV
  | .sl b o l c => .sl b o (min l k) c
  | x => x
theorem min_cut (l k : Nat) : min (min l k) k = min l k := by omega

/-- copy. -/
theorem step_copy {T : Tab} (hT : TOK P T) {t tx el : TypeId} {s x : Operand} {ti ei : TI} (ho : o.op = .call ⟨.builtin .copy, #[s, x], #[t, tx]⟩) (hti : T t = some ti) (hk : ti.kind = .slice el) (hei : T el = some ei)
    {b off len cap n m : Nat} {cs ns : List LV} (hs : ev e s = .sl b off len cap) (hH : H b = some (.cells cs m)) (hx : srcL H ei.size (cutL len (ev e x)) = some (n, ns)) (hstr : ∀ s, ev e x ≠ .str s) (hn1 : ns.all LV.one = true)
    (hle : off ≤ cs.length) (hm : off + min n len * ei.size ≤ m)
    {Q : LV → Box → OHeap → Prop} (h : Q (.int .i64 (min n len : Nat)) B (setH H b (.cells (seg cs off (ns.take (min n len * ei.size))) m))) : Step P o e B H Q := by
  intro K jj w a N g te
  obtain ⟨d, hd, hkd⟩ := (hT t ti hti).und
  have ht : P.underlying t = some (.slice el) := by rw [hd]; rw [hk] at hkd; rw [ofDesc_slice hkd]
  have rs := te.ev s; rw [hs] at rs
  have r : R K (.sl b off len cap) (a.eval s) := rs
  have hv : a.eval s = .slice (some ⟨b, off, none⟩) len cap := by generalize a.eval s = u at r; cases r; rfl
  obtain ⟨A, nv, c, news, hvx, hnv, hrn, hnl, hA⟩ : ∃ A nv c news, a.eval x = .slice A nv c ∧ min nv len = min n len ∧ Rs K ns news ∧ ns.length = n * ei.size ∧ (match A with | some a => True ∧ ∀ (j : Nat) u, news[j]? = some u → w.cell? (a.add j) = some u | none => n = 0 ∧ news = []) := by
    have rx := te.ev x
    generalize ev e x = lx at hx hstr rx
    generalize a.eval x = vx at rx
    cases lx with
    | sl b' o' l' c' =>
      have rx' : R K (.sl b' o' l' c') vx := rx
      cases rx'
      obtain ⟨A, c, news, h1, h2, h3, h4⟩ := src_cells (w := w) (jj := jj) (B := B) (v := .slice (some ⟨b', o', none⟩) (min l' len) c') g (R.re (.sl b' o' (min l' len) c')) hx (by simp [cutL])
      simp at h1
      obtain ⟨rfl, rfl, rfl⟩ := h1
      exact ⟨_, l', c', news, rfl, by omega, h2, h3, h4⟩
    | _ =>
      obtain ⟨A, c, news, h1, h2, h3, h4⟩ := src_cells (w := w) g rx hx hstr
      exact ⟨A, n, c, news, h1, rfl, h2, h3, h4⟩
  have hmin : min n len ≤ n := Nat.min_le_left _ _
  have hmul : min n len * ei.size ≤ n * ei.size := Nat.mul_le_mul_right _ hmin
  have hrt := hrn.take (min n len * ei.size)
  have hone : ∀ v ∈ news.take (min n len * ei.size), v.oneCell' = true := fun v hv' => hrn.one hn1 v (List.mem_of_mem_take hv')
  have hl : (ns.take (min n len * ei.size)).length = min n len * ei.size := by rw [List.length_take, hnl]; omega
  obtain ⟨h2, h3, h4⟩ := own_store (P := P) (k := off) (g.own b _ hH) hrt hone hle (by rw [hl]; exact hm)
  obtain ⟨g', f'⟩ := g.wroteH (by rw [hH]; rfl) h3 h4
  refine ⟨.value (.int .i64 (min n len : Nat)), _, _, ?_, .inl rfl, _, _, _, K, jj, g', (R.int _ _).re, te, f', h⟩
  have hfc : (Builtin.firstCells ei.size (min n len) (a.eval x)).run P w = .ok (news.take (min n len * ei.size)).toArray w := by
    rw [hvx]
    cases A with
    | none => obtain ⟨h1, rfl⟩ := hA; rw [run_firstCells_none]; simp
    | some bb => exact run_firstCells_some w ei.size (min n len) bb _ _ _ (by rw [hrt.1, hl]) (fun j u hu => by
        rw [List.getElem?_take] at hu
        split at hu
        · exact hA.2 j u hu
        · simp at hu)
  simp only [execOp, ho]
  simp only [resolve, invoke, builtin]
  have : (Builtin.copy_ #[t, tx] o.type #[a.eval s, a.eval x]).run P w = .ok (goInt (min n len : Nat)) (w.setCells b off (news.take (min n len * ei.size))) := by
    rw [hv]
    have hlen : (Builtin.lenOf (a.eval x)).run P w = .ok nv w := by rw [hvx]; rfl
    have hmm : Nat.min nv len = min n len := hnv
    simp [Builtin.copy_, run_underlying ht, hlen, (hT el ei hei).run_size w, hmm, hfc, h2]
  simp [this]
  rfl

/-- clear of a slice. -/
theorem step_clear {T : Tab} (hT : TOK P T) {t el : TypeId} {s : Operand} {ti ei : TI} (ho : o.op = .call ⟨.builtin .clear, #[s], #[t]⟩) (hti : T t = some ti) (hk : ti.kind = .slice el) (hei : T el = some ei)
    {b off len cap m : Nat} {cs : List LV} (hs : ev e s = .sl b off len cap) (hH : H b = some (.cells cs m))
    (hle : off ≤ cs.length) (hm : off + len * ei.size ≤ m)
    {Q : LV → Box → OHeap → Prop} (h : Q (.tup []) B (setH H b (.cells (seg cs off (zerosL ei.zero len)) m))) : Step P o e B H Q := by
  intro K jj w a N g te
  obtain ⟨d, hd, hkd⟩ := (hT t ti hti).und
  have ht : P.underlying t = some (.slice el) := by rw [hd]; rw [hk] at hkd; rw [ofDesc_slice hkd]
  have rs := te.ev s; rw [hs] at rs
  have r : R K (.sl b off len cap) (a.eval s) := rs
  have hv : a.eval s = .slice (some ⟨b, off, none⟩) len cap := by generalize a.eval s = u at r; cases r; rfl
  obtain ⟨i, z, hi, hsz, hby, hz, hzs, hzr, hz1⟩ := TIok.zero_one (K := K) (w := w) hT hei
  have hlen : ei.zero.length = ei.size := (hT el ei hei).len
  have hzz := Rs.zeros hzr len (.inr trivial)
  have hzc : Builtin.zeroCells z.cells len = (Array.range (len * ei.zero.length)).map (z.cells[· % z.cells.size]!) := by unfold Builtin.zeroCells; rw [hzs, hlen]
  rw [← hzc] at hzz
  obtain ⟨h2, h3, h4⟩ := own_store (P := P) (k := off) (g.own b _ hH) hzz (hzz.one (List.all_eq_true.2 (zerosL_one (fun x hx => (hT el ei hei).one x hx) _))) hle (by rw [zerosL_length, hlen]; exact hm)
  obtain ⟨g', f'⟩ := g.wroteH (by rw [hH]; rfl) h3 h4
  have key : ∃ w', (Builtin.clear_ #[t] o.type #[a.eval s]).run P w = .ok (.tuple #[]) w' ∧ w' = w.setCells b off (Builtin.zeroCells z.cells len).toList := by
    rw [hv]
    cases len with
    | zero =>
      refine ⟨w, by simp [Builtin.clear_, run_underlying ht], ?_⟩
      simp [Builtin.zeroCells, World.setCells]
    | succ k =>
      refine ⟨_, ?_, rfl⟩
      simp [Builtin.clear_, run_underlying ht, zeroValue, typeInfo, hi, hz, h2]
  obtain ⟨w', hrun, rfl⟩ := key
  refine ⟨.value (.tuple #[]), _, _, ?_, .inl rfl, _, _, _, K, jj, g', (R.tup [] [] rfl (fun i x v h => by simp at h)).re, te, f', h⟩
  simp only [execOp, ho]
  simp [resolve, invoke, builtin, hrun]

end
end Go.Lv
/- Lv, part Km: maps whose keys are whole numbers, strings or truth values; ranges over them. Over any program; no condition. -/
namespace Go.Lv
open Go
set_option linter.unusedVariables false
set_option linter.unusedSimpArgs false

/-- Are two keys one? none: one cannot tell. -/
def keq : TK → LV → LV → Option Bool
  | .int _, .int k a, .int k' b => if k = k' then some (decide (a = b)) else none
  | .str, .str a, .str b => some (decide (a = b))
  | .bool, .bool a, .bool b => some (a == b)
  | _, _, _ => none
/-- Where a key stands. -/
def findL (kd : TK) (k : LV) : List (LV × LV × Nat) → Nat → Option (Option (Nat × LV))
  | [], _ => some none
  | x :: r, i => match keq kd k x.1 with
    | some true => some (some (i, x.2.1))
    | some false => findL kd k r (i + 1)
    | none => none
def TK.keyish : TK → Bool | .int _ | .str | .bool => true | _ => false
def zeroOne (ei : TI) : Option LV := if ei.kind.agg = true then some (.agg ei.zero) else match ei.zero with | [z] => some z | _ => none
def okL (ok : Bool) (v : LV) (b : Bool) : LV := if ok = true then .tup [v, .bool b] else v
@[simp] theorem okL_true (v : LV) (b : Bool) : okL true v b = .tup [v, .bool b] := rfl
@[simp] theorem okL_false (v : LV) (b : Bool) : okL false v b = v := rfl

/-- The operations on maps. -/
def mapS (T : Tab) (o : Oper) (e : Env) (H : OHeap) (Q : LV → OHeap → Prop) : Prop :=
  match o.op with
  | .makeMap _ none => ∀ b, H b = none → Q (.mp b) (setH H b (.map [] 0))
  | .mapUpdate t m k v => match T t with
    | some ti => match ti.kind with
      | .map kt _ => match T kt, ev e m with
        | some ki, .mp b => match H b with
          | some (.map es c) => (ki.kind.keyish = true ∧ (ev e k).glob = true ∧ (ev e v).glob = true) ∧ match findL ki.kind (ev e k) es 0 with
            | some none => Q .any (setH H b (.map (es ++ [(ev e k, ev e v, c)]) (c + 1)))
            | some (some (i, _)) => Q .any (setH H b (.map (es.modify i fun x => (x.1, ev e v, x.2.2)) c))
            | none => False
          | _ => False
        | _, _ => False
      | _ => False
    | none => False
  | .lookup t x k ok => match T t with
    | some ti => match ti.kind with
      | .map kt et => match T kt, T et with
        | some ki, some ei => (ki.kind.keyish = true ∧ (ev e k).glob = true) ∧
          match (match ev e x with | .nilm => some [] | .mp b => (match H b with | some (.map es _) => some es | _ => none) | _ => none) with
          | some es => match findL ki.kind (ev e k) es 0 with
            | some none => match zeroOne ei with
              | some z => Q (okL ok z false) H
              | none => False
            | some (some (_, v)) => Q (okL ok v true) H
            | none => False
          | none => False
        | _, _ => False
      | _ => False
    | none => False
  | .range t x => match T t with
    | some ti => match ti.kind, ev e x with
      | .map _ _, .mp b => match H b with
        | some (.map _ c) => ∀ r, H r = none → Q (.ptr r 0) (setH H r (.iter b c [] c))
        | _ => False
      | _, _ => False
    | none => False
  | .next it false => match ev e it with
    | .ptr r 0 => match H r with
      | some (.iter m since seen last) => match H m with
        | some (.map es c) => (seen = [] ∨ es = [] ∨ ∃ x ∈ es, x.2.2 < last) ∧
          ((∀ x ∈ es, x.2.2 ∉ seen → ¬ x.2.2 < since) → Q (.tup [.bool false]) H) ∧
          ∀ x ∈ es, x.2.2 ∉ seen → Q (.tup [.bool true, x.1, x.2.1]) (setH H r (.iter m since (seen ++ [x.2.2]) c))
        | _ => False
      | _ => False
    | _ => False
  | .entry it => match ev e it with
    | .ptr r 0 => match H r with
      | some (.iter m _ seen last) => match H m, seen.getLast? with
        | some (.map es c), some st => c = last ∧ match es.find? (fun x => x.2.2 == st) with
          | some x => Q (.tup [x.1, x.2.1]) H
          | none => False
        | _, _ => False
      | _ => False
    | _ => False
  | .mapEntry t m k => match T t with
    | some ti => match ti.kind with
      | .map kt et => match T kt, T et, ev e m with
        | some ki, some ei, .mp b => match H b with
          | some (.map es c) => (ki.kind.keyish = true ∧ (ev e k).glob = true) ∧ match findL ki.kind (ev e k) es 0 with
            | some none => match zeroOne ei with
              | some z => Q (.tup [z, .int .i64 c]) (setH H b (.map (es ++ [(ev e k, z, c)]) (c + 1)))
              | none => False
            | some (some (i, x)) => match es[i]? with
              | some y => Q (.tup [x, .int .i64 y.2.2]) (setH H b (.map es c))
              | none => False
            | none => False
          | _ => False
        | _, _, _ => False
      | _ => False
    | none => False
  | .entryStore _ m s v => match ev e m, ev e s with
    | .mp b, .int .i64 n => match H b with
      | some (.map es c) => (0 ≤ n ∧ (ev e v).glob = true) ∧ match es.findIdx? (fun x => decide (x.2.2 = n.toNat)) with
        | some i => Q .any (setH H b (.map (es.modify i fun x => (x.1, ev e v, x.2.2)) c))
        | none => False
      | _ => False
    | _, _ => False
  | .call c => match c.callee, c.args.toList, c.argTypes.toList with
    | .builtin .delete, [m, k], [t, _] => match T t with
      | some ti => match ti.kind with
        | .map kt _ => match T kt, ev e m with
          | some ki, .mp b => match H b with
            | some (.map es c) => (ki.kind.keyish = true ∧ (ev e k).glob = true) ∧ match findL ki.kind (ev e k) es 0 with
              | some none => Q (.tup []) (setH H b (.map es c))
              | some (some (i, _)) => Q (.tup []) (setH H b (.map (es.eraseIdx i) c))
              | none => False
            | _ => False
          | _, _ => False
        | _ => False
      | none => False
    | _, _, _ => False
  | _ => False

theorem mapS_mono {T : Tab} {o : Oper} {e : Env} {H : OHeap} {Q Q' : LV → OHeap → Prop} (hq : ∀ x H, Q x H → Q' x H) (h : mapS T o e H Q) : mapS T o e H Q' := by
  unfold mapS at h ⊢
  split at h
  · exact fun b hb => hq _ _ (h b hb)
  all_goals first | exact h.elim | skip
  all_goals repeat' split at h
  all_goals first
    | exact h.elim
    | exact h.2.elim
    | exact ⟨h.1, hq _ _ h.2⟩
    | exact fun r hr => hq _ _ (h r hr)
    | exact ⟨h.1, fun a => hq _ _ (h.2.1 a), fun x a b => hq _ _ (h.2.2 x a b)⟩

/-! ### Soundness -/
section
variable {P : Program} {o : Oper} {e : Env} {B : Box} {H : OHeap} {K : Know} {jj : Nat → Nat} {w : World} {T : Tab}

theorem bbeq (a b : ByteArray) : (a == b) = decide (a = b) := by
  have h : (a == b) = (a.data == b.data) := rfl
  have h2 : (a.data == b.data) = decide (a.data = b.data) := by rw [Bool.eq_iff_iff]; simp
  rw [h, h2]
  congr 1
  simp [ByteArray.ext_iff]
theorem keq_ok {d : TypeDesc} {kd : TK} (hd : TK.ofDesc d = kd) {k k' : LV} {v v' : Value} (hk : R K k v) (hk' : R K k' v') {b : Bool} (h : keq kd k k' = some b) : Instr.sameNow d v v' = some b := by
  unfold keq at h
  split at h
  · rename_i q k1 a k2 c
    rw [ofDesc_int hd]
    cases hk; cases hk'
    split at h
    · rename_i hkk
      simp at h; subst h
      simp [Instr.sameNow, hkk, beqd]
    · simp at h
  · rename_i a c
    rw [ofDesc_str hd]
    cases hk; cases hk'
    simp at h; subst h
    simp only [Instr.sameNow, bbeq]
  · rename_i a c
    rw [ofDesc_bool hd]
    cases hk; cases hk'
    simp at h; subst h
    rfl
  · simp at h

theorem findL_ok {d : TypeDesc} {kd : TK} (hd : TK.ofDesc d = kd) {k : LV} {kv : Value} (hk : R K k kv) : ∀ (m : List (LV × LV × Nat)) (es : List MapEntry) (n : Nat) (r : Option (Nat × LV)), es.length = m.length →
    (∀ (i : Nat) kx, m[i]? = some kx → ∃ en, es[i]? = some en ∧ R K kx.1 en.key ∧ R K kx.2.1 en.val ∧ en.born = kx.2.2) → findL kd k m n = some r →
    (r = none ∧ Instr.findNow d kv es n = some none) ∨ ∃ i x v, r = some (n + i, x) ∧ Instr.findNow d kv es n = some (some (n + i, v)) ∧ R K x v ∧ i < m.length ∧ ∃ en, es[i]? = some en ∧ Instr.sameNow d kv en.key = some true
  | [], es, n, r, hl, hE, h => by
    simp [findL] at h; subst h
    have : es = [] := List.eq_nil_of_length_eq_zero (by simpa using hl)
    subst this
    exact .inl ⟨rfl, rfl⟩
  | kx :: m, es, n, r, hl, hE, h => by
    cases es with
    | nil => simp at hl
    | cons en es =>
      obtain ⟨en', h0, h1, h2, h3⟩ := hE 0 kx rfl
      simp at h0; subst h0
      unfold findL at h
      cases hq : keq kd k kx.1 with
      | none => simp [hq] at h
      | some b =>
        have hs := keq_ok hd hk h1 hq
        cases b with
        | true =>
          simp [hq] at h; subst h
          exact .inr ⟨0, kx.2.1, en.val, rfl, by simp [Instr.findNow, hs], h2, by simp, en, rfl, hs⟩
        | false =>
          simp only [hq] at h
          rcases findL_ok hd hk m es (n + 1) r (by simpa using hl) (fun i kx' hi => by simpa using hE (i + 1) kx' (by simpa using hi)) h with ⟨rfl, hf⟩ | ⟨i, x, v, rfl, hf, hr, hi, en2, he2, hs2⟩
          · exact .inl ⟨rfl, by simp [Instr.findNow, hs, hf]⟩
          · refine .inr ⟨i + 1, x, v, by simp; omega, ?_, hr, by simp; omega, en2, by simpa using he2, hs2⟩
            simp only [Instr.findNow, hs, hf]
            congr 3
            omega

theorem run_checkKey {kt : TypeId} {ki : TI} (hki : TIok P kt ki) (hk : ki.kind.keyish = true) (b : Bool) (v : Value) (w : World) : (Instr.checkKey b 10000 kt v).run P w = .ok () w := by
  obtain ⟨d, h1, h2⟩ := hki.run_und
  rw [← h1] at hk
  unfold Instr.checkKey
  cases d <;> simp [TK.ofDesc, TK.keyish] at hk <;> cases v <;> simp [h2]

theorem sameBits_of {d : TypeDesc} {a b : Value} (h : Instr.sameNow d a b = some true) (hd : (TK.ofDesc d).keyish = true) : Instr.sameBits 10000 b a = true ∧ a = b := by
  unfold Instr.sameNow at h
  split at h
  · split at h
    · rename_i q k x k' y hk
      simp at h; subst hk; subst h
      exact ⟨by simp [Instr.sameBits], rfl⟩
    · simp at h
  · rw [bbeq] at h; simp at h; subst h; exact ⟨by simp [Instr.sameBits, bbeq], rfl⟩
  · simp at h; subst h; exact ⟨by simp [Instr.sameBits], rfl⟩
  · simp at h

theorem setOb_wrote {b : Nat} {ob : Obj} (hb : b < w.heap.size) : Wrote w b (Lv.setOb w b ob) := ⟨rfl, rfl, rfl, setOb_size, fun b' h => setOb_other h⟩
theorem run_unit {s : Sem Unit} {w w' : World} (h : s.run P w = .ok () w') : (do s; pure Next.skip : Sem Next).run P w = .ok .skip w' := by simp [h]

theorem step_makeMap {t : TypeId} (ho : o.op = .makeMap t none) {Q : LV → Box → OHeap → Prop} (h : ∀ b, H b = none → Q (.mp b) B (setH H b (.map [] 0))) : Step P o e B H Q := by
  intro K jj w a N g te
  have hown : ownObj K (w.alloc (.map #[] 0)) w.heap.size (.map [] 0) := ⟨#[], World.alloc_heap_new _ _, rfl, fun i kx hx => by simp at hx⟩
  obtain ⟨h1, h2, h3⟩ := g.newH hown
  refine ⟨_, _, _, ?_, .inl rfl, _, _, _, K, jj, h2, (R.mp _).re, te, h3, h _ h1⟩
  simp only [execOp, ho]
  exact run_value (w' := w.alloc (.map #[] 0)) rfl

theorem step_mapUpdate (hT : TOK P T) {t kt et : TypeId} {m k v : Operand} {ti ki : TI} (ho : o.op = .mapUpdate t m k v) (hti : T t = some ti) (hk : ti.kind = .map kt et) (hki : T kt = some ki) (hkey : ki.kind.keyish = true) {b c : Nat} {es : List (LV × LV × Nat)} (hm : ev e m = .mp b) (hH : H b = some (.map es c))
    (hgk : (ev e k).glob = true) (hgv : (ev e v).glob = true) {r : Option (Nat × LV)} (hf : findL ki.kind (ev e k) es 0 = some r) {Q : LV → Box → OHeap → Prop}
    (hn : r = none → Q .any B (setH H b (.map (es ++ [(ev e k, ev e v, c)]) (c + 1)))) (hs : ∀ i x, r = some (i, x) → Q .any B (setH H b (.map (es.modify i fun x => (x.1, ev e v, x.2.2)) c))) : Step P o e B H Q := by
  intro K jj w a N g te
  obtain ⟨arr, h1, h2, h3⟩ := g.own b _ hH
  have hlt : b < w.heap.size := (Array.getElem?_eq_some_iff.1 h1).1
  have rk : R K (ev e k) (a.eval k) := (te.ev k).r (LV.glob_bp hgk)
  have rv : R K (ev e v) (a.eval v) := (te.ev v).r (LV.glob_bp hgv)
  have em : a.eval m = .map (some b) := by
    have r := te.ev m; rw [hm] at r
    have r' : R K (.mp b) (a.eval m) := r
    generalize a.eval m = u at r'; cases r'; rfl
  obtain ⟨d, hd1, hd2⟩ := (hT kt ki hki).run_und
  have hfind := findL_ok hd1 rk es arr.toList 0 r (by simpa using h2) (fun i kx hi => by simpa using h3 i kx hi) hf
  have hrun0 : ∀ {u : World}, (execOp a.eval o).run P w = (do Instr.mapUpdate t (.map (some b)) (a.eval k) (a.eval v); pure Next.skip : Sem Next).run P w := by
    intro _; simp only [execOp, ho, em]
  rcases hfind with ⟨rfl, hfn⟩ | ⟨i, x, vv, rfl, hfn, hx, hi, en, hen, hsame⟩
  · have hrun : (Instr.mapUpdate t (.map (some b)) (a.eval k) (a.eval v)).run P w = .ok () (Lv.setOb w b (.map (arr.push { key := a.eval k, val := a.eval v, born := c }) (c + 1))) := by
      simp [Instr.mapUpdate, (hT t ti hti).run_map hk, getObj, Sem.run, h1, run_checkKey (hT kt ki hki) hkey, Instr.findKey, hd2, hfn, setObj, Lv.setOb]
    have hown : ownObj K (Lv.setOb w b (.map (arr.push { key := a.eval k, val := a.eval v, born := c }) (c + 1))) b (.map (es ++ [(ev e k, ev e v, c)]) (c + 1)) := by
      refine ⟨_, setOb_same hlt, by simp [h2], fun j kx hj => ?_⟩
      rcases Nat.lt_trichotomy j es.length with hlt' | heq | hgt
      · rw [List.getElem?_append_left hlt'] at hj
        obtain ⟨en, a1, a2⟩ := h3 j kx hj
        exact ⟨en, by rw [Array.getElem?_push, if_neg (by omega)]; exact a1, a2⟩
      · subst heq
        simp at hj; subst hj
        exact ⟨_, by rw [Array.getElem?_push, if_pos h2.symm], rk, rv, rfl⟩
      · rw [List.getElem?_eq_none (by simp; omega)] at hj; simp at hj
    obtain ⟨g', f'⟩ := g.wroteH (by rw [hH]; rfl) hown (setOb_wrote hlt)
    exact ⟨_, undef, _, by rw [hrun0 (u := w)]; exact run_unit hrun, .inr ⟨rfl, rfl⟩, .any, B, _, K, jj, g', (R.any _).re, te, f', hn rfl⟩
  · simp only [Nat.zero_add] at hfn hs
    obtain ⟨hsb, hke⟩ := sameBits_of hsame (by rw [hd1]; exact hkey)
    have hen' : arr[i]? = some en := by simpa using hen
    have hrun : (Instr.mapUpdate t (.map (some b)) (a.eval k) (a.eval v)).run P w = .ok () (Lv.setOb w b (.map (arr.modify i fun q => { q with key := a.eval k, val := a.eval v }) c)) := by
      simp [Instr.mapUpdate, (hT t ti hti).run_map hk, getObj, Sem.run, h1, run_checkKey (hT kt ki hki) hkey, Instr.findKey, hd2, hfn, setObj, Lv.setOb, hen', Instr.keyThatStays, hsb]
    have hown : ownObj K (Lv.setOb w b (.map (arr.modify i fun q => { q with key := a.eval k, val := a.eval v }) c)) b (.map (es.modify i fun x => (x.1, ev e v, x.2.2)) c) := by
      refine ⟨_, setOb_same hlt, by simp [h2], fun j kx hj => ?_⟩
      rw [List.getElem?_modify] at hj
      obtain ⟨kx0, hkx0, rfl⟩ := Option.map_eq_some_iff.1 hj
      obtain ⟨en2, a1, a2, a3, a4⟩ := h3 j kx0 hkx0
      rw [Array.getElem?_modify, a1]
      by_cases hij : i = j
      · subst hij
        rw [hen'] at a1; cases a1
        exact ⟨{ key := a.eval k, val := a.eval v, born := en.born }, by simp, by simp only [if_true]; rw [hke]; exact a2, by simp only [if_true]; exact rv, by simp only [if_true]; exact a4⟩
      · exact ⟨en2, by simp [hij], by simp only [if_neg hij]; exact a2, by simp only [if_neg hij]; exact a3, by simp only [if_neg hij]; exact a4⟩
    obtain ⟨g', f'⟩ := g.wroteH (by rw [hH]; rfl) hown (setOb_wrote hlt)
    exact ⟨_, undef, _, by rw [hrun0 (u := w)]; exact run_unit hrun, .inr ⟨rfl, rfl⟩, .any, B, _, K, jj, g', (R.any _).re, te, f', hs i x (by simp)⟩

theorem zeroOne_ok {et : TypeId} {ei : TI} (h : TIok P et ei) (K : Know) {z : LV} (hz : zeroOne ei = some z) : ∃ v, (∀ w, (zeroValue et).run P w = .ok v w) ∧ R K z v := by
  obtain ⟨v, h1, h2, h3, h4, h5, h6⟩ := h.run_zero K
  refine ⟨v, h1, ?_⟩
  unfold zeroOne at hz
  split at hz
  · rename_i ha
    simp at hz; subst hz
    have r : R K (.agg ei.zero) (.agg v.cells.toList.toArray) := .agg _ _ h2.1 h2.2
    rw [h4 ha]
    simpa using r
  · rename_i ha
    split at hz
    · rename_i z' hzz
      simp at hz; subst hz
      obtain ⟨x, hx, hr, _⟩ := h5 (by simpa using ha)
      rw [hzz] at hx
      simp at hx; subst hx
      exact hr
    · simp at hz

theorem step_lookup (hT : TOK P T) {t kt et : TypeId} {x k : Operand} {ok : Bool} {ti ki ei : TI} (ho : o.op = .lookup t x k ok) (hti : T t = some ti) (hk : ti.kind = .map kt et) (hki : T kt = some ki) (hei : T et = some ei) (hkey : ki.kind.keyish = true) (hgk : (ev e k).glob = true) {es : List (LV × LV × Nat)}
    (hm : (ev e x = .nilm ∧ es = []) ∨ ∃ b c, ev e x = .mp b ∧ H b = some (.map es c)) {r : Option (Nat × LV)} (hf : findL ki.kind (ev e k) es 0 = some r) {Q : LV → Box → OHeap → Prop}
    (hn : r = none → ∃ z, zeroOne ei = some z ∧ Q (okL ok z false) B H) (hs : ∀ i v, r = some (i, v) → Q (okL ok v true) B H) : Step P o e B H Q := by
  intro K jj w a N g te
  have rk : R K (ev e k) (a.eval k) := (te.ev k).r (LV.glob_bp hgk)
  obtain ⟨d, hd1, hd2⟩ := (hT kt ki hki).run_und
  have hres : ∀ x v (fl : Bool), R K x v → R K (okL ok x fl) (if ok = true then .tuple #[v, .bool fl] else v) := fun x v fl hr => by
    cases ok
    · exact hr
    · exact .tup [x, .bool fl] [v, .bool fl] rfl (fun i y u hy hu => by
        match i with
        | 0 => simp at hy hu; subst hy; subst hu; exact hr
        | 1 => simp at hy hu; subst hy; subst hu; exact .bool _
        | i + 2 => simp at hy)
  rcases hm with ⟨hx, rfl⟩ | ⟨b, c, hx, hH⟩
  · have eu : a.eval x = .map none := by
      have r := te.ev x; rw [hx] at r
      have r' : R K .nilm (a.eval x) := r
      generalize a.eval x = u at r'; cases r'; rfl
    simp [findL] at hf; subst hf
    obtain ⟨z, hz, hq⟩ := hn rfl
    obtain ⟨v, hv, hr⟩ := zeroOne_ok (hT et ei hei) K hz
    refine ⟨_, _, w, ?_, .inl rfl, _, B, H, K, jj, g, (hres z v false hr).re, te, Fr.refl _ _ _, hq⟩
    simp only [execOp, ho, eu]
    exact run_value (by simp [Instr.lookup, (hT t ti hti).run_map hk, run_checkKey (hT kt ki hki) hkey, Instr.findKey, hd2, Instr.findNow, hv w])
  · have eu : a.eval x = .map (some b) := by
      have r := te.ev x; rw [hx] at r
      have r' : R K (.mp b) (a.eval x) := r
      generalize a.eval x = u at r'; cases r'; rfl
    obtain ⟨arr, h1, h2, h3⟩ := g.own b _ hH
    have hfind := findL_ok hd1 rk es arr.toList 0 r (by simpa using h2) (fun i kx hi => by simpa using h3 i kx hi) hf
    rcases hfind with ⟨rfl, hfn⟩ | ⟨i, y, v, rfl, hfn, hr, _⟩
    · obtain ⟨z, hz, hq⟩ := hn rfl
      obtain ⟨v, hv, hr⟩ := zeroOne_ok (hT et ei hei) K hz
      refine ⟨_, _, w, ?_, .inl rfl, _, B, H, K, jj, g, (hres z v false hr).re, te, Fr.refl _ _ _, hq⟩
      simp only [execOp, ho, eu]
      exact run_value (by simp [Instr.lookup, (hT t ti hti).run_map hk, getObj, Sem.run, h1, run_checkKey (hT kt ki hki) hkey, Instr.findKey, hd2, hfn, hv w])
    · refine ⟨_, _, w, ?_, .inl rfl, _, B, H, K, jj, g, (hres y v true hr).re, te, Fr.refl _ _ _, hs _ _ rfl⟩
      simp only [execOp, ho, eu]
      exact run_value (by simp [Instr.lookup, (hT t ti hti).run_map hk, getObj, Sem.run, h1, run_checkKey (hT kt ki hki) hkey, Instr.findKey, hd2, hfn])

theorem step_range (hT : TOK P T) {t kt et : TypeId} {x : Operand} {ti : TI} (ho : o.op = .range t x) (hti : T t = some ti) (hk : ti.kind = .map kt et) {b c : Nat} {es : List (LV × LV × Nat)} (hx : ev e x = .mp b) (hH : H b = some (.map es c))
    {Q : LV → Box → OHeap → Prop} (h : ∀ r, H r = none → Q (.ptr r 0) B (setH H r (.iter b c [] c))) : Step P o e B H Q := by
  intro K jj w a N g te
  have eu : a.eval x = .map (some b) := by
    have r := te.ev x; rw [hx] at r
    have r' : R K (.mp b) (a.eval x) := r
    generalize a.eval x = u at r'; cases r'; rfl
  obtain ⟨arr, h1, h2, h3⟩ := g.own b _ hH
  have hown : ownObj K (w.alloc (.mapIter (some b) c #[] c)) w.heap.size (.iter b c [] c) := World.alloc_heap_new _ _
  obtain ⟨k1, k2, k3⟩ := g.newH hown
  refine ⟨_, _, _, ?_, .inl rfl, _, _, _, K, jj, k2, (R.ptr _ _).re, te, k3, h _ k1⟩
  simp only [execOp, ho, eu]
  refine run_value (w' := w.alloc (.mapIter (some b) c #[] c)) (v := .pointer (some ⟨w.heap.size, 0, none⟩)) ?_
  simp [Instr.range, (hT t ti hti).run_map hk, getObj, Sem.run, h1]

theorem step_entry {it : Operand} (ho : o.op = .entry it) {r m since c st : Nat} {seen : List Nat} {es : List (LV × LV × Nat)} (hi : ev e it = .ptr r 0) (hr : H r = some (.iter m since seen c)) (hm : H m = some (.map es c)) (hl : seen.getLast? = some st)
    {y : LV × LV × Nat} (hy : es.find? (fun x => x.2.2 == st) = some y) {Q : LV → Box → OHeap → Prop} (h : Q (.tup [y.1, y.2.1]) B H) : Step P o e B H Q := by
  intro K jj w a N g te
  have eu : a.eval it = .pointer (some ⟨r, 0, none⟩) := by
    have q := te.ev it; rw [hi] at q
    have q' : R K (.ptr r 0) (a.eval it) := q
    generalize a.eval it = u at q'; cases q'; rfl
  have h1 : w.heap[r]? = some (.mapIter (some m) since seen.toArray c) := g.own r _ hr
  obtain ⟨arr, h2, h3, h4⟩ := g.own m _ hm
  have hfind : ∃ en, arr.find? (fun x => x.born == st) = some en ∧ R K y.1 en.key ∧ R K y.2.1 en.val := by
    rw [← Array.find?_toList]
    have key : ∀ (es : List (LV × LV × Nat)) (l : List MapEntry), l.length = es.length → (∀ (i : Nat) kx, es[i]? = some kx → ∃ en, l[i]? = some en ∧ R K kx.1 en.key ∧ R K kx.2.1 en.val ∧ en.born = kx.2.2) →
        es.find? (fun x => x.2.2 == st) = some y → ∃ en, l.find? (fun x => x.born == st) = some en ∧ R K y.1 en.key ∧ R K y.2.1 en.val := by
      intro es
      induction es with
      | nil => intro l _ _ h; simp at h
      | cons k es ih =>
        intro l hl hE hf
        cases l with
        | nil => simp at hl
        | cons en l =>
          obtain ⟨en', a0, a1, a2, a3⟩ := hE 0 k rfl
          simp at a0; subst a0
          simp only [List.find?_cons] at hf ⊢
          rw [a3]
          split at hf
          · cases hf; exact ⟨en, rfl, a1, a2⟩
          · exact ih l (by simpa using hl) (fun i kx hi => by simpa using hE (i + 1) kx (by simpa using hi)) hf
    exact key es arr.toList (by simpa using h3) (fun i kx hi => by simpa using h4 i kx hi) hy
  obtain ⟨en, hen, ra, rb⟩ := hfind
  refine ⟨_, .tuple #[en.key, en.val], w, ?_, .inl rfl, _, B, H, K, jj, g, (R.tup [y.1, y.2.1] [en.key, en.val] rfl (fun i u v hu hv => by
    match i with
    | 0 => simp at hu hv; subst hu; subst hv; exact ra
    | 1 => simp at hu hv; subst hu; subst hv; exact rb
    | i + 2 => simp at hu)).re, te, Fr.refl _ _ _, h⟩
  simp only [execOp, ho, eu]
  refine run_value ?_
  simp [Instr.entry, getObj, Sem.run, h1, h2, hl, hen]

theorem run_choose_lt (n : Nat) (hn : 0 < n) (w : World) : ∃ i w1, (choose (.mapNext n)).run P w = .ok i w1 ∧ i < n ∧ (w1 = w ∨ w1 = w.drew) := by
  rw [run_choose_drew]
  by_cases h : (Question.mapNext n).forced = true
  · rw [if_pos h]; exact ⟨0, w, rfl, hn, .inl rfl⟩
  · rw [if_neg h]; exact ⟨_, w.drew, rfl, by simp only [Question.cut]; exact Nat.mod_lt _ hn, .inr rfl⟩

theorem step_next {it : Operand} (ho : o.op = .next it false) {r m since last c : Nat} {seen : List Nat} {es : List (LV × LV × Nat)} (hi : ev e it = .ptr r 0) (hr : H r = some (.iter m since seen last)) (hm : H m = some (.map es c))
    (hns : seen = [] ∨ es = [] ∨ ∃ x ∈ es, x.2.2 < last) {Q : LV → Box → OHeap → Prop} (h0 : (∀ x ∈ es, x.2.2 ∉ seen → ¬ x.2.2 < since) → Q (.tup [.bool false]) B H)
    (h1 : ∀ x ∈ es, x.2.2 ∉ seen → Q (.tup [.bool true, x.1, x.2.1]) B (setH H r (.iter m since (seen ++ [x.2.2]) c))) : Step P o e B H Q := by
  intro K jj w a N g te
  have eu : a.eval it = .pointer (some ⟨r, 0, none⟩) := by
    have q := te.ev it; rw [hi] at q
    have q' : R K (.ptr r 0) (a.eval it) := q
    generalize a.eval it = u at q'; cases q'; rfl
  have k1 : w.heap[r]? = some (.mapIter (some m) since seen.toArray last) := g.own r _ hr
  obtain ⟨arr, k2, k3, k4⟩ := g.own m _ hm
  obtain ⟨cand, hcand⟩ : ∃ cand : Array (Option MapEntry), cand = (if ((arr.filter fun e => !seen.toArray.contains e.born).filter (·.born < since)).isEmpty then #[none] else #[]) ++
      (((arr.filter fun e => !seen.toArray.contains e.born).filter (·.born < since)) ++ ((arr.filter fun e => !seen.toArray.contains e.born).filter (·.born ≥ since))).map some := ⟨_, rfl⟩
  have hpos : 0 < cand.size := by
    rw [hcand]
    by_cases he : ((arr.filter fun e => !seen.toArray.contains e.born).filter (·.born < since)).isEmpty = true
    · rw [if_pos he]; simp only [Array.size_append]; simp; omega
    · rw [if_neg he]
      simp only [Array.size_append, Array.size_map]
      have : 0 < ((arr.filter fun e => !seen.toArray.contains e.born).filter (·.born < since)).size := by
        rw [Array.isEmpty_iff_size_eq_zero] at he; omega
      omega
  obtain ⟨i, w1, hch, hilt, hw1⟩ := run_choose_lt (P := P) cand.size hpos w
  have hheap : w1.heap = w.heap := by rcases hw1 with rfl | rfl <;> rfl
  have g1 : Good K jj B H w1 := by rcases hw1 with rfl | rfl; exact g; exact g.drew
  have f1 : Fr (dom H B jj) w K (dom H B jj) w1 K := by rcases hw1 with rfl | rfl; exact Fr.refl _ _ _; exact (Fr.refl _ _ _).drew
  have hbad : (!seen.toArray.isEmpty && !arr.isEmpty && arr.all (·.born ≥ last)) = false := by
    rcases hns with rfl | rfl | ⟨x, hx, hxl⟩
    · simp
    · have : arr = #[] := Array.eq_empty_of_size_eq_zero (by simpa using k3)
      subst this; simp
    · obtain ⟨j, hj, rfl⟩ := List.mem_iff_getElem.1 hx
      obtain ⟨en, a0, _, _, a3⟩ := k4 j es[j] (List.getElem?_eq_getElem hj)
      have : arr.all (·.born ≥ last) = false := by
        rw [Bool.eq_false_iff]
        intro hall
        rw [Array.all_eq_true] at hall
        obtain ⟨hlt, he⟩ := Array.getElem?_eq_some_iff.1 a0
        have := hall j hlt
        rw [he, a3] at this
        simp at this; omega
      rw [this, Bool.and_false]
  have hrun : ∀ v w', (match cand[i]? with
      | some (some e) => (do setObj r (.mapIter (some m) since (seen.toArray.push e.born) c); pure (.tuple #[.bool true, e.key, e.val]) : Sem Value)
      | some none => pure (.tuple #[.bool false])
      | none => stuck "Next: no such candidate" : Sem Value).run P w1 = .ok v w' → (execOp a.eval o).run P w = .ok (.value v) w' := fun v w' hv => by
    simp only [execOp, ho, eu]
    refine run_value ?_
    unfold Instr.next
    simp only [getObj, Sem.run_bind, Sem.run, k1, k2, Result.andThen_ok]
    rw [hbad]
    simp only [Bool.false_eq_true, if_false, Sem.run_bind, Sem.run_pure, Result.andThen_ok]
    rw [← hcand, hch]
    simp only [Result.andThen_ok]
    exact hv
  have hq : cand[i]? = some cand[i] := Array.getElem?_eq_getElem hilt
  have hmem : cand[i] ∈ cand := Array.getElem_mem hilt
  cases hc : cand[i] with
  | none =>
    rw [hc] at hq hmem
    have hold : ((arr.filter fun e => !seen.toArray.contains e.born).filter (·.born < since)).isEmpty = true := by
      rw [hcand] at hmem
      by_cases he : ((arr.filter fun e => !seen.toArray.contains e.born).filter (·.born < since)).isEmpty = true
      · exact he
      · rw [if_neg he] at hmem; simp at hmem
    refine ⟨_, .tuple #[.bool false], w1, hrun _ w1 (by rw [hq]; rfl), .inl rfl, _, B, H, K, jj, g1, (R.tup [.bool false] [.bool false] rfl (fun i u v hu hv => by
      match i with
      | 0 => simp at hu hv; subst hu; subst hv; exact .bool _
      | i + 1 => simp at hu)).re, te, f1, h0 fun x hx hxs hxl => ?_⟩
    obtain ⟨j, hj, rfl⟩ := List.mem_iff_getElem.1 hx
    obtain ⟨en, a0, _, _, a3⟩ := k4 j es[j] (List.getElem?_eq_getElem hj)
    have hin : en ∈ (arr.filter fun e => !seen.toArray.contains e.born).filter (·.born < since) := by
      rw [Array.mem_filter, Array.mem_filter]
      exact ⟨⟨Array.mem_of_getElem? a0, by simpa [a3] using hxs⟩, by simpa [a3] using hxl⟩
    rw [Array.isEmpty_iff] at hold
    rw [hold] at hin
    simp at hin
  | some en =>
    rw [hc] at hq hmem
    have hin : en ∈ arr.filter fun e => !seen.toArray.contains e.born := by
      rw [hcand, Array.mem_append] at hmem
      rcases hmem with hmem | hmem
      · split at hmem <;> simp at hmem
      · rw [Array.mem_map] at hmem
        obtain ⟨x, hx, hxe⟩ := hmem
        cases hxe
        rw [Array.mem_append] at hx
        rcases hx with hx | hx
        · exact (Array.mem_filter.1 hx).1
        · exact (Array.mem_filter.1 hx).1
    obtain ⟨hin1, hin2⟩ := Array.mem_filter.1 hin
    obtain ⟨j, hj, hje⟩ := Array.mem_iff_getElem.1 hin1
    have hje' : es[j]? = some es[j] := List.getElem?_eq_getElem (by omega)
    obtain ⟨en', a0, a1, a2, a3⟩ := k4 j es[j] hje'
    rw [Array.getElem?_eq_getElem hj, hje] at a0
    cases a0
    have hns' : es[j].2.2 ∉ seen := by rw [← a3]; simpa using hin2
    have hlt : r < w1.heap.size := by rw [hheap]; exact (Array.getElem?_eq_some_iff.1 k1).1
    have hown : ownObj K (Lv.setOb w1 r (.mapIter (some m) since (seen.toArray.push en.born) c)) r (.iter m since (seen ++ [es[j].2.2]) c) := by
      show (Lv.setOb w1 r _).heap[r]? = _
      rw [setOb_same hlt, a3]
      simp
    obtain ⟨g2, f2⟩ := g1.wroteH (by rw [hr]; rfl) hown (setOb_wrote hlt)
    refine ⟨_, .tuple #[.bool true, en.key, en.val], _, hrun _ (Lv.setOb w1 r (.mapIter (some m) since (seen.toArray.push en.born) c)) (by rw [hq]; simp [setObj, Sem.run, hheap, k1, Lv.setOb]), .inl rfl, _, B, _, K, jj, g2, (R.tup [.bool true, es[j].1, es[j].2.1] [.bool true, en.key, en.val] rfl (fun i u v hu hv => by
      match i with
      | 0 => simp at hu hv; subst hu; subst hv; exact .bool _
      | 1 => simp at hu hv; subst hu; subst hv; exact a1
      | 2 => simp at hu hv; subst hu; subst hv; exact a2
      | i + 3 => simp at hu)).re, te, f1.trans f2, h1 es[j] (List.mem_of_getElem? hje') hns'⟩

/-- delete. -/
theorem step_delete (hT : TOK P T) {t kt et : TypeId} {m k : Operand} {ti ki : TI} {ts : TypeId} (ho : o.op = .call ⟨.builtin .delete, #[m, k], #[t, ts]⟩) (hti : T t = some ti) (hk : ti.kind = .map kt et) (hki : T kt = some ki) (hkey : ki.kind.keyish = true) {b c : Nat} {es : List (LV × LV × Nat)} (hm : ev e m = .mp b) (hH : H b = some (.map es c))
    (hgk : (ev e k).glob = true) {r : Option (Nat × LV)} (hf : findL ki.kind (ev e k) es 0 = some r) {Q : LV → Box → OHeap → Prop}
    (hn : r = none → Q (.tup []) B (setH H b (.map es c))) (hs : ∀ i x, r = some (i, x) → Q (.tup []) B (setH H b (.map (es.eraseIdx i) c))) : Step P o e B H Q := by
  intro K jj w a N g te
  obtain ⟨arr, h1, h2, h3⟩ := g.own b _ hH
  have hlt : b < w.heap.size := (Array.getElem?_eq_some_iff.1 h1).1
  have rk : R K (ev e k) (a.eval k) := (te.ev k).r (LV.glob_bp hgk)
  have em : a.eval m = .map (some b) := by
    have r := te.ev m; rw [hm] at r
    have r' : R K (.mp b) (a.eval m) := r
    generalize a.eval m = u at r'; cases r'; rfl
  obtain ⟨d, hd1, hd2⟩ := (hT kt ki hki).run_und
  have hfind := findL_ok hd1 rk es arr.toList 0 r (by simpa using h2) (fun i kx hi => by simpa using h3 i kx hi) hf
  rcases hfind with ⟨rfl, hfn⟩ | ⟨i, x, vv, rfl, hfn, hx, hi, en, hen, hsame⟩
  · have hrun : (Builtin.delete_ #[t, ts] o.type #[.map (some b), a.eval k]).run P w = .ok (.tuple #[]) (Lv.setOb w b (.map arr c)) := by
      simp [Builtin.delete_, (hT t ti hti).run_map hk, getObj, Sem.run, h1, run_checkKey (hT kt ki hki) hkey, Instr.findKey, hd2, hfn, setObj, Lv.setOb]
    have hown : ownObj K (Lv.setOb w b (.map arr c)) b (.map es c) := ⟨_, setOb_same hlt, h2, h3⟩
    obtain ⟨g', f'⟩ := g.wroteH (by rw [hH]; rfl) hown (setOb_wrote hlt)
    exact ⟨.value (.tuple #[]), .tuple #[], _, by simp [execOp, ho, resolve, invoke, builtin, em, hrun], .inl rfl, .tup [], B, _, K, jj, g', (R.tup [] [] rfl (fun i x v h => by simp at h)).re, te, f', hn rfl⟩
  · simp only [Nat.zero_add] at hfn hs
    have hrun : (Builtin.delete_ #[t, ts] o.type #[.map (some b), a.eval k]).run P w = .ok (.tuple #[]) (Lv.setOb w b (.map (arr.eraseIdxIfInBounds i) c)) := by
      simp [Builtin.delete_, (hT t ti hti).run_map hk, getObj, Sem.run, h1, run_checkKey (hT kt ki hki) hkey, Instr.findKey, hd2, hfn, setObj, Lv.setOb]
    have hia : i < arr.size := by omega
    have hown : ownObj K (Lv.setOb w b (.map (arr.eraseIdxIfInBounds i) c)) b (.map (es.eraseIdx i) c) := by
      refine ⟨_, setOb_same hlt, by rw [Array.eraseIdxIfInBounds, dif_pos hia, Array.size_eraseIdx, List.length_eraseIdx, if_pos hi, h2], fun j kx hj => ?_⟩
      rw [List.getElem?_eraseIdx] at hj
      have hget : (arr.eraseIdxIfInBounds i)[j]? = if j < i then arr[j]? else arr[j + 1]? := by
        rw [Array.eraseIdxIfInBounds, dif_pos hia, Array.getElem?_eraseIdx]
      rw [hget]
      split at hj
      · rename_i hji; rw [if_pos hji]; exact h3 j kx hj
      · rename_i hji; rw [if_neg hji]; exact h3 (j + 1) kx hj
    obtain ⟨g', f'⟩ := g.wroteH (by rw [hH]; rfl) hown (setOb_wrote hlt)
    exact ⟨.value (.tuple #[]), .tuple #[], _, by simp [execOp, ho, resolve, invoke, builtin, em, hrun], .inl rfl, .tup [], B, _, K, jj, g', (R.tup [] [] rfl (fun i x v h => by simp at h)).re, te, f', hs i x (by simp)⟩

/-- m[k], as the first half of an assignment. -/
theorem step_mapEntry (hT : TOK P T) {t kt et : TypeId} {m k : Operand} {ti ki ei : TI} (ho : o.op = .mapEntry t m k) (hti : T t = some ti) (hk : ti.kind = .map kt et) (hki : T kt = some ki) (hei : T et = some ei) (hkey : ki.kind.keyish = true) {b c : Nat} {es : List (LV × LV × Nat)} (hm : ev e m = .mp b) (hH : H b = some (.map es c))
    (hgk : (ev e k).glob = true) {r : Option (Nat × LV)} (hf : findL ki.kind (ev e k) es 0 = some r) {Q : LV → Box → OHeap → Prop}
    (hn : r = none → ∃ z, zeroOne ei = some z ∧ Q (.tup [z, .int .i64 c]) B (setH H b (.map (es ++ [(ev e k, z, c)]) (c + 1)))) (hs : ∀ i x y, r = some (i, x) → es[i]? = some y → Q (.tup [x, .int .i64 y.2.2]) B (setH H b (.map es c))) : Step P o e B H Q := by
  intro K jj w a N g te
  obtain ⟨arr, h1, h2, h3⟩ := g.own b _ hH
  have hlt : b < w.heap.size := (Array.getElem?_eq_some_iff.1 h1).1
  have rk : R K (ev e k) (a.eval k) := (te.ev k).r (LV.glob_bp hgk)
  have em : a.eval m = .map (some b) := by
    have r := te.ev m; rw [hm] at r
    have r' : R K (.mp b) (a.eval m) := r
    generalize a.eval m = u at r'; cases r'; rfl
  obtain ⟨d, hd1, hd2⟩ := (hT kt ki hki).run_und
  have hfind := findL_ok hd1 rk es arr.toList 0 r (by simpa using h2) (fun i kx hi => by simpa using h3 i kx hi) hf
  have hpair : ∀ {x : LV} {v : Value} (n : Nat), R K x v → R K (.tup [x, .int .i64 n]) (.tuple #[v, goInt n]) := fun {x v} n hr => .tup [x, .int .i64 n] [v, goInt n] rfl (fun i y u hy hu => by
    match i with
    | 0 => simp at hy hu; subst hy; subst hu; exact hr
    | 1 => simp at hy hu; subst hy; subst hu; exact .int _ _
    | i + 2 => simp at hy)
  rcases hfind with ⟨rfl, hfn⟩ | ⟨i, x, vv, rfl, hfn, hx, hi, en, hen, hsame⟩
  · obtain ⟨z, hz, hq⟩ := hn rfl
    obtain ⟨v, hv, hr⟩ := zeroOne_ok (hT et ei hei) K hz
    have hrun : (Instr.mapEntry t (.map (some b)) (a.eval k)).run P w = .ok (.tuple #[v, goInt c]) (Lv.setOb w b (.map (arr.push { key := a.eval k, val := v, born := c }) (c + 1))) := by
      simp [Instr.mapEntry, (hT t ti hti).run_map hk, getObj, Sem.run, h1, run_checkKey (hT kt ki hki) hkey, Instr.findKey, hd2, hfn, setObj, Lv.setOb, hv w]
    have hown : ownObj K (Lv.setOb w b (.map (arr.push { key := a.eval k, val := v, born := c }) (c + 1))) b (.map (es ++ [(ev e k, z, c)]) (c + 1)) := by
      refine ⟨_, setOb_same hlt, by simp [h2], fun j kx hj => ?_⟩
      rcases Nat.lt_trichotomy j es.length with hlt' | heq | hgt
      · rw [List.getElem?_append_left hlt'] at hj
        obtain ⟨en, a1, a2⟩ := h3 j kx hj
        exact ⟨en, by rw [Array.getElem?_push, if_neg (by omega)]; exact a1, a2⟩
      · subst heq
        simp at hj; subst hj
        exact ⟨_, by rw [Array.getElem?_push, if_pos h2.symm], rk, hr, rfl⟩
      · rw [List.getElem?_eq_none (by simp; omega)] at hj; simp at hj
    obtain ⟨g', f'⟩ := g.wroteH (by rw [hH]; rfl) hown (setOb_wrote hlt)
    refine ⟨_, _, _, ?_, .inl rfl, _, B, _, K, jj, g', (hpair c hr).re, te, f', hq⟩
    simp only [execOp, ho, em]
    exact run_value hrun
  · simp only [Nat.zero_add] at hfn hs
    obtain ⟨hsb, hke⟩ := sameBits_of hsame (by rw [hd1]; exact hkey)
    have hen' : arr[i]? = some en := by simpa using hen
    obtain ⟨y, hy⟩ : ∃ y, es[i]? = some y := ⟨_, List.getElem?_eq_getElem hi⟩
    obtain ⟨en2, b1, b2, b3, b4⟩ := h3 i y hy
    rw [hen'] at b1; cases b1
    have hrun : (Instr.mapEntry t (.map (some b)) (a.eval k)).run P w = .ok (.tuple #[vv, goInt y.2.2]) (Lv.setOb w b (.map (arr.modify i fun q => { q with key := a.eval k }) c)) := by
      simp [Instr.mapEntry, (hT t ti hti).run_map hk, getObj, Sem.run, h1, run_checkKey (hT kt ki hki) hkey, Instr.findKey, hd2, hfn, setObj, Lv.setOb, hen', Instr.keyThatStays, hsb, b4]
    have hown : ownObj K (Lv.setOb w b (.map (arr.modify i fun q => { q with key := a.eval k }) c)) b (.map es c) := by
      refine ⟨_, setOb_same hlt, by simp [h2], fun j kx hj => ?_⟩
      obtain ⟨en2, a1, a2, a3, a4⟩ := h3 j kx hj
      rw [Array.getElem?_modify, a1]
      by_cases hij : i = j
      · subst hij
        rw [hen'] at a1; cases a1
        exact ⟨{ en with key := a.eval k }, by simp, by rw [hke]; exact a2, a3, a4⟩
      · exact ⟨en2, by simp [hij], a2, a3, a4⟩
    obtain ⟨g', f'⟩ := g.wroteH (by rw [hH]; rfl) hown (setOb_wrote hlt)
    refine ⟨_, _, _, ?_, .inl rfl, _, B, _, K, jj, g', (hpair _ hx).re, te, f', hs i x y (by simp) hy⟩
    simp only [execOp, ho, em]
    exact run_value hrun

/-- .. and its second half. -/
theorem step_entryStore {t : TypeId} {m s v : Operand} (ho : o.op = .entryStore t m s v) {b c n : Nat} {es : List (LV × LV × Nat)} (hm : ev e m = .mp b) (hH : H b = some (.map es c)) (hs : ev e s = .int .i64 n) (hgv : (ev e v).glob = true)
    {i : Nat} (hi : es.findIdx? (fun x => decide (x.2.2 = n)) = some i) {Q : LV → Box → OHeap → Prop} (h : Q .any B (setH H b (.map (es.modify i fun x => (x.1, ev e v, x.2.2)) c))) : Step P o e B H Q := by
  intro K jj w a N g te
  obtain ⟨arr, h1, h2, h3⟩ := g.own b _ hH
  have hlt : b < w.heap.size := (Array.getElem?_eq_some_iff.1 h1).1
  have rv : R K (ev e v) (a.eval v) := (te.ev v).r (LV.glob_bp hgv)
  have em : a.eval m = .map (some b) := by
    have r := te.ev m; rw [hm] at r
    have r' : R K (.mp b) (a.eval m) := r
    generalize a.eval m = u at r'; cases r'; rfl
  have es' : a.eval s = .int .i64 n := by have r := te.ev s; rw [hs] at r; exact r.int
  have hfind : arr.findIdx? (fun e => (e.born : Int) == (n : Int)) = some i := by
    rw [List.findIdx?_eq_some_iff_getElem] at hi
    obtain ⟨hil, hi1, hi2⟩ := hi
    rw [Array.findIdx?_eq_some_iff_getElem]
    refine ⟨by omega, ?_, fun j hj => ?_⟩
    · obtain ⟨en, a1, _, _, a4⟩ := h3 i _ (List.getElem?_eq_getElem hil)
      rw [Array.getElem?_eq_getElem (by omega)] at a1
      simp at a1 hi1
      rw [a1, a4, hi1]; simp
    · obtain ⟨en, a1, _, _, a4⟩ := h3 j _ (List.getElem?_eq_getElem (by omega))
      rw [Array.getElem?_eq_getElem (by omega)] at a1
      have := hi2 j hj
      simp at a1 this
      rw [a1, a4]
      simp; omega
  have hil : i < es.length := by rw [List.findIdx?_eq_some_iff_getElem] at hi; exact hi.1
  have hrun : (Instr.entryStore t (.map (some b)) (.int .i64 n) (a.eval v)).run P w = .ok () (Lv.setOb w b (.map (arr.modify i fun q => { q with val := a.eval v }) c)) := by
    simp [Instr.entryStore, getObj, Sem.run, h1, asInt, asIntOf, hfind, setObj, Lv.setOb]
  have hown : ownObj K (Lv.setOb w b (.map (arr.modify i fun q => { q with val := a.eval v }) c)) b (.map (es.modify i fun x => (x.1, ev e v, x.2.2)) c) := by
    refine ⟨_, setOb_same hlt, by simp [h2], fun j kx hj => ?_⟩
    rw [List.getElem?_modify] at hj
    obtain ⟨kx0, hkx0, rfl⟩ := Option.map_eq_some_iff.1 hj
    obtain ⟨en2, a1, a2, a3, a4⟩ := h3 j kx0 hkx0
    rw [Array.getElem?_modify, a1]
    by_cases hij : i = j
    · subst hij
      exact ⟨{ en2 with val := a.eval v }, by simp, by simp only [if_true]; exact a2, by simp only [if_true]; exact rv, by simp only [if_true]; exact a4⟩
    · exact ⟨en2, by simp [hij], by simp only [if_neg hij]; exact a2, by simp only [if_neg hij]; exact a3, by simp only [if_neg hij]; exact a4⟩
  obtain ⟨g', f'⟩ := g.wroteH (by rw [hH]; rfl) hown (setOb_wrote hlt)
  refine ⟨_, undef, _, ?_, .inr ⟨rfl, rfl⟩, .any, B, _, K, jj, g', (R.any _).re, te, f', h⟩
  simp only [execOp, ho, em, es']
  exact run_unit hrun

theorem mapS_sound (hT : TOK P T) {Q : LV → Box → OHeap → Prop} (h : mapS T o e H fun x H' => Q x B H') : Step P o e B H Q := by
  unfold mapS at h
  split at h
  · rename_i t ho; exact step_makeMap ho h
  · rename_i t m k v ho
    split at h
    · rename_i ti hti
      split at h
      · rename_i kt et hk
        split at h
        · rename_i ki b hki hm
          split at h
          · rename_i es c hH
            obtain ⟨⟨hkey, hgk, hgv⟩, h⟩ := h
            split at h
            · rename_i hf
              exact step_mapUpdate hT ho hti hk hki hkey hm hH hgk hgv hf (fun _ => h) (fun i x hx => by cases hx)
            · rename_i i x hf
              exact step_mapUpdate hT ho hti hk hki hkey hm hH hgk hgv hf (fun hx => by cases hx) (fun i x hx => by cases hx; exact h)
            · exact h.elim
          · exact h.elim
        · exact h.elim
      · exact h.elim
    · exact h.elim
  · rename_i t x k ok ho
    split at h
    · rename_i ti hti
      split at h
      · rename_i kt et hk
        split at h
        · rename_i ki ei hki hei
          obtain ⟨⟨hkey, hgk⟩, h⟩ := h
          split at h
          · rename_i es hes
            have hm : (ev e x = .nilm ∧ es = []) ∨ ∃ b c, ev e x = .mp b ∧ H b = some (.map es c) := by
              split at hes
              · rename_i hx; simp at hes; exact .inl ⟨hx, hes⟩
              · rename_i b hx
                split at hes
                · rename_i es' c hH; simp at hes; subst hes; exact .inr ⟨b, c, hx, hH⟩
                · simp at hes
              · simp at hes
            split at h
            · rename_i hf
              split at h
              · rename_i z hz
                exact step_lookup hT ho hti hk hki hei hkey hgk hm hf (fun _ => ⟨z, hz, h⟩) (fun i x hx => by cases hx)
              · exact h.elim
            · rename_i i v hf
              exact step_lookup hT ho hti hk hki hei hkey hgk hm hf (fun hx => by cases hx) (fun i x hx => by cases hx; exact h)
            · exact h.elim
          · exact h.elim
        · exact h.elim
      · exact h.elim
    · exact h.elim
  · rename_i t x ho
    split at h
    · rename_i ti hti
      split at h
      · rename_i kt et b hk hx
        split at h
        · rename_i es c hH
          exact step_range hT ho hti hk hx hH h
        · exact h.elim
      · exact h.elim
    · exact h.elim
  · rename_i it ho
    split at h
    · rename_i r hi
      split at h
      · rename_i m since seen last hr
        split at h
        · rename_i es c hm
          exact step_next ho hi hr hm h.1 h.2.1 h.2.2
        · exact h.elim
      · exact h.elim
    · exact h.elim
  · rename_i it ho
    split at h
    · rename_i r hi
      split at h
      · rename_i m since seen last hr
        split at h
        · rename_i es c st hm hl
          obtain ⟨rfl, h⟩ := h
          split at h
          · rename_i y hy
            exact step_entry ho hi hr hm hl hy h
          · exact h.elim
        · exact h.elim
      · exact h.elim
    · exact h.elim
  · rename_i t m k ho
    split at h
    · rename_i ti hti
      split at h
      · rename_i kt et hk
        split at h
        · rename_i ki ei b hki hei hm
          split at h
          · rename_i es c hH
            obtain ⟨⟨hkey, hgk⟩, h⟩ := h
            split at h
            · rename_i hf
              split at h
              · rename_i z hz
                exact step_mapEntry hT ho hti hk hki hei hkey hm hH hgk hf (fun _ => ⟨z, hz, h⟩) (fun i x y hx => by cases hx)
              · exact h.elim
            · rename_i i x hf
              split at h
              · rename_i y hy
                exact step_mapEntry hT ho hti hk hki hei hkey hm hH hgk hf (fun hx => by cases hx) (fun i x y' hx hy' => by cases hx; rw [hy] at hy'; cases hy'; exact h)
              · exact h.elim
            · exact h.elim
          · exact h.elim
        · exact h.elim
      · exact h.elim
    · exact h.elim
  · rename_i t m s v ho
    split at h
    · rename_i b n hm hs
      split at h
      · rename_i es c hH
        obtain ⟨⟨h0, hgv⟩, h⟩ := h
        split at h
        · rename_i i hi
          exact step_entryStore (n := n.toNat) ho hm hH (by rw [hs]; congr 1; omega) hgv hi h
        · exact h.elim
      · exact h.elim
    · exact h.elim
  · rename_i c ho
    split at h
    · rename_i m k t t2 hc ha ht
      obtain ⟨cal, args, ats⟩ := c
      simp only at hc ha ht
      have ha' : args = #[m, k] := by apply Array.ext'; simpa using ha
      have ht' : ats = #[t, t2] := by apply Array.ext'; simpa using ht
      subst hc; subst ha'; subst ht'
      split at h
      · rename_i ti hti
        split at h
        · rename_i kt et hk
          split at h
          · rename_i ki b hki hm
            split at h
            · rename_i es c hH
              obtain ⟨⟨hkey, hgk⟩, h⟩ := h
              split at h
              · rename_i hf
                exact step_delete hT ho hti hk hki hkey hm hH hgk hf (fun _ => h) (fun i x hx => by cases hx)
              · rename_i i x hf
                exact step_delete hT ho hti hk hki hkey hm hH hgk hf (fun hx => by cases hx) (fun i x hx => by cases hx; exact h)
              · exact h.elim
            · exact h.elim
          · exact h.elim
        · exact h.elim
      · exact h.elim
    · exact h.elim
  · exact h.elim
end
end Go.Lv
/- Lv, part Kc: strings and bytes. Over any program; no condition. -/
namespace Go.Lv
open Go
set_option linter.unusedVariables false
set_option linter.unusedSimpArgs false

section
variable {P : Program} {e : Env} {B : Box} {H : OHeap} {o : Oper} {K : Know} {jj : Nat → Nat} {w : World} {T : Tab}
/-- A string as bytes, sealed. -/
theorem pf_s2b (hT : TOK P T) {s d el : TypeId} {p : Operand} {si di : TI} (ho : o.op = .convert s d p) (hsi : T s = some si) (hks : si.kind = .str) (hdi : T d = some di) (hkd : di.kind = .slice el) {ei : TI} (hei : T el = some ei) (hke : ei.kind = .int .u8) {x : ByteArray} (hp : ev e p = .str x) :
    Yields P o e B H (.isl false 1 (x.data.toList.map fun c => [.int .u8 c.toNat])) := by
  intro K jj w a N g te
  have ep : a.eval p = .string x := by have r := te.ev p; rw [hp] at r; exact r.str
  obtain ⟨d1, hd1, hk1⟩ := (hT s si hsi).und
  obtain ⟨d2, hd2, hk2⟩ := (hT d di hdi).und
  obtain ⟨d3, hd3, hk3⟩ := (hT el ei hei).und
  have hs : P.underlying s = some .string := by rw [hd1]; rw [hks] at hk1; rw [ofDesc_str hk1]
  have hd : P.underlying d = some (.slice el) := by rw [hd2]; rw [hkd] at hk2; rw [ofDesc_slice hk2]
  have he : P.underlying el = some (.int .u8) := by rw [hd3]; rw [hke] at hk3; rw [ofDesc_int hk3]
  have hrun := run_bytes_of_string w s d el x hs hd he
  obtain ⟨row, hrow⟩ : ∃ row, bytesRow x (grownCap w x.size 0 el) = row := ⟨_, rfl⟩
  rw [hrow] at hrun
  have hget : ∀ (i : Nat), i < x.data.toList.length → row[i]? = some (.int .u8 ((x.data.toList)[i]?.getD 0).toNat) := fun i hi => by
    rw [← hrow]
    unfold bytesRow
    rw [Array.getElem?_append_left (by simpa using hi)]
    simp at hi
    simp [hi]
  have g1 := g.drew
  have g2 := g1.sealNew row el (row.size, row.size + 1)
  have f2 := Fr.sealNew g1 row el (row.size, row.size + 1)
  refine ⟨.slice (some ⟨w.heap.size, 0, none⟩) x.size (grownCap w x.size 0 el), _, _, ?_, g2, ?_, (Fr.refl (dom H B jj) w K).drew.trans f2⟩
  · simp only [execOp, ho, ep]
    exact run_value hrun
  · have hlen : (x.data.toList.map fun c => [LV.int .u8 c.toNat]).length = x.size := by rw [List.length_map, Array.length_toList]; rfl
    have key := R.isl (K := Lv.sealNew K w.drew.heap.size row) false 1 (x.data.toList.map fun c => [LV.int .u8 c.toNat]) w.heap.size 0 (grownCap w x.size 0 el) (fun i j => .int .u8 ((x.data.toList)[i]?.getD 0).toNat)
      (by rw [hlen]; exact grownCap_ge _ _ _ _) (fun h => by cases h) (fun y hy => by obtain ⟨c, _, rfl⟩ := List.mem_map.1 hy; rfl)
      (fun i j y z hy hz => by
        rw [List.getElem?_map] at hy
        obtain ⟨c, hc, rfl⟩ := Option.map_eq_some_iff.1 hy
        have hi := (List.getElem?_eq_some_iff.1 hc).1
        match j, hz with
        | 0, hz =>
          show (if w.heap.size = w.drew.heap.size then row[0 + i * 1 + 0]? else _) = _
          rw [if_pos (show w.heap.size = w.drew.heap.size from rfl), show 0 + i * 1 + 0 = i by omega, hget i hi])
      (fun i j y z hy hz => by
        rw [List.getElem?_map] at hy
        obtain ⟨c, hc, rfl⟩ := Option.map_eq_some_iff.1 hy
        match j, hz with
        | 0, hz =>
          simp at hz; subst hz
          rw [hc]; exact .int _ _)
    rw [hlen] at key
    exact key.re

/-- Cells as bytes. -/
def bytesOf : List LV → Option (List UInt8)
  | [] => some []
  | .int .u8 n :: r => (bytesOf r).map (UInt8.ofNat n.toNat :: ·)
  | _ => none
theorem bytesOf_ok {K : Know} : ∀ {ns : List LV} {vs : List Value} {l : List UInt8}, Rs K ns vs → bytesOf ns = some l → ∃ zs : List Int, vs = zs.map (Value.int .u8) ∧ l = zs.map fun n => UInt8.ofNat n.toNat
  | [], vs, l, h, hb => by
    have : vs = [] := List.eq_nil_of_length_eq_zero (by rw [h.1]; rfl)
    simp [bytesOf] at hb
    exact ⟨[], by rw [this]; rfl, by rw [hb]; rfl⟩
  | x :: ns, [], l, h, hb => by have := h.1; simp at this
  | x :: ns, v :: vs, l, h, hb => by
    unfold bytesOf at hb
    split at hb
    · rename_i h1; cases h1
    · rename_i n r h1
      cases h1
      obtain ⟨l', h2, rfl⟩ := Option.map_eq_some_iff.1 hb
      obtain ⟨zs, rfl, rfl⟩ := bytesOf_ok h.tail h2
      have hv := h.head
      cases hv
      exact ⟨n :: zs, rfl, rfl⟩
    · cases hb
theorem foldl_push : ∀ (zs : List Int) (s : ByteArray), zs.foldl (fun r n => r.push (UInt8.ofNat n.toNat)) s = ⟨s.data ++ (zs.map fun n => UInt8.ofNat n.toNat).toArray⟩
  | [], s => by simp
  | z :: zs, s => by
    rw [List.foldl_cons, foldl_push zs]
    simp [ByteArray.push]

theorem pf_b2s (hT : TOK P T) {s d el : TypeId} {p : Operand} {si di ei : TI} (ho : o.op = .convert s d p) (hsi : T s = some si) (hks : si.kind = .slice el) (hdi : T d = some di) (hkd : di.kind = .str) (hei : T el = some ei) (hke : ei.kind = .int .u8)
    {n : Nat} {ns : List LV} (hs : ∀ s, ev e p ≠ .str s) (hsrc : srcL H 1 (ev e p) = some (n, ns)) {l : List UInt8} (hl : bytesOf ns = some l) : Yields P o e B H (.str ⟨l.toArray⟩) := by
  refine Yields.still fun K jj w a N g te => ?_
  obtain ⟨d1, hd1, hk1⟩ := (hT s si hsi).und
  obtain ⟨d2, hd2, hk2⟩ := (hT d di hdi).und
  obtain ⟨d3, hd3, hk3⟩ := (hT el ei hei).und
  have hs1 : P.underlying s = some (.slice el) := by rw [hd1]; rw [hks] at hk1; rw [ofDesc_slice hk1]
  have hd : P.underlying d = some .string := by rw [hd2]; rw [hkd] at hk2; rw [ofDesc_str hk2]
  have he : P.underlying el = some (.int .u8) := by rw [hd3]; rw [hke] at hk3; rw [ofDesc_int hk3]
  obtain ⟨A, c, news, hv, hrn, hnl, hA⟩ := src_cells g (te.ev p) hsrc hs
  obtain ⟨zs, rfl, rfl⟩ := bytesOf_ok hrn hl
  refine ⟨.string ⟨(zs.map fun n => UInt8.ofNat n.toNat).toArray⟩, ?_, (R.str _).re⟩
  simp only [execOp, ho, hv]
  refine run_value ?_
  rw [run_convert_bytes_string w s d el A n c hs1 he hd]
  cases A with
  | none =>
    obtain ⟨_, h0⟩ := hA
    have : zs = [] := by simpa using h0
    subst this
    rfl
  | some aa =>
    have hlen : (zs.map (Value.int .u8)).length = n := by rw [hrn.1, hnl]; omega
    have hload : (loadCells aa n).run P w = .ok (zs.map (Value.int .u8)).toArray w := by
      have := run_firstCells_some (P := P) w 1 n aa n c (zs.map (Value.int .u8)) (by rw [hlen]; omega) (fun j u hu => hA.2 j u hu)
      simpa [Builtin.firstCells] using this
    rw [run_bytesToString w aa n c zs hload, foldl_push]
    simp
end

def s2bL (T : Tab) (s el : TypeId) (x : ByteArray) : Option LV := match T s, T el with
  | some si, some ei => if si.kind = .str ∧ ei.kind = .int .u8 then some (.isl false 1 (x.data.toList.map fun c => [.int .u8 c.toNat])) else none
  | _, _ => none
def b2sL (T : Tab) (H : OHeap) (s d : TypeId) (p : LV) : Option LV := match T s, T d with
  | some si, some di => match si.kind with
    | .slice el => match T el with
      | some ei => if di.kind = .str ∧ ei.kind = .int .u8 then (match srcL H 1 p with | some (_, ns) => (bytesOf ns).map fun l => .str ⟨l.toArray⟩ | none => none) else none
      | none => none
    | _ => none
  | _, _ => none
/-- A conversion. -/
def pfConvM (T : Tab) (H : OHeap) (s d : TypeId) (p : LV) : Option LV := match p with
  | .int k n => pfConv T s d (.int k n)
  | .str x => match T d with
    | some di => match di.kind with
      | .slice el => s2bL T s el x
      | _ => pfConv T s d (.str x)
    | none => none
  | p => b2sL T H s d p
section
variable {P : Program} {e : Env} {B : Box} {H : OHeap} {o : Oper} {T : Tab} {x : LV}
theorem pf_convM (hT : TOK P T) {s d : TypeId} {p : Operand} (ho : o.op = .convert s d p) (h : pfConvM T H s d (ev e p) = some x) : Yields P o e B H x := by
  unfold pfConvM at h
  split at h
  · rename_i k n hp
    rw [← hp] at h; exact pf_conv hT ho h
  · rename_i y hp
    split at h
    · rename_i di hdi
      split at h
      · rename_i el hk
        unfold s2bL at h
        split at h
        · rename_i si ei hsi hei
          split at h
          · rename_i hc
            simp at h; subst h
            exact pf_s2b hT ho hsi hc.1 hdi hk hei hc.2 hp
          · cases h
        · cases h
      · rw [← hp] at h; exact pf_conv hT ho h
    · cases h
  · rename_i h1 h2
    unfold b2sL at h
    split at h
    · rename_i si di hsi hdi
      split at h
      · rename_i el hk
        split at h
        · rename_i ei hei
          split at h
          · rename_i hc
            split at h
            · rename_i n ns hsrc
              obtain ⟨l, hl, rfl⟩ := Option.map_eq_some_iff.1 h
              exact pf_b2s hT ho hsi hk hdi hc.1 hei hc.2 (fun s hs => h2 s hs) hsrc hl
            · cases h
          · cases h
        · cases h
      · cases h
    · cases h
end
end Go.Lv
/- Lv, part K: one operation, as one computed condition. Over any program; no condition. -/
namespace Go.Lv
open Go
set_option linter.unusedVariables false
set_option linter.unusedSimpArgs false

/-- What is there, and holds. -/
def ob {α : Type} (x : Option α) (Q : α → Prop) : Prop := match x with | some a => Q a | none => False
@[simp] theorem ob_some {α : Type} (a : α) (Q : α → Prop) : ob (some a) Q = Q a := rfl
@[simp] theorem ob_none {α : Type} (Q : α → Prop) : ob none Q = False := rfl
@[simp] theorem ob_ite {α : Type} (c : Prop) [Decidable c] (x : Option α) (Q : α → Prop) : ob (if c then x else none) Q = (c ∧ ob x Q) := by
  by_cases h : c <;> simp [h]
@[simp] theorem ob_ite' {α : Type} (c : Prop) [Decidable c] (x : Option α) (Q : α → Prop) : ob (if c then none else x) Q = (¬ c ∧ ob x Q) := by
  by_cases h : c <;> simp [h]
theorem ob_map {α β : Type} (f : α → β) (x : Option α) (Q : β → Prop) : ob (x.map f) Q = ob x fun a => Q (f a) := by cases x <;> rfl
theorem ob_bind {α β : Type} (f : α → Option β) (x : Option α) (Q : β → Prop) : ob (x.bind f) Q = ob x fun a => ob (f a) Q := by cases x <;> rfl
theorem ob_elim {α : Type} {x : Option α} {Q : α → Prop} (h : ob x Q) : ∃ a, x = some a ∧ Q a := by cases x with | none => exact h.elim | some a => exact ⟨a, rfl, h⟩
theorem ob_mono {α : Type} {x : Option α} {Q Q' : α → Prop} (h : ob x Q) (hq : ∀ a, Q a → Q' a) : ob x Q' := by cases x with | none => exact h.elim | some a => exact hq a h

def bpHere (B : Box) : LV → Bool
  | .bp d ver _ => decide ((B d).1 = ver) && (B d).2.isSome
  | _ => false

/-- An operation that hands back one value and turns nothing. -/
def pf (T : Tab) (o : Oper) (e : Env) (B : Box) (H : OHeap) : Option LV :=
  match o.op with
  | .move p => some (ev e p)
  | .assign p => some (ev e p)
  | .pick c p q => pfPick (ev e c) (ev e p) (ev e q)
  | .load t p => pfLoad T B H t (ev e p)
  | .nilCheck p => if (notNil (ev e p) || bpHere B (ev e p)) = true then some (ev e p) else none
  | .binOp op t p q _ => binL T op t (ev e p) (ev e q)
  | .unOp op _ p => pfUn op (ev e p)
  | .convert s d p => pfConvM T H s d (ev e p)
  | .fieldAddr s p f => pfFieldAddr T B s (ev e p) f
  | .field t p f => pfField T t (ev e p) f
  | .indexAddr t p i => pfIndexAddr T B t (ev e p) (ev e i)
  | .index t p i => pfIndex T t (ev e p) (ev e i)
  | .slice t p lo hi mx => pfSlice T t (ev e p) (lo.map (ev e)) (hi.map (ev e)) (mx.map (ev e))
  | .extract p i => pfExtract (ev e p) i
  | .makeInterface t p => pfIface T t (ev e p)
  | .makeFunc fn fst caps => pfFunc e fn fst caps
  | .build t ps => pfBuild T e t ps
  | .buildSlice t n ps => pfBuildSlice T e t n ps
  | .call c => match c.callee, c.args.toList, c.argTypes.toList with
    | .builtin .len, [p], [t] => pfLen T H t (ev e p)
    | .builtin .cap, [p], [t] => pfCap T t (ev e p)
    | .builtin .min, [p, q], [_, _] => pfMin (ev e p) (ev e q)
    | .builtin .max, [p, q], [_, _] => pfMax (ev e p) (ev e q)
    | _, _, _ => none
  | _ => none

section
variable {P : Program} {ρ : Option Nat} {N : Nat} {o : Oper} {e : Env} {B : Box} {H : OHeap} {x : LV} {T : Tab}

theorem arr1 {α : Type} {l : Array α} {a : α} (h : l.toList = [a]) : l = #[a] := by apply Array.ext'; simpa using h
theorem arr2 {α : Type} {l : Array α} {a b : α} (h : l.toList = [a, b]) : l = #[a, b] := by apply Array.ext'; simpa using h

theorem pf_sound (hT : TOK P T) (h : pf T o e B H = some x) : Yields P o e B H x := by
  unfold pf at h
  split at h
  · rename_i p ho; simp at h; subst h; exact pf_move (.inl ho)
  · rename_i p ho; simp at h; subst h; exact pf_move (.inr ho)
  · rename_i c p q ho; exact pf_pick ho h
  · rename_i t p ho; exact pf_load hT ho h
  · rename_i p ho
    split at h
    · rename_i hc
      simp at h; subst h
      simp only [Bool.or_eq_true] at hc
      rcases hc with hc | hc
      · exact pf_nilCheck ho hc
      · unfold bpHere at hc
        split at hc
        · rename_i d ver off hev
          simp only [Bool.and_eq_true, decide_eq_true_eq] at hc
          rw [hev]
          exact pf_nilCheck_bp ho hev hc.1 hc.2
        · simp at hc
    · simp at h
  · rename_i op t p q yt ho; exact pf_binOp hT ho h
  · rename_i op t p ho; exact pf_un ho h
  · rename_i s d p ho; exact pf_convM hT ho h
  · rename_i s p f ho; exact pf_fieldAddr hT ho h
  · rename_i t p f ho; exact pf_field hT ho h
  · rename_i t p i ho; exact pf_indexAddr hT ho h
  · rename_i t p i ho; exact pf_index hT ho h
  · rename_i t p lo hi mx ho; exact pf_slice hT ho h
  · rename_i p i ho; exact pf_extract ho h
  · rename_i t p ho; exact pf_iface hT ho h
  · rename_i fn fst caps ho; exact pf_func ho h
  · rename_i t ps ho; exact pf_build hT ho h
  · rename_i t n ps ho; exact pf_buildSlice hT ho h
  · rename_i c ho
    split at h
    · rename_i p t hc ha ht
      obtain ⟨cal, args, ats⟩ := c
      simp only at hc ha ht
      subst hc; rw [arr1 ha, arr1 ht] at ho
      exact pf_len hT ho h
    · rename_i p t hc ha ht
      obtain ⟨cal, args, ats⟩ := c
      simp only at hc ha ht
      subst hc; rw [arr1 ha, arr1 ht] at ho
      exact pf_cap hT ho h
    · rename_i p q t u hc ha ht
      obtain ⟨cal, args, ats⟩ := c
      simp only at hc ha ht
      subst hc; rw [arr2 ha, arr2 ht] at ho
      exact pf_min ho h
    · rename_i p q t u hc ha ht
      obtain ⟨cal, args, ats⟩ := c
      simp only at hc ha ht
      subst hc; rw [arr2 ha, arr2 ht] at ho
      exact pf_max ho h
    · simp at h
  · simp at h

/-- Where cells are written. -/
def stL (B : Box) (H : OHeap) (p : LV) (ns : List LV) (Q : Box → OHeap → Prop) : Prop :=
  match p with
  | .bp d ver off => (B d).1 = ver ∧ match (B d).2 with
    | some cs => off + ns.length ≤ cs.length ∧ Q (setB B d (seg cs off ns)) H
    | none => False
  | .ptr b off => match H b with
    | some (.cells cs n) => (off ≤ cs.length ∧ off + ns.length ≤ n) ∧ Q B (setH H b (.cells (seg cs off ns) n))
    | _ => False
  | _ => False

/-- An operation that calls nobody, as a condition. -/
def opS (T : Tab) (o : Oper) (e : Env) (B : Box) (H : OHeap) (Q : LV → Box → OHeap → Prop) : Prop :=
  match o.op with
  | .alloc t => match o.dst, T t with
    | some d, some ti => Q (.bp d ((B d).1 + 1) 0) (newB B d ti.zero) H
    | _, _ => False
  | .box _ x => match o.dst, lcells (ev e x) with
    | some d, some cs => Q (.bp d ((B d).1 + 1) 0) (newB B d cs) H
    | _, _ => False
  | .store t p x => match T t, lcells (ev e x) with
    | some ti, some ns => ns.length = ti.size ∧ stL B H (ev e p) ns fun B' H' => Q .any B' H'
    | _, _ => False
  | .makeSlice t l c => match T t with
    | some ti => match ti.kind with
      | .slice el => match T el, ev e l, ev e c with
        | some ei, .int _ ln, .int _ cn => (0 ≤ ln ∧ ln ≤ cn ∧ (ei.bytes : Int) * cn ≤ 281474976710656 ∧ cn ≤ 9223372036854775807) ∧
            ∀ b, H b = none → Q (.sl b 0 ln.toNat cn.toNat) B (setH H b (.cells (zerosL ei.zero cn.toNat) (cn.toNat * ei.size)))
        | _, _, _ => False
      | _ => False
    | none => False
  | .call c => match c.callee, c.args.toList, c.argTypes.toList with
    | .builtin .append, [s, x], [t, tx] => match T t, T tx with
      | some ti, some tix => match ti.kind with
        | .slice el => match T el with
          | some ei => srcKind tix.kind (ev e x) ∧ appL H ei.size ei.bytes (ev e s) (ev e x) fun r H' => Q r B H'
          | none => False
        | _ => False
      | _, _ => False
    | .builtin .copy, [s, x], [t, _] => match T t with
      | some ti => match ti.kind with
        | .slice el => match T el, ev e s with
          | some ei, .sl b off len cap => (match ev e x with | .str _ => False | _ => True) ∧ match H b, srcL H ei.size (cutL len (ev e x)) with
            | some (.cells cs m), some (n, ns) => (ns.all LV.one = true ∧ off ≤ cs.length ∧ off + min n len * ei.size ≤ m) ∧
                Q (.int .i64 (min n len : Nat)) B (setH H b (.cells (seg cs off (ns.take (min n len * ei.size))) m))
            | _, _ => False
          | _, _ => False
        | _ => False
      | none => False
    | .builtin .clear, [s], [t] => match T t with
      | some ti => match ti.kind with
        | .slice el => match T el, ev e s with
          | some ei, .sl b off len cap => match H b with
            | some (.cells cs m) => (off ≤ cs.length ∧ off + len * ei.size ≤ m) ∧ Q (.tup []) B (setH H b (.cells (seg cs off (zerosL ei.zero len)) m))
            | _ => False
          | _, _ => False
        | _ => False
      | none => False
    | _, _, _ => ob (pf T o e B H) fun x => Q x B H
  | _ => ob (pf T o e B H) fun x => Q x B H

theorem ob_step (hT : TOK P T) {Q : LV → Box → OHeap → Prop} (h : ob (pf T o e B H) fun x => Q x B H) : Step P o e B H Q := by
  obtain ⟨x, hx, hq⟩ := ob_elim h
  exact (pf_sound hT hx).step hq

theorem opS_sound (hT : TOK P T) {Q : LV → Box → OHeap → Prop} (h : opS T o e B H Q) : Step P o e B H Q := by
  unfold opS at h
  split at h
  · rename_i t ho
    split at h
    · rename_i d ti hd hti; exact step_alloc hT ho hd hti h
    · exact h.elim
  · rename_i t p ho
    split at h
    · rename_i d cs hd hcs; exact step_box ho hd hcs h
    · exact h.elim
  · rename_i t p y ho
    split at h
    · rename_i ti ns hti hns
      obtain ⟨hsz, h⟩ := h
      unfold stL at h
      split at h
      · rename_i d ver off hev
        obtain ⟨hv, h⟩ := h
        split at h
        · rename_i cs hcs
          exact step_store_box hT ho hev (by rw [← hv, ← hcs]) hti hns hsz h.1 h.2
        · exact h.elim
      · rename_i b off hev
        split at h
        · rename_i cs n hH
          exact step_store_ptr hT ho hev hH hti hns hsz h.1.1 h.1.2 h.2
        · exact h.elim
      · exact h.elim
    · exact h.elim
  · rename_i t l c ho
    split at h
    · rename_i ti hti
      split at h
      · rename_i el hk
        split at h
        · rename_i ei kl ln kc cn hei hl hc
          obtain ⟨⟨h0, hlc, hb, h63⟩, h⟩ := h
          exact step_makeSlice hT ho hti hk hei hl hc h0 hlc hb h63 h
        · exact h.elim
      · exact h.elim
    · exact h.elim
  · rename_i c ho
    split at h
    · rename_i s x t tx hc ha ht
      obtain ⟨cal, args, ats⟩ := c
      simp only at hc ha ht
      subst hc; rw [arr2 ha, arr2 ht] at ho
      split at h
      · rename_i ti tix hti htix
        split at h
        · rename_i el hk
          split at h
          · rename_i ei hei
            exact step_append hT ho hti hk hei htix h.1 h.2
          · exact h.elim
        · exact h.elim
      · exact h.elim
    · rename_i s x t tx hc ha ht
      obtain ⟨cal, args, ats⟩ := c
      simp only at hc ha ht
      subst hc; rw [arr2 ha, arr2 ht] at ho
      split at h
      · rename_i ti hti
        split at h
        · rename_i el hk
          split at h
          · rename_i ei b off len cap hei hs
            obtain ⟨hstr, h⟩ := h
            split at h
            · rename_i cs m n ns hH hsrc
              exact step_copy hT ho hti hk hei hs hH hsrc (fun s hx => by rw [hx] at hstr; exact hstr) h.1.1 h.1.2.1 h.1.2.2 h.2
            · exact h.elim
          · exact h.elim
        · exact h.elim
      · exact h.elim
    · rename_i s t hc ha ht
      obtain ⟨cal, args, ats⟩ := c
      simp only at hc ha ht
      subst hc; rw [arr1 ha, arr1 ht] at ho
      split at h
      · rename_i ti hti
        split at h
        · rename_i el hk
          split at h
          · rename_i ei b off len cap hei hs
            split at h
            · rename_i cs m hH
              exact step_clear hT ho hti hk hei hs hH h.1.1 h.1.2 h.2
            · exact h.elim
          · exact h.elim
        · exact h.elim
      · exact h.elim
    · exact ob_step hT h
  · exact ob_step hT h

/-- One operation of a list, whatever it is. -/
def One (P : Program) (ρ : Option Nat) (N : Nat) (o : Oper) (e : Env) (B : Box) (H : OHeap) (Q : LV → Box → OHeap → Prop) : Prop :=
  opDst N o = true → ∀ n m K jj w a, Good K jj B H w → TE K jj B N e a.tmps → Dok m (dom H B jj) w a.defers → ∀ (K' : Act → World → Prop) (Qx : Exit → Act → World → Prop),
    (∀ a' w' x K1 jj' B' H', Good K1 jj' B' H' w' → TE K1 jj' B' N (updo e o.dst x) a'.tmps → Dok m (dom H' B' jj') w' a'.defers → Fr (dom H B jj) w K (dom H' B' jj') w' K1 → Q x B' H' → K' a' w') →
    o.wpIn (Fw ρ) n P a w K' Qx

theorem One.of_step {Q : LV → Box → OHeap → Prop} (hdf : ∀ c, o.op ≠ .defer c) (h : Step P o e B H Q) : One P ρ N o e B H Q := by
  intro hdst n m K jj w a g t d K' Qx hK
  obtain ⟨nx, v, w', hrun, hnx, x, B', H', K1, jj', g', r', t', f, hq⟩ := h K jj w a N g t
  refine ⟨fun _ _ => trivial, ?_⟩
  rw [semAt_call hdf, hrun]
  have hput : Oper.uponIn (Fw ρ) n P o a K' Qx (.ok nx w') = K' (a.put o.dst v) w' := by
    rcases hnx with rfl | ⟨rfl, rfl⟩ <;> rfl
  rw [hput]
  have hd : ∀ tt, o.dst = some tt → tt < N := fun tt ht => by simpa [opDst, ht] using hdst
  have hdef : (a.put o.dst v).defers = a.defers := by cases o.dst <;> rfl
  exact hK _ _ x K1 jj' B' H' g' (t'.put hd r') (by rw [hdef]; exact d.fr f) f hq

theorem One.of_call {c : Call} (ho : o.op = .call c) {g : FuncId} {args : List LV} (hc : callee e c = some (g, args)) (hgl : args.all LV.glob = true) {Q : LV → Box → OHeap → Prop}
    (h : CallL P g args H fun x H' => Q x B H') : One P ρ N o e B H Q := by
  intro hdst n m K jj w a g0 t d K' Qx hK
  obtain ⟨vs, hrs, hrun⟩ := run_callee (P := P) (w := w) t ho hc hgl
  refine ⟨fun _ _ => trivial, ?_⟩
  rw [semAt_call (by simp [ho]), hrun]
  rcases h with h | h
  case inr =>
    obtain ⟨v, x, h1, r', hq⟩ := h K w vs g0.nobox hrs
    rw [h1]
    have hd : ∀ tt, o.dst = some tt → tt < N := fun tt ht => by simpa [opDst, ht] using hdst
    have hdef : (a.put o.dst v).defers = a.defers := by cases o.dst <;> rfl
    exact hK _ w x K jj B H g0 (t.put hd r'.re) (by rw [hdef]; exact d) (Fr.refl _ _ _) hq
  rw [run_enters h.1]
  refine ⟨fun h => by simp at h, ?_⟩
  have hcalls := h.2 K w vs g0.nobox hrs
  refine (show CallsIn (Fw ρ) (n - 1) P g vs.toArray w _ from (callsIn_wide (n := n - 1)).2 (hcalls.mono ?_))
  rintro en w' ⟨v, x, K1, H', rfl, g', r', f, hq⟩
  obtain ⟨g'', f'⟩ := g0.back g' f
  have hd : ∀ tt, o.dst = some tt → tt < N := fun tt ht => by simpa [opDst, ht] using hdst
  have hdef : (a.put o.dst v).defers = a.defers := by cases o.dst <;> rfl
  exact hK _ _ x K1 jj B H' g'' ((t.mono f.le).put hd r'.re) (by rw [hdef]; exact d.fr f') f' hq

theorem One.of_yield {c : Call} (ho : o.op = .call c) {f : Operand} (hf : c.callee = .value f) {l : Nat} (hev : ev e f = .yld l) (hgl : (evs e c.args).all LV.glob = true) {Q : LV → Box → OHeap → Prop}
    (h : YieldL P l (evs e c.args) H fun x H' => Q x B H') : One P ρ N o e B H Q := by
  intro hdst n m K jj w a g0 t d K' Qx hK
  have hrs : Rs K (evs e c.args) (c.args.map a.eval).toList := t.evs hgl
  obtain ⟨fn, tmps, asg, body, h1, h2⟩ := h (n - 1) K w _ g0.nobox hrs
  have hv : a.eval f = .func (.yield l) #[] #[] := by
    have r := t.ev f
    rw [hev] at r
    generalize a.eval f = u at r; cases r; rfl
  have hrun : (execOp a.eval o).run P w = .ok (.round l fn tmps asg body) w := by
    simp only [execOp, ho, resolve, hf, hv, Deferred.ofValue]
    simp only [pure_bind, invoke]
    rw [Array.toArray_toList] at h1
    simpa using h1
  refine ⟨fun _ _ => trivial, ?_⟩
  rw [semAt_call (by simp [ho]), hrun]
  refine ⟨fun h => by simp at h, ?_⟩
  refine RoundIn.mono (show RoundIn (Fw ρ) (n - 1) P l fn tmps asg body w _ from h2) ?_
  rintro en w' ⟨v, x, K1, H', rfl, g', r', f', hq⟩
  obtain ⟨g'', f''⟩ := g0.back g' f'
  have hd : ∀ tt, o.dst = some tt → tt < N := fun tt ht => by simpa [opDst, ht] using hdst
  have hdef : (a.put o.dst v).defers = a.defers := by cases o.dst <;> rfl
  exact hK _ _ x K1 jj B H' g'' ((t.mono f'.le).put hd r'.re) (by rw [hdef]; exact d.fr f'') f'' hq

/-- One operation, as a condition. -/
def oneS (P : Program) (T : Tab) (o : Oper) (e : Env) (B : Box) (H : OHeap) (Q : LV → Box → OHeap → Prop) : Prop :=
  match o.op with
  | .call c => match c.callee with
    | .value f => match ev e f with
      | .yld l => (evs e c.args).all LV.glob = true ∧ YieldL P l (evs e c.args) H fun x H' => Q x B H'
      | _ => match callee e c with
        | some (g, args) => args.all LV.glob = true ∧ CallL P g args H fun x H' => Q x B H'
        | none => False
    | .builtin .delete => mapS T o e H fun x H' => Q x B H'
    | _ => opS T o e B H Q
  | .mapEntry .. => mapS T o e H fun x H' => Q x B H'
  | .entryStore .. => mapS T o e H fun x H' => Q x B H'
  | .defer _ => False
  | .makeMap .. => mapS T o e H fun x H' => Q x B H'
  | .mapUpdate .. => mapS T o e H fun x H' => Q x B H'
  | .lookup .. => mapS T o e H fun x H' => Q x B H'
  | .range .. => mapS T o e H fun x H' => Q x B H'
  | .next .. => mapS T o e H fun x H' => Q x B H'
  | .entry .. => mapS T o e H fun x H' => Q x B H'
  | _ => opS T o e B H Q

theorem oneS_sound (hT : TOK P T) {Q : LV → Box → OHeap → Prop} (h : oneS P T o e B H Q) : One P ρ N o e B H Q := by
  unfold oneS at h
  split at h
  · rename_i c ho
    split at h
    · rename_i f hcf
      split at h
      · rename_i l hev
        exact One.of_yield ho hcf hev h.1 h.2
      · split at h
        · rename_i g args hc
          exact One.of_call ho hc h.1 h.2
        · exact h.elim
    · exact One.of_step (by simp [ho]) (mapS_sound hT h)
    · exact One.of_step (by simp [ho]) (opS_sound hT h)
  · rename_i ho; exact One.of_step (by simp [ho]) (mapS_sound hT h)
  · rename_i ho; exact One.of_step (by simp [ho]) (mapS_sound hT h)
  · exact h.elim
  · rename_i ho; exact One.of_step (by simp [ho]) (mapS_sound hT h)
  · rename_i ho; exact One.of_step (by simp [ho]) (mapS_sound hT h)
  · rename_i ho; exact One.of_step (by simp [ho]) (mapS_sound hT h)
  · rename_i ho; exact One.of_step (by simp [ho]) (mapS_sound hT h)
  · rename_i ho; exact One.of_step (by simp [ho]) (mapS_sound hT h)
  · rename_i ho; exact One.of_step (by simp [ho]) (mapS_sound hT h)
  · rename_i hnc _ _ hnd _ _ _ _ _ _
    exact One.of_step hnd (opS_sound hT h)

theorem CallL.mono' {f : FuncId} {args : List LV} {Q Q' : LV → OHeap → Prop} (hq : ∀ x H', Q x H' → Q' x H') (h : CallL P f args H Q) : CallL P f args H Q' := h.mono hq

theorem appL_mono {size bytes : Nat} {s y : LV} {Q Q' : LV → OHeap → Prop} (hq : ∀ r H, Q r H → Q' r H) (h : appL H size bytes s y Q) : appL H size bytes s y Q' := by
  unfold appL at h ⊢
  split at h
  · split at h
    · split at h
      · exact ⟨h.1, h.2.1, h.2.2.1, fun b c h1 h2 => hq _ _ (h.2.2.2 b c h1 h2)⟩
      · exact h.elim
    · exact h.elim
  split at h
  · exact h.elim
  · refine ⟨h.1, ?_⟩
    have h := h.2
    split at h
    · exact ⟨fun x => hq _ _ (h.1 x), fun x => ⟨(h.2 x).1, fun b c h1 h2 => hq _ _ ((h.2 x).2 b c h1 h2)⟩⟩
    · exact ⟨fun x => hq _ _ (h.1 x), fun x => ⟨(h.2 x).1, fun b c h1 h2 => hq _ _ ((h.2 x).2 b c h1 h2)⟩⟩
    · exact ⟨h.1, h.2.1, fun x => hq _ _ (h.2.2.1 x), fun x => ⟨(h.2.2.2 x).1, fun b c h1 h2 => hq _ _ ((h.2.2.2 x).2 b c h1 h2)⟩⟩
    · split at h
      · exact ⟨h.1, fun x => hq _ _ (h.2.1 x), fun x => ⟨(h.2.2 x).1, fun b c h1 h2 => hq _ _ ((h.2.2 x).2 b c h1 h2)⟩⟩
      · exact h
    · exact h

end
end Go.Lv
/- Lv, part L: the condition of a whole body, computed by simp. Over any program; no condition. -/
namespace Go.Lv
open Go
set_option linter.unusedVariables false
set_option linter.unusedSimpArgs false

/-- A test's two sides. -/
def ifB (b : Bool) (X Y : Prop) : Prop := (b = true → X) ∧ (b = false → Y)
@[simp] theorem ifB_true (X Y : Prop) : ifB true X Y = X := by simp [ifB]
@[simp] theorem ifB_false (X Y : Prop) : ifB false X Y = Y := by simp [ifB]
@[simp] theorem ifB_not (b : Bool) (X Y : Prop) : ifB (!b) X Y = ifB b Y X := by cases b <;> simp [ifB]
theorem ifB_intro {b : Bool} {X Y : Prop} (h : b = true → X) (h' : b = false → Y) : ifB b X Y := ⟨h, h'⟩
theorem ifB_mono {b : Bool} {X Y X' Y' : Prop} (h : ifB b X Y) (hx : X → X') (hy : Y → Y') : ifB b X' Y' := ⟨fun x => hx (h.1 x), fun y => hy (h.2 y)⟩

/-- A test of a slot: each side goes on with what it knows. -/
def cnd (v : LV) (X Y : LV → Prop) : Prop := match v with | .bool b => ifB b (X (.bool true)) (Y (.bool false)) | _ => False
@[simp] theorem cnd_true (X Y : LV → Prop) : cnd (.bool true) X Y = X (.bool true) := by simp [cnd]
@[simp] theorem cnd_false (X Y : LV → Prop) : cnd (.bool false) X Y = Y (.bool false) := by simp [cnd]
theorem cnd_bool (b : Bool) (X Y : LV → Prop) : cnd (.bool b) X Y = ifB b (X (.bool true)) (Y (.bool false)) := rfl

/-- A guard: a test, or a slot that nothing was laid into. -/
def gcnd (v : LV) (X Y : LV → Prop) (Z : Prop) : Prop := match v with | .bool b => ifB b (X (.bool true)) (Y (.bool false)) | .tup [] => Z | _ => False

theorem upd_self {e : Env} {t : Nat} {x : LV} (h : e t = x) : upd e t x = e := by
  funext i; simp only [upd_apply]; split
  · rename_i hi; rw [hi]; exact h.symm
  · rfl

section
variable {P : Program} {ρ : Option Nat} {N : Nat} {T : Tab} {ops : Array Oper} {e : Env} {B : Box} {H : OHeap}

/-- A region's list, in the order of the text. -/
def vcO (P : Program) (T : Tab) (ops : Array Oper) : List Oper → KPost → Env → Box → OHeap → Prop
  | [], Q, e, B, H => Q e B H
  | o :: r, Q, e, B, H => match o.guard with
    | none => oneS P T o e B H fun x B' H' => vcO P T ops r Q (updo e o.dst x) B' H'
    | some (j, want) => match (ops[j]?).bind (·.dst) with
      | some t => gcnd (e t)
          (fun v => if want = true then oneS P T { o with guard := none } (upd e t v) B H fun x B' H' => vcO P T ops r Q (updo (upd e t v) o.dst x) B' H'
            else vcO P T ops r Q (updo (upd e t v) o.dst (.tup [])) B H)
          (fun v => if want = true then vcO P T ops r Q (updo (upd e t v) o.dst (.tup [])) B H
            else oneS P T { o with guard := none } (upd e t v) B H fun x B' H' => vcO P T ops r Q (updo (upd e t v) o.dst x) B' H')
          (vcO P T ops r Q (updo e o.dst (.tup [])) B H)
      | none => False

theorem WPO.one {o : Oper} {rest : List Oper} {Q : KPost} (hg : o.guard = none) (h : One P ρ N o e B H fun x B' H' => WPO P ρ N ops rest Q (updo e o.dst x) B' H') : WPO P ρ N ops (o :: rest) Q e B H := by
  intro hdst n m K jj w a g t d
  simp only [List.all_cons, Bool.and_eq_true] at hdst
  refine wpListIn_plain hg fun K' hK' => ?_
  refine h hdst.1 n m K jj w a g t d _ _ ?_
  intro a' w' x K1 jj' B' H' g' t' d' f hq
  exact hK' _ _ (lift_mono_list (fun _ _ _ hl => hl.fr f) rest _ _ (hq hdst.2 n m K1 jj' w' a' g' t' d'))

theorem One.mono {o : Oper} {Q Q' : LV → Box → OHeap → Prop} (h : One P ρ N o e B H Q) (hq : ∀ x B' H', Q x B' H' → Q' x B' H') : One P ρ N o e B H Q' := by
  intro hdst n m K jj w a g t d K' Qx hK
  exact h hdst n m K jj w a g t d K' Qx fun a' w' x K1 jj' B' H' g' t' d' f hq' => hK a' w' x K1 jj' B' H' g' t' d' f (hq _ _ _ hq')

theorem WPO.unguarded {o : Oper} {rest : List Oper} {Q : KPost} {j t : Nat} {want : Bool} (hg : o.guard = some (j, want)) (ht : (ops[j]?).bind (·.dst) = some t) (hb : e t = .tup [])
    (h : WPO P ρ N ops rest Q (updo e o.dst (.tup [])) B H) : WPO P ρ N ops (o :: rest) Q e B H := by
  intro hdst n m K jj w a g te d
  have hw : Region.wanted o (yielded ops a.tmps) = false := by
    have r := te.get t
    rw [hb] at r
    have r' : R K (.tup []) (a.tmps.getD t undef) := r
    have hv : a.tmps.getD t undef = .tuple #[] := by
      generalize a.tmps.getD t undef = u at r'
      cases r' with | tup _ vs hl hh =>
        have : vs = [] := by simpa using hl
        subst this; rfl
    have hy : yielded ops a.tmps j = none := by
      unfold yielded
      rw [ht]
      simp only [Option.bind_some]
      cases hq : a.tmps[t]? with
      | none => rfl
      | some v => simp [hq] at hv; subst hv; rfl
    simp [Region.wanted, hg, hy]
  simp only [wpListIn, hw]
  simp only [List.all_cons, Bool.and_eq_true] at hdst
  refine ⟨fun _ _ => trivial, ?_⟩
  have hd : ∀ tt, o.dst = some tt → tt < N := fun tt ht => by have := hdst.1; simp [opDst, ht] at this; exact this
  refine h hdst.2 n m K jj w _ g (te.put hd (R.tup [] [] rfl (fun i x v h => by simp at h)).re) ?_
  have hdef : (a.put o.dst undef).defers = a.defers := by cases o.dst <;> rfl
  rw [hdef]; exact d

theorem vcO_sound (hT : TOK P T) : ∀ (rest : List Oper) (Q : KPost) (e : Env) (B : Box) (H : OHeap), vcO P T ops rest Q e B H → WPO P ρ N ops rest Q e B H
  | [], Q, e, B, H, h => WPO.nil h
  | o :: r, Q, e, B, H, h => by
    unfold vcO at h
    split at h
    · rename_i hg
      refine WPO.one hg ((oneS_sound hT h).mono fun x B' H' hq => ?_)
      exact vcO_sound hT r Q _ _ _ hq
    · rename_i j want hg
      split at h
      · rename_i t ht
        unfold gcnd at h
        split at h
        · rename_i b hb
          have hgv : gv ops e j = some b := by
            obtain ⟨o', ho', hd'⟩ := Option.bind_eq_some_iff.1 ht
            simp [gv, ho', hd', hb]
          have go : ∀ v : Bool, b = v → oneS P T { o with guard := none } (upd e t (.bool v)) B H (fun x B' H' => vcO P T ops r Q (updo (upd e t (.bool v)) o.dst x) B' H') → WPO P ρ N ops ({ o with guard := none } :: r) Q e B H := by
            intro v hv h1
            rw [upd_self (by rw [hb, hv])] at h1
            refine WPO.one rfl ((oneS_sound hT h1).mono fun x B' H' hq => ?_)
            exact vcO_sound hT r Q _ _ _ hq
          have no : ∀ v : Bool, b = v → vcO P T ops r Q (updo (upd e t (.bool v)) o.dst (.tup [])) B H → WPO P ρ N ops r Q (updo e o.dst (.tup [])) B H := by
            intro v hv h1
            rw [upd_self (by rw [hb, hv])] at h1
            exact vcO_sound hT r Q _ _ _ h1
          refine WPO.guard hg hgv (fun hbw => ?_) (fun hbw => ?_)
          · subst hbw
            cases b with
            | true => have h1 := h.1 rfl; simp only [if_true] at h1; exact go true rfl h1
            | false => have h1 := h.2 rfl; simp only [Bool.false_eq_true, if_false] at h1; exact go false rfl h1
          · cases b with
            | true =>
              have hw : want = false := by cases want <;> simp_all
              subst hw
              have h1 := h.1 rfl; simp only [Bool.false_eq_true, if_false] at h1; exact no true rfl h1
            | false =>
              have hw : want = true := by cases want <;> simp_all
              subst hw
              have h1 := h.2 rfl; simp only [if_true] at h1; exact no false rfl h1
        · rename_i hb
          exact WPO.unguarded hg ht hb (vcO_sound hT r Q _ _ _ h)
        · exact h.elim
      · exact h.elim

/-- Behind a piece. -/
def After (y : Post → Env → Box → OHeap → Prop) (Q : Post) : Post := fun x e B H =>
  match x with
  | .norm => y Q e B H
  | .exit i => Q (.exit i) e B H
  | .ret => Q .ret e B H

def condV (x y : Post → Env → Box → OHeap → Prop) (c : Operand) (Q : Post) (e : Env) (B : Box) (H : OHeap) : Prop :=
  match c with
  | .tmp t => cnd (e t) (fun v => x Q (upd e t v) B H) (fun v => y Q (upd e t v) B H)
  | c => cnd (ev e c) (fun _ => x Q e B H) (fun _ => y Q e B H)

/-- THE CONDITION OF A PIECE: loops, range over functions and drawn regions stay as they are. -/
def vc (P : Program) (T : Tab) (ρ : Option Nat) (N : Nat) : Code → Post → Env → Box → OHeap → Prop
  | .skip, Q, e, B, H => Q .norm e B H
  | .label _, Q, e, B, H => Q .norm e B H
  | .exit i, Q, e, B, H => Q (.exit i) e B H
  | .ret, Q, e, B, H => Q .ret e B H
  | .region id ops false, Q, e, B, H => vcO P T ops ops.toList (Q .norm) e B H
  | .seq x y, Q, e, B, H => vc P T ρ N x (After (vc P T ρ N y) Q) e B H
  | .cond c x y, Q, e, B, H => condV (vc P T ρ N x) (vc P T ρ N y) c Q e B H
  | .block id c, Q, e, B, H => vc P T ρ N c (InBlock id Q) e B H
  | .scope c, Q, e, B, H => vc P T ρ N c Q e B H
  | c, Q, e, B, H => WP P ρ N c Q e B H

theorem vc_sound (hT : TOK P T) : ∀ (c : Code) (Q : Post) (e : Env) (B : Box) (H : OHeap), vc P T ρ N c Q e B H → WP P ρ N c Q e B H := by
  intro c
  induction c with
  | skip => intro Q e B H h; exact WP.skip h
  | label l => intro Q e B H h; exact WP.label h
  | exit i => intro Q e B H h; exact WP.exit h
  | ret => intro Q e B H h; exact WP.ret h
  | region id ops d =>
    intro Q e B H h
    cases d with
    | true => exact h
    | false => exact WP.region (vcO_sound hT _ _ _ _ _ h)
  | seq x y ihx ihy =>
    intro Q e B H h
    refine WP.seq ((ihx _ _ _ _ h).mono ?_)
    intro z e' B' H' hz
    cases z with
    | norm => exact ihy _ _ _ _ hz
    | exit i => exact hz
    | ret => exact hz
  | cond c x y ihx ihy =>
    intro Q e B H h
    unfold vc condV at h
    split at h
    · rename_i t
      unfold cnd at h
      split at h
      · rename_i b hb
        refine WP.cond (b := b) hb (fun hbt => ?_) (fun hbf => ?_)
        · subst hbt
          have h1 : vc P T ρ N x Q (upd e t (.bool true)) B H := h.1 rfl
          rw [upd_self hb] at h1
          exact ihx _ _ _ _ h1
        · subst hbf
          have h1 : vc P T ρ N y Q (upd e t (.bool false)) B H := h.2 rfl
          rw [upd_self hb] at h1
          exact ihy _ _ _ _ h1
      · exact h.elim
    · unfold cnd at h
      split at h
      · rename_i b hb
        exact WP.cond hb (fun hbt => ihx _ _ _ _ (h.1 hbt)) (fun hbf => ihy _ _ _ _ (h.2 hbf))
      · exact h.elim
  | block id c ih => intro Q e B H h; exact WP.block (ih _ _ _ _ h)
  | scope c ih => intro Q e B H h; exact WP.scope (ih _ _ _ _ h)
  | loop c ih => intro Q e B H h; exact h
  | rangeFunc f ps a b iha ihb => intro Q e B H h; exact h
  | goto l => intro Q e B H h; exact h
  | refuse why => intro Q e B H h; exact h

/-! ### How simp goes: what is still to come stands in words without a binder, so that simp does not walk into it -/
theorem ifB_congr {b b' : Bool} {X X' Y Y' : Prop} (h : b = b') (hx : b' = true → X = X') (hy : b' = false → Y = Y') : ifB b X Y = ifB b' X' Y' := by
  subst h; cases b
  · simp [hy rfl]
  · simp [hx rfl]

/-- What comes behind an operation. -/
def kont (P : Program) (T : Tab) (ops : Array Oper) (r : List Oper) (dst : Option Tmp) (Q : KPost) (e : Env) (B : Box) : LV → OHeap → Prop := fun x H => vcO P T ops r Q (updo e dst x) B H
@[simp↓] theorem kont_apply (r : List Oper) (dst : Option Tmp) (Q : KPost) (x : LV) : kont P T ops r dst Q e B x H = vcO P T ops r Q (updo e dst x) B H := rfl
def vK (x : Option LV) (P : Program) (T : Tab) (ops : Array Oper) (r : List Oper) (dst : Option Tmp) (Q : KPost) (e : Env) (B : Box) (H : OHeap) : Prop := ob x fun x => vcO P T ops r Q (updo e dst x) B H
@[simp] theorem vK_some (x : LV) (r : List Oper) (dst : Option Tmp) (Q : KPost) : vK (some x) P T ops r dst Q e B H = vcO P T ops r Q (updo e dst x) B H := rfl
@[simp] theorem vK_none (r : List Oper) (dst : Option Tmp) (Q : KPost) : vK none P T ops r dst Q e B H = False := rfl
@[simp] theorem vK_ite (c : Prop) [Decidable c] (x : Option LV) (r : List Oper) (dst : Option Tmp) (Q : KPost) : vK (if c then x else none) P T ops r dst Q e B H = (c ∧ vK x P T ops r dst Q e B H) := by by_cases h : c <;> simp [h]
@[simp] theorem vK_ite' (c : Prop) [Decidable c] (x : Option LV) (r : List Oper) (dst : Option Tmp) (Q : KPost) : vK (if c then none else x) P T ops r dst Q e B H = (¬ c ∧ vK x P T ops r dst Q e B H) := by by_cases h : c <;> simp [h]

/-- A function value with its arguments. -/
def clK (v : LV) (as : List LV) (P : Program) (T : Tab) (ops : Array Oper) (r : List Oper) (dst : Option Tmp) (Q : KPost) (e : Env) (B : Box) (H : OHeap) : Prop := match v with
  | .fn g fst caps => (fst ++ as ++ caps).all LV.glob = true ∧ CallL P g (fst ++ as ++ caps) H (kont P T ops r dst Q e B)
  | .yld l => as.all LV.glob = true ∧ YieldL P l as H (kont P T ops r dst Q e B)
  | _ => False
@[simp] theorem clK_yld (l : Nat) (as : List LV) (r : List Oper) (dst : Option Tmp) (Q : KPost) :
    clK (.yld l) as P T ops r dst Q e B H = (as.all LV.glob = true ∧ YieldL P l as H (kont P T ops r dst Q e B)) := rfl
@[simp] theorem clK_fn (g : FuncId) (fst caps as : List LV) (r : List Oper) (dst : Option Tmp) (Q : KPost) :
    clK (.fn g fst caps) as P T ops r dst Q e B H = ((fst ++ as ++ caps).all LV.glob = true ∧ CallL P g (fst ++ as ++ caps) H (kont P T ops r dst Q e B)) := rfl

def alK (z : Option TI) (d : Nat) (P : Program) (T : Tab) (ops : Array Oper) (r : List Oper) (Q : KPost) (e : Env) (B : Box) (H : OHeap) : Prop :=
  ob z fun ti => vcO P T ops r Q (upd e d (.bp d ((B d).1 + 1) 0)) (newB B d ti.zero) H
@[simp] theorem alK_some (q : TK) (n by_ : Nat) (z : List LV) (d : Nat) (r : List Oper) (Q : KPost) : alK (some ⟨q, n, by_, z⟩) d P T ops r Q e B H = vcO P T ops r Q (upd e d (.bp d ((B d).1 + 1) 0)) (newB B d z) H := rfl
def bxK (z : Option (List LV)) (d : Nat) (P : Program) (T : Tab) (ops : Array Oper) (r : List Oper) (Q : KPost) (e : Env) (B : Box) (H : OHeap) : Prop :=
  ob z fun cs => vcO P T ops r Q (upd e d (.bp d ((B d).1 + 1) 0)) (newB B d cs) H
@[simp] theorem bxK_some (z : List LV) (d : Nat) (r : List Oper) (Q : KPost) : bxK (some z) d P T ops r Q e B H = vcO P T ops r Q (upd e d (.bp d ((B d).1 + 1) 0)) (newB B d z) H := rfl
@[simp] theorem bxK_ite (c : Prop) [Decidable c] (x : Option (List LV)) (d : Nat) (r : List Oper) (Q : KPost) : bxK (if c then x else none) d P T ops r Q e B H = (c ∧ bxK x d P T ops r Q e B H) := by by_cases h : c <;> simp [h, bxK]

def cellsO : Option LO → Option (List LV × Nat) | some (.cells cs n) => some (cs, n) | _ => none
@[simp] theorem cellsO_cells (cs : List LV) (n : Nat) : cellsO (some (.cells cs n)) = some (cs, n) := rfl
@[simp] theorem cellsO_none : cellsO none = none := rfl
def stB (bx : Option (List LV)) (d o : Nat) (ns : List LV) (P : Program) (T : Tab) (ops : Array Oper) (r : List Oper) (dst : Option Tmp) (Q : KPost) (e : Env) (B : Box) (H : OHeap) : Prop :=
  ob bx fun cs => o + ns.length ≤ cs.length ∧ vcO P T ops r Q (updo e dst .any) (setB B d (seg cs o ns)) H
@[simp] theorem stB_some (cs : List LV) (d o : Nat) (ns : List LV) (r : List Oper) (dst : Option Tmp) (Q : KPost) : stB (some cs) d o ns P T ops r dst Q e B H = (o + ns.length ≤ cs.length ∧ vcO P T ops r Q (updo e dst .any) (setB B d (seg cs o ns)) H) := rfl
def stP (hx : Option (List LV × Nat)) (b o : Nat) (ns : List LV) (P : Program) (T : Tab) (ops : Array Oper) (r : List Oper) (dst : Option Tmp) (Q : KPost) (e : Env) (B : Box) (H : OHeap) : Prop :=
  ob hx fun x => (o ≤ x.1.length ∧ o + ns.length ≤ x.2) ∧ vcO P T ops r Q (updo e dst .any) B (setH H b (.cells (seg x.1 o ns) x.2))
@[simp] theorem stP_some (cs : List LV) (n b o : Nat) (ns : List LV) (r : List Oper) (dst : Option Tmp) (Q : KPost) : stP (some (cs, n)) b o ns P T ops r dst Q e B H = ((o ≤ cs.length ∧ o + ns.length ≤ n) ∧ vcO P T ops r Q (updo e dst .any) B (setH H b (.cells (seg cs o ns) n))) := rfl
def stK (z : Option TI) (nz : Option (List LV)) (p : LV) (P : Program) (T : Tab) (ops : Array Oper) (r : List Oper) (dst : Option Tmp) (Q : KPost) (e : Env) (B : Box) (H : OHeap) : Prop :=
  ob z fun ti => ob nz fun ns => ns.length = ti.size ∧ stL B H p ns fun B' H' => vcO P T ops r Q (updo e dst .any) B' H'
@[simp] theorem stK_bp (q : TK) (n by_ : Nat) (z ns : List LV) (d v o : Nat) (r : List Oper) (dst : Option Tmp) (Q : KPost) :
    stK (some ⟨q, n, by_, z⟩) (some ns) (.bp d v o) P T ops r dst Q e B H = (ns.length = n ∧ (B d).1 = v ∧ stB (B d).2 d o ns P T ops r dst Q e B H) := by
  simp only [stK, ob_some, stL, stB]; cases (B d).2 <;> rfl
@[simp] theorem stK_ptr (q : TK) (n by_ : Nat) (z ns : List LV) (b o : Nat) (r : List Oper) (dst : Option Tmp) (Q : KPost) :
    stK (some ⟨q, n, by_, z⟩) (some ns) (.ptr b o) P T ops r dst Q e B H = (ns.length = n ∧ stP (cellsO (H b)) b o ns P T ops r dst Q e B H) := by
  simp only [stK, ob_some, stL, stP]; cases h : H b with
  | none => rfl
  | some lo => cases lo <;> rfl
@[simp] theorem stK_ite (z : Option TI) (c : Prop) [Decidable c] (x : Option (List LV)) (p : LV) (r : List Oper) (dst : Option Tmp) (Q : KPost) : stK z (if c then x else none) p P T ops r dst Q e B H = (c ∧ stK z x p P T ops r dst Q e B H) := by
  by_cases h : c <;> cases z <;> simp [h, stK]

def apK (z zx : Option TI) (s x : LV) (P : Program) (T : Tab) (ops : Array Oper) (r : List Oper) (dst : Option Tmp) (Q : KPost) (e : Env) (B : Box) (H : OHeap) : Prop :=
  ob z fun ti => ob zx fun tix => match ti.kind with
        | .slice el => ob (T el) fun ei => srcKind tix.kind x ∧ appL H ei.size ei.bytes s x (kont P T ops r dst Q e B)
        | _ => False
def apE (z : Option TI) (q : TK) (s x : LV) (k : LV → OHeap → Prop) (H : OHeap) : Prop := ob z fun ei => srcKind q x ∧ appL H ei.size ei.bytes s x k
@[simp] theorem apE_some (q : TK) (n by_ : Nat) (z : List LV) (qx : TK) (s x : LV) (k : LV → OHeap → Prop) : apE (some ⟨q, n, by_, z⟩) qx s x k H = (srcKind qx x ∧ appL H n by_ s x k) := rfl
@[simp] theorem apK_some (el : TypeId) (n by_ : Nat) (z : List LV) (qx : TK) (nx bx : Nat) (zx : List LV) (s x : LV) (r : List Oper) (dst : Option Tmp) (Q : KPost) :
    apK (some ⟨.slice el, n, by_, z⟩) (some ⟨qx, nx, bx, zx⟩) s x P T ops r dst Q e B H = apE (T el) qx s x (kont P T ops r dst Q e B) H := rfl

def mkE (z : Option TI) (l c : LV) (k : LV → OHeap → Prop) (H : OHeap) : Prop := match z, l, c with
  | some ei, .int _ ln, .int _ cn => (0 ≤ ln ∧ ln ≤ cn ∧ (ei.bytes : Int) * cn ≤ 281474976710656 ∧ cn ≤ 9223372036854775807) ∧
            ∀ b, H b = none → k (.sl b 0 ln.toNat cn.toNat) (setH H b (.cells (zerosL ei.zero cn.toNat) (cn.toNat * ei.size)))
  | _, _, _ => False
@[simp] theorem mkE_some (q : TK) (n by_ : Nat) (z : List LV) (k1 k2 : IntKind) (ln cn : Int) (k : LV → OHeap → Prop) : mkE (some ⟨q, n, by_, z⟩) (.int k1 ln) (.int k2 cn) k H = ((0 ≤ ln ∧ ln ≤ cn ∧ (by_ : Int) * cn ≤ 281474976710656 ∧ cn ≤ 9223372036854775807) ∧
            ∀ b, H b = none → k (.sl b 0 ln.toNat cn.toNat) (setH H b (.cells (zerosL z cn.toNat) (cn.toNat * n)))) := rfl
def mkK (z : Option TI) (l c : LV) (P : Program) (T : Tab) (ops : Array Oper) (r : List Oper) (dst : Option Tmp) (Q : KPost) (e : Env) (B : Box) (H : OHeap) : Prop :=
  ob z fun ti => match ti.kind with | .slice el => mkE (T el) l c (kont P T ops r dst Q e B) H | _ => False
@[simp] theorem mkK_some (el : TypeId) (n by_ : Nat) (z : List LV) (l c : LV) (r : List Oper) (dst : Option Tmp) (Q : KPost) :
    mkK (some ⟨.slice el, n, by_, z⟩) l c P T ops r dst Q e B H = mkE (T el) l c (kont P T ops r dst Q e B) H := rfl

def cpE (z : Option TI) (s x : LV) (k : LV → OHeap → Prop) (H : OHeap) : Prop := match z, s with
          | some ei, .sl b off len cap => (match x with | .str _ => False | _ => True) ∧ match H b, srcL H ei.size (cutL len x) with
            | some (.cells cs m), some (n, ns) => (ns.all LV.one = true ∧ off ≤ cs.length ∧ off + min n len * ei.size ≤ m) ∧
                k (.int .i64 (min n len : Nat)) (setH H b (.cells (seg cs off (ns.take (min n len * ei.size))) m))
            | _, _ => False
          | _, _ => False
def cpK (z : Option TI) (s x : LV) (P : Program) (T : Tab) (ops : Array Oper) (r : List Oper) (dst : Option Tmp) (Q : KPost) (e : Env) (B : Box) (H : OHeap) : Prop :=
  ob z fun ti => match ti.kind with | .slice el => cpE (T el) s x (kont P T ops r dst Q e B) H | _ => False
@[simp] theorem cpK_some (el : TypeId) (n by_ : Nat) (z : List LV) (l c : LV) (r : List Oper) (dst : Option Tmp) (Q : KPost) :
    cpK (some ⟨.slice el, n, by_, z⟩) l c P T ops r dst Q e B H = cpE (T el) l c (kont P T ops r dst Q e B) H := rfl
def crE (z : Option TI) (s : LV) (k : LV → OHeap → Prop) (H : OHeap) : Prop := match z, s with
          | some ei, .sl b off len cap => ob (cellsO (H b)) fun x => (off ≤ x.1.length ∧ off + len * ei.size ≤ x.2) ∧ k (.tup []) (setH H b (.cells (seg x.1 off (zerosL ei.zero len)) x.2))
          | _, _ => False
@[simp] theorem crE_some (q : TK) (n by_ : Nat) (z : List LV) (b off len cap : Nat) (k : LV → OHeap → Prop) : crE (some ⟨q, n, by_, z⟩) (.sl b off len cap) k H = ob (cellsO (H b)) fun x => (off ≤ x.1.length ∧ off + len * n ≤ x.2) ∧ k (.tup []) (setH H b (.cells (seg x.1 off (zerosL z len)) x.2)) := rfl
def crK (z : Option TI) (s : LV) (P : Program) (T : Tab) (ops : Array Oper) (r : List Oper) (dst : Option Tmp) (Q : KPost) (e : Env) (B : Box) (H : OHeap) : Prop :=
  ob z fun ti => match ti.kind with | .slice el => crE (T el) s (kont P T ops r dst Q e B) H | _ => False
@[simp] theorem crK_some (el : TypeId) (n by_ : Nat) (z : List LV) (l : LV) (r : List Oper) (dst : Option Tmp) (Q : KPost) :
    crK (some ⟨.slice el, n, by_, z⟩) l P T ops r dst Q e B H = crE (T el) l (kont P T ops r dst Q e B) H := rfl

theorem vcO_append : ∀ (a b : List Oper) (Q : KPost) (e : Env) (B : Box) (H : OHeap), vcO P T ops (a ++ b) Q e B H = vcO P T ops a (vcO P T ops b Q) e B H := by
  intro a
  induction a with
  | nil => intros; rfl
  | cons o a ih =>
    intro b Q e B H
    simp only [List.cons_append]
    unfold vcO
    simp only [ih]
@[simp↓] theorem vcO_append' (a b : List Oper) (Q : KPost) : vcO P T ops (List.append a b) Q e B H = vcO P T ops a (vcO P T ops b Q) e B H := vcO_append a b Q e B H
@[simp↓] theorem vcO_nil (Q : KPost) : vcO P T ops [] Q e B H = Q e B H := rfl

/-- The slot of a guard. -/
def gl : List Oper → Nat → Option Tmp
  | [], _ => none
  | o :: l, 0 => o.dst
  | o :: l, j + 1 => gl l j
@[simp↓] theorem gl_zero (dst : Option Tmp) (op : Op) (ty : TypeId) (pos : String) (af : Array Edge) (gd : Option (Nat × Bool)) (l : List Oper) : gl (⟨dst, op, ty, pos, af, gd⟩ :: l) 0 = dst := rfl
@[simp↓] theorem gl_succ (o : Oper) (l : List Oper) (j : Nat) : gl (o :: l) (j + 1) = gl l j := rfl
theorem gl_eq (l : List Oper) (j : Nat) : (l.toArray[j]?).bind (·.dst) = gl l j := by
  induction l generalizing j with
  | nil => simp [gl]
  | cons o l ih =>
    cases j with
    | zero => simp [gl]
    | succ j => rw [gl_succ, ← ih j]; simp

def gK (z : Option Tmp) (want : Bool) (o : Oper) (P : Program) (T : Tab) (ops : Array Oper) (r : List Oper) (Q : KPost) (e : Env) (B : Box) (H : OHeap) : Prop :=
  ob z fun t => gcnd (e t)
          (fun v => if want = true then oneS P T o (upd e t v) B H fun x B' H' => vcO P T ops r Q (updo (upd e t v) o.dst x) B' H'
            else vcO P T ops r Q (updo (upd e t v) o.dst (.tup [])) B H)
          (fun v => if want = true then vcO P T ops r Q (updo (upd e t v) o.dst (.tup [])) B H
            else oneS P T o (upd e t v) B H fun x B' H' => vcO P T ops r Q (updo (upd e t v) o.dst x) B' H')
          (vcO P T ops r Q (updo e o.dst (.tup [])) B H)
def gV (v : LV) (t : Tmp) (want : Bool) (o : Oper) (P : Program) (T : Tab) (ops : Array Oper) (r : List Oper) (Q : KPost) (e : Env) (B : Box) (H : OHeap) : Prop :=
  gcnd v
          (fun v => if want = true then vcO P T ops (o :: r) Q (upd e t v) B H
            else vcO P T ops r Q (updo (upd e t v) o.dst (.tup [])) B H)
          (fun v => if want = true then vcO P T ops r Q (updo (upd e t v) o.dst (.tup [])) B H
            else vcO P T ops (o :: r) Q (upd e t v) B H)
          (vcO P T ops r Q (updo e o.dst (.tup [])) B H)
section
variable {dst : Option Tmp} {op : Op} {ty : TypeId} {pos : String} {af : Array Edge} {r : List Oper} {Q : KPost}
@[simp] theorem gK_some (t : Tmp) (want : Bool) : gK (some t) want ⟨dst, op, ty, pos, af, none⟩ P T ops r Q e B H = gV (e t) t want ⟨dst, op, ty, pos, af, none⟩ P T ops r Q e B H := rfl
@[simp high] theorem gV_tt (t : Tmp) (o : Oper) : gV (.bool true) t true o P T ops r Q e B H = vcO P T ops (o :: r) Q (upd e t (.bool true)) B H := by simp [gV, gcnd]
@[simp high] theorem gV_tf (t : Tmp) (o : Oper) : gV (.bool true) t false o P T ops r Q e B H = vcO P T ops r Q (updo (upd e t (.bool true)) o.dst (.tup [])) B H := by simp [gV, gcnd]
@[simp high] theorem gV_ft (t : Tmp) (o : Oper) : gV (.bool false) t true o P T ops r Q e B H = vcO P T ops r Q (updo (upd e t (.bool false)) o.dst (.tup [])) B H := by simp [gV, gcnd]
@[simp high] theorem gV_ff (t : Tmp) (o : Oper) : gV (.bool false) t false o P T ops r Q e B H = vcO P T ops (o :: r) Q (upd e t (.bool false)) B H := by simp [gV, gcnd]
@[simp] theorem gV_u (t : Tmp) (want : Bool) (o : Oper) : gV (.tup []) t want o P T ops r Q e B H = vcO P T ops r Q (updo e o.dst (.tup [])) B H := rfl
@[simp] theorem gV_t (t : Tmp) (b : Bool) (o : Oper) : gV (.bool b) t true o P T ops r Q e B H = ifB b (vcO P T ops (o :: r) Q (upd e t (.bool true)) B H) (vcO P T ops r Q (updo (upd e t (.bool false)) o.dst (.tup [])) B H) := by simp [gV, gcnd]
@[simp] theorem gV_f (t : Tmp) (b : Bool) (o : Oper) : gV (.bool b) t false o P T ops r Q e B H = ifB b (vcO P T ops r Q (updo (upd e t (.bool true)) o.dst (.tup [])) B H) (vcO P T ops (o :: r) Q (upd e t (.bool false)) B H) := by simp [gV, gcnd]
@[simp↓] theorem vcO_guard (j : Nat) (want : Bool) (l : List Oper) : vcO P T l.toArray (⟨dst, op, ty, pos, af, some (j, want)⟩ :: r) Q e B H = gK (gl l j) want ⟨dst, op, ty, pos, af, none⟩ P T l.toArray r Q e B H := by
  rw [← gl_eq]
  conv => lhs; unfold vcO
  unfold gK
  dsimp only
  cases (l.toArray[j]?).bind (·.dst) <;> rfl
@[simp↓] theorem vcO_move (p : Operand) : vcO P T ops (⟨dst, .move p, ty, pos, af, none⟩ :: r) Q e B H = vK (some (ev e p)) P T ops r dst Q e B H := rfl
@[simp↓] theorem vcO_assign (p : Operand) : vcO P T ops (⟨dst, .assign p, ty, pos, af, none⟩ :: r) Q e B H = vK (some (ev e p)) P T ops r dst Q e B H := rfl
@[simp↓] theorem vcO_pick (c p q : Operand) : vcO P T ops (⟨dst, .pick c p q, ty, pos, af, none⟩ :: r) Q e B H = vK (pfPick (ev e c) (ev e p) (ev e q)) P T ops r dst Q e B H := rfl
@[simp↓] theorem vcO_load (t : TypeId) (p : Operand) : vcO P T ops (⟨dst, .load t p, ty, pos, af, none⟩ :: r) Q e B H = vK (pfLoad T B H t (ev e p)) P T ops r dst Q e B H := rfl
@[simp↓] theorem vcO_nilCheck (p : Operand) : vcO P T ops (⟨dst, .nilCheck p, ty, pos, af, none⟩ :: r) Q e B H = vK (if (notNil (ev e p) || bpHere B (ev e p)) = true then some (ev e p) else none) P T ops r dst Q e B H := rfl
@[simp↓] theorem vcO_binOp (bo : BinOp) (t yt : TypeId) (p q : Operand) : vcO P T ops (⟨dst, .binOp bo t p q yt, ty, pos, af, none⟩ :: r) Q e B H = vK (binL T bo t (ev e p) (ev e q)) P T ops r dst Q e B H := rfl
@[simp↓] theorem vcO_unOp (bo : UnOp) (t : TypeId) (p : Operand) : vcO P T ops (⟨dst, .unOp bo t p, ty, pos, af, none⟩ :: r) Q e B H = vK (pfUn bo (ev e p)) P T ops r dst Q e B H := rfl
@[simp↓] theorem vcO_convert (s d : TypeId) (p : Operand) : vcO P T ops (⟨dst, .convert s d p, ty, pos, af, none⟩ :: r) Q e B H = vK (pfConvM T H s d (ev e p)) P T ops r dst Q e B H := rfl
@[simp↓] theorem vcO_fieldAddr (s : TypeId) (p : Operand) (f : Nat) : vcO P T ops (⟨dst, .fieldAddr s p f, ty, pos, af, none⟩ :: r) Q e B H = vK (pfFieldAddr T B s (ev e p) f) P T ops r dst Q e B H := rfl
@[simp↓] theorem vcO_field (t : TypeId) (p : Operand) (f : Nat) : vcO P T ops (⟨dst, .field t p f, ty, pos, af, none⟩ :: r) Q e B H = vK (pfField T t (ev e p) f) P T ops r dst Q e B H := rfl
@[simp↓] theorem vcO_indexAddr (t : TypeId) (p i : Operand) : vcO P T ops (⟨dst, .indexAddr t p i, ty, pos, af, none⟩ :: r) Q e B H = vK (pfIndexAddr T B t (ev e p) (ev e i)) P T ops r dst Q e B H := rfl
@[simp↓] theorem vcO_index (t : TypeId) (p i : Operand) : vcO P T ops (⟨dst, .index t p i, ty, pos, af, none⟩ :: r) Q e B H = vK (pfIndex T t (ev e p) (ev e i)) P T ops r dst Q e B H := rfl
@[simp↓] theorem vcO_slice (t : TypeId) (p : Operand) (lo hi mx : Option Operand) : vcO P T ops (⟨dst, .slice t p lo hi mx, ty, pos, af, none⟩ :: r) Q e B H = vK (pfSlice T t (ev e p) (lo.map (ev e)) (hi.map (ev e)) (mx.map (ev e))) P T ops r dst Q e B H := rfl
@[simp↓] theorem vcO_extract (p : Operand) (i : Nat) : vcO P T ops (⟨dst, .extract p i, ty, pos, af, none⟩ :: r) Q e B H = vK (pfExtract (ev e p) i) P T ops r dst Q e B H := rfl
@[simp↓] theorem vcO_iface (t : TypeId) (p : Operand) : vcO P T ops (⟨dst, .makeInterface t p, ty, pos, af, none⟩ :: r) Q e B H = vK (pfIface T t (ev e p)) P T ops r dst Q e B H := rfl
@[simp↓] theorem vcO_makeFunc (fn : Fn) (fst caps : Array Operand) : vcO P T ops (⟨dst, .makeFunc fn fst caps, ty, pos, af, none⟩ :: r) Q e B H = vK (pfFunc e fn fst caps) P T ops r dst Q e B H := rfl
@[simp↓] theorem vcO_build (t : TypeId) (ps : Array (Nat × Operand)) : vcO P T ops (⟨dst, .build t ps, ty, pos, af, none⟩ :: r) Q e B H = vK (pfBuild T e t ps) P T ops r dst Q e B H := rfl
@[simp↓] theorem vcO_buildSlice (t : TypeId) (n : Nat) (ps : Array (Nat × Operand)) : vcO P T ops (⟨dst, .buildSlice t n ps, ty, pos, af, none⟩ :: r) Q e B H = vK (pfBuildSlice T e t n ps) P T ops r dst Q e B H := rfl
@[simp↓] theorem vcO_len (p : Operand) (t : TypeId) : vcO P T ops (⟨dst, .call ⟨.builtin .len, #[p], #[t]⟩, ty, pos, af, none⟩ :: r) Q e B H = vK (pfLen T H t (ev e p)) P T ops r dst Q e B H := rfl
@[simp↓] theorem vcO_cap (p : Operand) (t : TypeId) : vcO P T ops (⟨dst, .call ⟨.builtin .cap, #[p], #[t]⟩, ty, pos, af, none⟩ :: r) Q e B H = vK (pfCap T t (ev e p)) P T ops r dst Q e B H := rfl
@[simp↓] theorem vcO_min (p q : Operand) (t u : TypeId) : vcO P T ops (⟨dst, .call ⟨.builtin .min, #[p, q], #[t, u]⟩, ty, pos, af, none⟩ :: r) Q e B H = vK (pfMin (ev e p) (ev e q)) P T ops r dst Q e B H := rfl
@[simp↓] theorem vcO_max (p q : Operand) (t u : TypeId) : vcO P T ops (⟨dst, .call ⟨.builtin .max, #[p, q], #[t, u]⟩, ty, pos, af, none⟩ :: r) Q e B H = vK (pfMax (ev e p) (ev e q)) P T ops r dst Q e B H := rfl
@[simp↓] theorem vcO_call (f : Operand) (args : Array Operand) (ts : Array TypeId) : vcO P T ops (⟨dst, .call ⟨.value f, args, ts⟩, ty, pos, af, none⟩ :: r) Q e B H = clK (ev e f) (evs e args) P T ops r dst Q e B H := by
  show oneS P T ⟨dst, .call ⟨.value f, args, ts⟩, ty, pos, af, none⟩ e B H (fun x B' H' => vcO P T ops r Q (updo e dst x) B' H') = _
  simp only [oneS, callee, clK]
  cases ev e f <;> rfl
@[simp↓] theorem vcO_alloc (d : Nat) (t : TypeId) : vcO P T ops (⟨some d, .alloc t, ty, pos, af, none⟩ :: r) Q e B H = alK (T t) d P T ops r Q e B H := by
  show opS T ⟨some d, .alloc t, ty, pos, af, none⟩ e B H (fun x B' H' => vcO P T ops r Q (updo e (some d) x) B' H') = _
  unfold opS alK
  cases h : T t <;> simp [h]
@[simp↓] theorem vcO_box (d : Nat) (t : TypeId) (x : Operand) : vcO P T ops (⟨some d, .box t x, ty, pos, af, none⟩ :: r) Q e B H = bxK (lcells (ev e x)) d P T ops r Q e B H := by
  show opS T ⟨some d, .box t x, ty, pos, af, none⟩ e B H (fun x B' H' => vcO P T ops r Q (updo e (some d) x) B' H') = _
  unfold opS bxK
  cases h : lcells (ev e x) <;> simp [h]
@[simp↓] theorem vcO_store (t : TypeId) (p x : Operand) : vcO P T ops (⟨dst, .store t p x, ty, pos, af, none⟩ :: r) Q e B H = stK (T t) (lcells (ev e x)) (ev e p) P T ops r dst Q e B H := by
  show opS T ⟨dst, .store t p x, ty, pos, af, none⟩ e B H (fun x B' H' => vcO P T ops r Q (updo e dst x) B' H') = _
  unfold opS stK
  cases h : T t <;> cases h' : lcells (ev e x) <;> simp [h, h']
@[simp↓] theorem vcO_app (s x : Operand) (t tx : TypeId) : vcO P T ops (⟨dst, .call ⟨.builtin .append, #[s, x], #[t, tx]⟩, ty, pos, af, none⟩ :: r) Q e B H = apK (T t) (T tx) (ev e s) (ev e x) P T ops r dst Q e B H := by
  show opS T ⟨dst, .call ⟨.builtin .append, #[s, x], #[t, tx]⟩, ty, pos, af, none⟩ e B H (fun x B' H' => vcO P T ops r Q (updo e dst x) B' H') = _
  unfold opS apK
  cases h : T t with
  | none => simp [h]
  | some ti =>
    cases h' : T tx with
    | none => simp [h, h']
    | some tix =>
      simp [h, h']
      cases hk : ti.kind <;> simp [hk]
      rename_i el
      cases h'' : T el <;> simp [h'']
      exact fun _ => Iff.rfl
@[simp↓] theorem vcO_makeSlice (t : TypeId) (l c : Operand) : vcO P T ops (⟨dst, .makeSlice t l c, ty, pos, af, none⟩ :: r) Q e B H = mkK (T t) (ev e l) (ev e c) P T ops r dst Q e B H := by
  show opS T ⟨dst, .makeSlice t l c, ty, pos, af, none⟩ e B H (fun x B' H' => vcO P T ops r Q (updo e dst x) B' H') = _
  unfold opS mkK
  cases h : T t with
  | none => simp [h]
  | some ti => simp [h]; cases hk : ti.kind <;> simp [hk]; rfl
@[simp↓] theorem vcO_copy (s x : Operand) (t tx : TypeId) : vcO P T ops (⟨dst, .call ⟨.builtin .copy, #[s, x], #[t, tx]⟩, ty, pos, af, none⟩ :: r) Q e B H = cpK (T t) (ev e s) (ev e x) P T ops r dst Q e B H := by
  show opS T ⟨dst, .call ⟨.builtin .copy, #[s, x], #[t, tx]⟩, ty, pos, af, none⟩ e B H (fun x B' H' => vcO P T ops r Q (updo e dst x) B' H') = _
  unfold opS cpK
  cases h : T t with
  | none => simp [h]
  | some ti => obtain ⟨q, n, by_, z⟩ := ti; simp only [h]; cases q <;> rfl
@[simp↓] theorem vcO_clear (s : Operand) (t : TypeId) : vcO P T ops (⟨dst, .call ⟨.builtin .clear, #[s], #[t]⟩, ty, pos, af, none⟩ :: r) Q e B H = crK (T t) (ev e s) P T ops r dst Q e B H := by
  show opS T ⟨dst, .call ⟨.builtin .clear, #[s], #[t]⟩, ty, pos, af, none⟩ e B H (fun x B' H' => vcO P T ops r Q (updo e dst x) B' H') = _
  unfold opS crK
  cases h : T t with
  | none => simp [h]
  | some ti =>
    simp [h]; cases hk : ti.kind <;> simp [hk]
    unfold crE
    rename_i el
    cases T el <;> cases ev e s <;> try rfl
    rename_i b off len cap
    simp only
    cases h : H b with
    | none => rfl
    | some lo => cases lo <;> rfl
end

/-- A test between pieces. -/
def cK (v : LV) (t : Tmp) (x y : Code) (P : Program) (T : Tab) (ρ : Option Nat) (N : Nat) (Q : Post) (e : Env) (B : Box) (H : OHeap) : Prop :=
  cnd v (fun v => vc P T ρ N x Q (upd e t v) B H) (fun v => vc P T ρ N y Q (upd e t v) B H)
@[simp high] theorem cK_true (t : Tmp) (x y : Code) (Q : Post) : cK (.bool true) t x y P T ρ N Q e B H = vc P T ρ N x Q (upd e t (.bool true)) B H := by simp [cK]
@[simp high] theorem cK_false (t : Tmp) (x y : Code) (Q : Post) : cK (.bool false) t x y P T ρ N Q e B H = vc P T ρ N y Q (upd e t (.bool false)) B H := by simp [cK]
@[simp] theorem cK_bool (b : Bool) (t : Tmp) (x y : Code) (Q : Post) : cK (.bool b) t x y P T ρ N Q e B H = ifB b (vc P T ρ N x Q (upd e t (.bool true)) B H) (vc P T ρ N y Q (upd e t (.bool false)) B H) := rfl

/-- The end of a body. -/
def rK (x : Option LV) (Q : LV → OHeap → Prop) (H : OHeap) : Prop := ob x fun r => Ends Q r H
@[simp] theorem rK_some (x : LV) (Q : LV → OHeap → Prop) : rK (some x) Q H = Ends Q x H := rfl
@[simp] theorem rK_none (Q : LV → OHeap → Prop) : rK none Q H = False := rfl
@[simp] theorem rK_ite (c : Prop) [Decidable c] (x : Option LV) (Q : LV → OHeap → Prop) : rK (if c then x else none) Q H = (c ∧ rK x Q H) := by by_cases h : c <;> simp [h]

section
variable {Q : Post} {x y c : Code}
@[simp↓] theorem vc_skip : vc P T ρ N .skip Q e B H = Q .norm e B H := rfl
@[simp↓] theorem vc_label (l : Nat) : vc P T ρ N (.label l) Q e B H = Q .norm e B H := rfl
@[simp↓] theorem vc_exit (i : Nat) : vc P T ρ N (.exit i) Q e B H = Q (.exit i) e B H := rfl
@[simp↓] theorem vc_ret : vc P T ρ N .ret Q e B H = Q .ret e B H := rfl
@[simp↓] theorem vc_region (id : Nat) (l : List Oper) : vc P T ρ N (.region id l.toArray false) Q e B H = vcO P T l.toArray l (Q .norm) e B H := rfl
@[simp↓] theorem vc_seq : vc P T ρ N (.seq x y) Q e B H = vc P T ρ N x (After (vc P T ρ N y) Q) e B H := rfl
@[simp↓] theorem vc_cond (t : Tmp) : vc P T ρ N (.cond (.tmp t) x y) Q e B H = cK (e t) t x y P T ρ N Q e B H := rfl
theorem vc_condc (v : Value) : vc P T ρ N (.cond (.const v) x y) Q e B H = cnd (ofV v) (fun _ => vc P T ρ N x Q e B H) (fun _ => vc P T ρ N y Q e B H) := rfl
@[simp↓] theorem vc_block (id : Nat) : vc P T ρ N (.block id c) Q e B H = vc P T ρ N c (InBlock id Q) e B H := rfl
@[simp↓] theorem vc_scope : vc P T ρ N (.scope c) Q e B H = vc P T ρ N c Q e B H := rfl
@[simp↓] theorem vc_loop : vc P T ρ N (.loop c) Q e B H = WP P ρ N (.loop c) Q e B H := rfl
@[simp↓] theorem vc_rangeFunc (f : Operand) (ps : Array Tmp) : vc P T ρ N (.rangeFunc f ps x y) Q e B H = WP P ρ N (.rangeFunc f ps x y) Q e B H := rfl
@[simp↓] theorem vc_draw (id : Nat) (ops : Array Oper) : vc P T ρ N (.region id ops true) Q e B H = WP P ρ N (.region id ops true) Q e B H := rfl
@[simp↓] theorem After_norm (y : Post → Env → Box → OHeap → Prop) : After y Q .norm e B H = y Q e B H := rfl
@[simp↓] theorem After_exit (y : Post → Env → Box → OHeap → Prop) (i : Nat) : After y Q (.exit i) e B H = Q (.exit i) e B H := rfl
@[simp↓] theorem After_ret (y : Post → Env → Box → OHeap → Prop) : After y Q .ret e B H = Q .ret e B H := rfl
@[simp↓] theorem InBlock_norm (id : Nat) : InBlock id Q .norm e B H = Q .norm e B H := rfl
@[simp↓] theorem InBlock_exit (id i : Nat) : InBlock id Q (.exit i) e B H = if i = id then Q .norm e B H else Q (.exit i) e B H := rfl
@[simp↓] theorem InBlock_ret (id : Nat) : InBlock id Q .ret e B H = Q .ret e B H := rfl
@[simp↓] theorem Again_norm (I : Nat → Env → Box → OHeap → Prop) (m : Nat) : Again I m Q .norm e B H = ∃ m', m' < m ∧ I m' e B H := rfl
@[simp↓] theorem Again_exit (I : Nat → Env → Box → OHeap → Prop) (m i : Nat) : Again I m Q (.exit i) e B H = Q (.exit i) e B H := rfl
@[simp↓] theorem Again_ret (I : Nat → Env → Box → OHeap → Prop) (m : Nat) : Again I m Q .ret e B H = Q .ret e B H := rfl
@[simp↓] theorem RetQ_norm (fn : Func) (Qr : LV → OHeap → Prop) : RetQ T fn Qr .norm e B H = rK (resL T fn.results.toList e B H) Qr H := by
  simp only [RetQ, rK]; cases resL T fn.results.toList e B H <;> simp
@[simp↓] theorem RetQ_ret (fn : Func) (Qr : LV → OHeap → Prop) : RetQ T fn Qr .ret e B H = rK (resL T fn.results.toList e B H) Qr H := by
  simp only [RetQ, rK]; cases resL T fn.results.toList e B H <;> simp
@[simp↓] theorem RetQ_exit (fn : Func) (Qr : LV → OHeap → Prop) (i : Nat) : RetQ T fn Qr (.exit i) e B H = False := rfl
end

/-- What is computed once of a function. -/
def fnOk (fn : Func) (nargs : Nat) : Bool := !(fn.name == "runtime.NumGoroutine") && decide (nargs ≤ fn.ntmps) && (match fn.body with | some c => dstOk fn.ntmps c | none => false)

/-- THE CONTRACT FROM THE BODY's CONDITION. -/
theorem CallL.of_vc (hT : TOK P T) {f : FuncId} {fn : Func} {c : Code} {args : List LV} {n : Nat} {Q : LV → OHeap → Prop} (hf : P.funcs[f]? = some fn) (hb : fn.body = some c) (hok : fnOk fn n = true) (hn : args.length = n)
    (h : vc P T none fn.ntmps c (RetQ T fn Q) (argEnv args) nobox H) : CallL P f args H Q := by
  simp only [fnOk, hb, Bool.and_eq_true, decide_eq_true_eq, Bool.not_eq_true'] at hok
  exact CallL.of_WP hT hf hb hok.1.1 hok.2 (by rw [hn]; exact hok.1.2) (vc_sound hT _ _ _ _ _ h)

@[simp] theorem ev_tmp (t : Nat) : ev e (.tmp t) = e t := rfl
@[simp] theorem ev_const (v : Value) : ev e (.const v) = ofV v := rfl
@[simp] theorem ev_global (g : Nat) : ev e (.global g) = .ptr g 0 := rfl
@[simp] theorem ev_func (f : FuncId) : ev e (.func f) = .fn f [] [] := rfl
@[simp] theorem cond_bool (c a b : Bool) : (bif c then LV.bool a else LV.bool b) = LV.bool (bif c then a else b) := by cases c <;> rfl

end
end Go.Lv
/- Lv, part M: how simp computes what a walk sees. Over any program; no condition. -/
namespace Go.Lv
open Go
set_option linter.unusedVariables false
set_option linter.unusedSimpArgs false

section
variable {T : Tab} {B : Box} {H : OHeap} {e : Env}

/-! ### Constants -/
@[simp] theorem ofV_bool (b : Bool) : ofV (.bool b) = .bool b := rfl
@[simp] theorem ofV_int (k : IntKind) (n : Int) : ofV (.int k n) = .int k n := rfl
@[simp] theorem ofV_str (s : ByteArray) : ofV (.string s) = .str s := rfl
@[simp] theorem ofV_nilp : ofV (.pointer none) = .nilp := rfl
@[simp] theorem ofV_nilsl : ofV (.slice none 0 0) = .nilsl := rfl
@[simp] theorem ofV_nilm : ofV (.map none) = .nilm := rfl
@[simp] theorem ofV_nilf : ofV .nilFunc = .nilf := rfl
@[simp] theorem ofV_nilif : ofV .nilIface = .nilif := rfl
@[simp] theorem ofV_agg (l : List Value) : ofV (.agg l.toArray) = .agg (l.map ofV1) := rfl
@[simp] theorem ofV_tup : ofV (.tuple (List.toArray [])) = .tup [] := rfl
@[simp] theorem ofV1_bool (b : Bool) : ofV1 (.bool b) = .bool b := rfl
@[simp] theorem ofV1_int (k : IntKind) (n : Int) : ofV1 (.int k n) = .int k n := rfl
@[simp] theorem ofV1_str (s : ByteArray) : ofV1 (.string s) = .str s := rfl
@[simp] theorem ofV1_nilp : ofV1 (.pointer none) = .nilp := rfl
@[simp] theorem ofV1_nilsl : ofV1 (.slice none 0 0) = .nilsl := rfl
@[simp] theorem ofV1_nilm : ofV1 (.map none) = .nilm := rfl
@[simp] theorem ofV1_nilf : ofV1 .nilFunc = .nilf := rfl
@[simp] theorem ofV1_nilif : ofV1 .nilIface = .nilif := rfl

/-! ### Which values are one cell, which may go anywhere -/
@[simp] theorem one_bool (b : Bool) : (LV.bool b).one = true := rfl
@[simp] theorem one_int (k : IntKind) (n : Int) : (LV.int k n).one = true := rfl
@[simp] theorem one_str (s : ByteArray) : (LV.str s).one = true := rfl
@[simp] theorem one_ptr (b o : Nat) : (LV.ptr b o).one = true := rfl
@[simp] theorem one_nilp : LV.nilp.one = true := rfl
@[simp] theorem one_sl (b o l c : Nat) : (LV.sl b o l c).one = true := rfl
@[simp] theorem one_nilsl : LV.nilsl.one = true := rfl
@[simp] theorem one_wsl : LV.wsl.one = true := rfl
@[simp] theorem one_isl (f : Bool) (n : Nat) (xs : List (List LV)) : (LV.isl f n xs).one = true := rfl
@[simp] theorem one_iptr (cs : List LV) : (LV.iptr cs).one = true := rfl
@[simp] theorem one_mp (b : Nat) : (LV.mp b).one = true := rfl
@[simp] theorem one_nilm : LV.nilm.one = true := rfl
@[simp] theorem one_fn (f : FuncId) (a b : List LV) : (LV.fn f a b).one = true := rfl
@[simp] theorem one_yld (l : Nat) : (LV.yld l).one = true := rfl
@[simp] theorem one_nilf : LV.nilf.one = true := rfl
@[simp] theorem one_ifc (t : TypeId) (v : LV) : (LV.ifc t v).one = true := rfl
@[simp] theorem one_nilif : LV.nilif.one = true := rfl
@[simp] theorem one_any : LV.any.one = false := rfl
@[simp] theorem one_agg (cs : List LV) : (LV.agg cs).one = false := rfl
@[simp] theorem one_tup (cs : List LV) : (LV.tup cs).one = false := rfl
@[simp] theorem one_bp (a b c : Nat) : (LV.bp a b c).one = false := rfl
@[simp] theorem glob_bool (b : Bool) : (LV.bool b).glob = true := rfl
@[simp] theorem glob_int (k : IntKind) (n : Int) : (LV.int k n).glob = true := rfl
@[simp] theorem glob_str (s : ByteArray) : (LV.str s).glob = true := rfl
@[simp] theorem glob_ptr (b o : Nat) : (LV.ptr b o).glob = true := rfl
@[simp] theorem glob_nilp : LV.nilp.glob = true := rfl
@[simp] theorem glob_sl (b o l c : Nat) : (LV.sl b o l c).glob = true := rfl
@[simp] theorem glob_nilsl : LV.nilsl.glob = true := rfl
@[simp] theorem glob_wsl : LV.wsl.glob = true := rfl
@[simp] theorem glob_isl (f : Bool) (n : Nat) (xs : List (List LV)) : (LV.isl f n xs).glob = true := rfl
@[simp] theorem glob_iptr (cs : List LV) : (LV.iptr cs).glob = true := rfl
@[simp] theorem glob_mp (b : Nat) : (LV.mp b).glob = true := rfl
@[simp] theorem glob_nilm : LV.nilm.glob = true := rfl
@[simp] theorem glob_fn (f : FuncId) (a b : List LV) : (LV.fn f a b).glob = true := rfl
@[simp] theorem glob_yld (l : Nat) : (LV.yld l).glob = true := rfl
@[simp] theorem glob_nilf : LV.nilf.glob = true := rfl
@[simp] theorem glob_ifc (t : TypeId) (v : LV) : (LV.ifc t v).glob = true := rfl
@[simp] theorem glob_nilif : LV.nilif.glob = true := rfl
@[simp] theorem glob_any : LV.any.glob = true := rfl
@[simp] theorem glob_agg (cs : List LV) : (LV.agg cs).glob = true := rfl
@[simp] theorem glob_tup (cs : List LV) : (LV.tup cs).glob = true := rfl
@[simp] theorem glob_bp (a b c : Nat) : (LV.bp a b c).glob = false := rfl

@[simp] theorem lcells_agg (cs : List LV) : lcells (.agg cs) = if cs.all LV.one = true then some cs else none := rfl
theorem lcells_one {x : LV} (h : x.one = true) : lcells x = some [x] := by cases x <;> first | rfl | simp at h
@[simp] theorem lcells_bool (b : Bool) : lcells (.bool b) = some [.bool b] := rfl
@[simp] theorem lcells_int (k : IntKind) (n : Int) : lcells (.int k n) = some [.int k n] := rfl
@[simp] theorem lcells_str (s : ByteArray) : lcells (.str s) = some [.str s] := rfl
@[simp] theorem lcells_ptr (b o : Nat) : lcells (.ptr b o) = some [.ptr b o] := rfl
@[simp] theorem lcells_nilp : lcells .nilp = some [.nilp] := rfl
@[simp] theorem lcells_sl (b o l c : Nat) : lcells (.sl b o l c) = some [.sl b o l c] := rfl
@[simp] theorem lcells_nilsl : lcells .nilsl = some [.nilsl] := rfl
@[simp] theorem lcells_wsl : lcells .wsl = some [.wsl] := rfl
@[simp] theorem lcells_isl (f : Bool) (n : Nat) (xs : List (List LV)) : lcells (.isl f n xs) = some [.isl f n xs] := rfl
@[simp] theorem lcells_iptr (cs : List LV) : lcells (.iptr cs) = some [.iptr cs] := rfl
@[simp] theorem lcells_mp (b : Nat) : lcells (.mp b) = some [.mp b] := rfl
@[simp] theorem lcells_nilm : lcells .nilm = some [.nilm] := rfl
@[simp] theorem lcells_fn (f : FuncId) (a b : List LV) : lcells (.fn f a b) = some [.fn f a b] := rfl
@[simp] theorem lcells_nilf : lcells .nilf = some [.nilf] := rfl
@[simp] theorem lcells_ifc (t : TypeId) (v : LV) : lcells (.ifc t v) = some [.ifc t v] := rfl
@[simp] theorem lcells_nilif : lcells .nilif = some [.nilif] := rfl
theorem cellsOf_eq (x : LV) : cellsOf x = lcells x := by cases x <;> rfl

/-! ### Arithmetic -/
variable {t : TypeId} {k : IntKind} {a b : Int}
@[simp] theorem binL_add : binL T .add t (.int k a) (.int k b) = some (.int k (k.wrap (a + b))) := by simp [binL, BinOp.isShift, binI]
@[simp] theorem binL_sub : binL T .sub t (.int k a) (.int k b) = some (.int k (k.wrap (a - b))) := by simp [binL, BinOp.isShift, binI]
@[simp] theorem binL_mul : binL T .mul t (.int k a) (.int k b) = some (.int k (k.wrap (a * b))) := by simp [binL, BinOp.isShift, binI]
@[simp] theorem binL_quo : binL T .quo t (.int k a) (.int k b) = if b = 0 then none else some (.int k (k.wrap (a.tdiv b))) := by simp [binL, BinOp.isShift, binI]
@[simp] theorem binL_rem : binL T .rem t (.int k a) (.int k b) = if b = 0 then none else some (.int k (a.tmod b)) := by simp [binL, BinOp.isShift, binI]
@[simp] theorem binL_and : binL T .and t (.int k a) (.int k b) = some (.int k (bits .and k a b)) := by simp [binL, BinOp.isShift, binI]
@[simp] theorem binL_or : binL T .or t (.int k a) (.int k b) = some (.int k (bits .or k a b)) := by simp [binL, BinOp.isShift, binI]
@[simp] theorem binL_xor : binL T .xor t (.int k a) (.int k b) = some (.int k (bits .xor k a b)) := by simp [binL, BinOp.isShift, binI]
@[simp] theorem binL_andNot : binL T .andNot t (.int k a) (.int k b) = some (.int k (bits .andNot k a b)) := by simp [binL, BinOp.isShift, binI]
@[simp] theorem binL_eql : binL T .eql t (.int k a) (.int k b) = some (.bool (decide (a = b))) := by simp [binL, BinOp.isShift, binI]
@[simp] theorem binL_neq : binL T .neq t (.int k a) (.int k b) = some (.bool (!decide (a = b))) := by simp [binL, BinOp.isShift, binI]
@[simp] theorem binL_lss : binL T .lss t (.int k a) (.int k b) = some (.bool (decide (a < b))) := by simp [binL, BinOp.isShift, binI]
@[simp] theorem binL_leq : binL T .leq t (.int k a) (.int k b) = some (.bool (decide (a ≤ b))) := by simp [binL, BinOp.isShift, binI]
@[simp] theorem binL_gtr : binL T .gtr t (.int k a) (.int k b) = some (.bool (decide (b < a))) := by simp [binL, BinOp.isShift, binI]
@[simp] theorem binL_geq : binL T .geq t (.int k a) (.int k b) = some (.bool (decide (b ≤ a))) := by simp [binL, BinOp.isShift, binI]
@[simp] theorem binL_shl {l : IntKind} : binL T .shl t (.int k a) (.int l b) = if b < 0 then none else some (.int k (k.wrap (a * 2 ^ (min b.toNat k.bits)))) := by simp [binL, BinOp.isShift, shiftI]
@[simp] theorem binL_shr {l : IntKind} : binL T .shr t (.int k a) (.int l b) = if b < 0 then none else some (.int k (a / 2 ^ (min b.toNat k.bits))) := by simp [binL, BinOp.isShift, shiftI]
@[simp] theorem binL_cat {s u : ByteArray} : binL T .add t (.str s) (.str u) = if s.size + u.size ≤ 9223372036854775807 then some (.str (s ++ u)) else none := by simp [binL, binS]
@[simp] theorem binL_seq {s u : ByteArray} : binL T .eql t (.str s) (.str u) = some (.bool (decide (s.toList = u.toList))) := by simp [binL, binS]
@[simp] theorem binL_sne {s u : ByteArray} : binL T .neq t (.str s) (.str u) = some (.bool (!decide (s.toList = u.toList))) := by simp [binL, binS]
/-- The kind of a type. -/
def kindT (T : Tab) (t : TypeId) : TK := match T t with | some ti => ti.kind | none => .other
theorem kindT_of {ti : TI} (h : T t = some ti) : kindT T t = ti.kind := by simp [kindT, h]
@[simp] theorem binL_beq {x y : Bool} : binL T .eql t (.bool x) (.bool y) = if kindT T t = .bool then some (.bool (x == y)) else none := by
  unfold binL kindT; cases T t <;> simp [eqB]
@[simp] theorem binL_bne {x y : Bool} : binL T .neq t (.bool x) (.bool y) = if kindT T t = .bool then some (.bool (!(x == y))) else none := by
  unfold binL kindT; cases T t <;> simp [eqB]
def eqK (T : Tab) (q : TK) (op : BinOp) (cs ds : List LV) : Option LV := match q with
  | .struct fs => if flatT T fs = true then (eqF T fs cs ds).bind (eqB op) else none
  | _ => none
@[simp] theorem eqK_struct (fs : List (TypeId × Nat)) (op : BinOp) (cs ds : List LV) : eqK T (.struct fs) op cs ds = if flatT T fs = true then (eqF T fs cs ds).bind (eqB op) else none := rfl
@[simp] theorem binL_agg (op : BinOp) (cs ds : List LV) : binL T op t (.agg cs) (.agg ds) = (T t).bind fun ti => eqK T ti.kind op cs ds := by
  unfold binL eqK; cases T t with
  | none => rfl
  | some ti => simp only [Option.bind_some]; cases ti.kind <;> rfl
@[simp] theorem flatT_nil : flatT T [] = true := rfl
@[simp] theorem flatT_cons (q : TypeId) (o : Nat) (fs : List (TypeId × Nat)) : flatT T ((q, o) :: fs) = ((match T q with | some fi => fi.kind.flat | none => false) && flatT T fs) := rfl
@[simp] theorem flat_int (k : IntKind) : (TK.int k).flat = true := rfl
@[simp] theorem flat_bool : TK.bool.flat = true := rfl
@[simp] theorem flat_str : TK.str.flat = true := rfl
@[simp] theorem eqF_nil (cs ds : List LV) : eqF T [] cs ds = some true := rfl
@[simp] theorem eqF_cons (q : TypeId) (o : Nat) (fs : List (TypeId × Nat)) (cs ds : List LV) : eqF T ((q, o) :: fs) cs ds = (T q).bind fun ti => (cs[o]?).bind fun x => (ds[o]?).bind fun y => (eq1 ti.kind x y).bind fun b => (eqF T fs cs ds).map (b && ·) := by
  conv => lhs; unfold eqF
  cases T q <;> cases cs[o]? <;> cases ds[o]? <;> rfl
@[simp] theorem eq1_int (k k' : IntKind) : eq1 (.int k') (.int k a) (.int k b) = some (decide (a = b)) := by simp [eq1]
@[simp] theorem eq1_bool (x y : Bool) : eq1 .bool (.bool x) (.bool y) = some (x == y) := rfl
@[simp] theorem eq1_str (x y : ByteArray) : eq1 .str (.str x) (.str y) = some (decide (x = y)) := rfl
@[simp] theorem eqB_eql (b : Bool) : eqB .eql b = some (.bool b) := rfl
@[simp] theorem eqB_neq (b : Bool) : eqB .neq b = some (.bool (!b)) := rfl
def TK.isSl : TK → Bool | .slice _ => true | _ => false
def TK.isPt : TK → Bool | .ptr _ => true | _ => false
def TK.isMp : TK → Bool | .map .. => true | _ => false
@[simp] theorem isSl_slice (e : TypeId) : (TK.slice e).isSl = true := rfl
@[simp] theorem isPt_ptr (e : TypeId) : (TK.ptr e).isPt = true := rfl
@[simp] theorem isMp_map (k e : TypeId) : (TK.map k e).isMp = true := rfl
theorem nilK_sl {x : LV} {q : TK} (h : q.isSl = true) : nilK q x = match x with | .nilsl | .sl .. | .isl .. | .wsl => true | _ => false := by
  cases q <;> simp [TK.isSl] at h; cases x <;> rfl
theorem binL_nil (op : BinOp) {x y : LV} {ti : TI} {b : Bool} (ht : T t = some ti) (hx : nilK ti.kind x = true) (hy : nilK ti.kind y = true) (hc : isNilC y = true) (hb : nilB x = some b) :
    binL T op t x y = eqB op b := by
  have e1 : ∀ k a, x ≠ .int k a := fun k a h => by subst h; cases hk : ti.kind <;> simp [hk, nilK] at hx
  have e2 : ∀ s, x ≠ .str s := fun s h => by subst h; cases hk : ti.kind <;> simp [hk, nilK] at hx
  have e3 : ∀ s, x ≠ .bool s := fun s h => by subst h; cases hk : ti.kind <;> simp [hk, nilK] at hx
  unfold binL
  split
  · exact absurd rfl (e1 _ _)
  · exact absurd rfl (e2 _)
  · exact absurd rfl (e3 _)
  · rename_i cs ds; cases hk : ti.kind <;> simp [hk, nilK] at hx
  · simp [ht, hx, hy, hc, hb]
section
variable {o l c bb n : Nat} {f : Bool} {xs : List (List LV)} {z : List LV}
@[simp] theorem binL_sl_nil (h : (kindT T t).isSl = true) : binL T .eql t (.sl bb o l c) .nilsl = some (.bool false) := by
  unfold kindT at h; cases ht : T t with
  | none => simp [ht, TK.isSl] at h
  | some ti => simp only [ht] at h; rw [binL_nil .eql ht (nilK_sl h) (nilK_sl h) rfl rfl]; rfl
@[simp] theorem binL_sl_nil' (h : (kindT T t).isSl = true) : binL T .neq t (.sl bb o l c) .nilsl = some (.bool true) := by
  unfold kindT at h; cases ht : T t with
  | none => simp [ht, TK.isSl] at h
  | some ti => simp only [ht] at h; rw [binL_nil .neq ht (nilK_sl h) (nilK_sl h) rfl rfl]; rfl
@[simp] theorem binL_isl_nil (h : (kindT T t).isSl = true) : binL T .eql t (.isl f n (z :: xs)) .nilsl = some (.bool false) := by
  unfold kindT at h; cases ht : T t with
  | none => simp [ht, TK.isSl] at h
  | some ti => simp only [ht] at h; rw [binL_nil .eql ht (nilK_sl h) (nilK_sl h) rfl rfl]; rfl
@[simp] theorem binL_isl_nil' (h : (kindT T t).isSl = true) : binL T .neq t (.isl f n (z :: xs)) .nilsl = some (.bool true) := by
  unfold kindT at h; cases ht : T t with
  | none => simp [ht, TK.isSl] at h
  | some ti => simp only [ht] at h; rw [binL_nil .neq ht (nilK_sl h) (nilK_sl h) rfl rfl]; rfl
@[simp] theorem binL_wsl_nil (h : (kindT T t).isSl = true) : binL T .eql t .wsl .nilsl = some (.bool false) := by
  unfold kindT at h; cases ht : T t with
  | none => simp [ht, TK.isSl] at h
  | some ti => simp only [ht] at h; rw [binL_nil .eql ht (nilK_sl h) (nilK_sl h) rfl rfl]; rfl
@[simp] theorem binL_wsl_nil' (h : (kindT T t).isSl = true) : binL T .neq t .wsl .nilsl = some (.bool true) := by
  unfold kindT at h; cases ht : T t with
  | none => simp [ht, TK.isSl] at h
  | some ti => simp only [ht] at h; rw [binL_nil .neq ht (nilK_sl h) (nilK_sl h) rfl rfl]; rfl
@[simp] theorem binL_nilsl_nil (h : (kindT T t).isSl = true) : binL T .eql t .nilsl .nilsl = some (.bool true) := by
  unfold kindT at h; cases ht : T t with
  | none => simp [ht, TK.isSl] at h
  | some ti => simp only [ht] at h; rw [binL_nil .eql ht (nilK_sl h) (nilK_sl h) rfl rfl]; rfl
@[simp] theorem binL_nilsl_nil' (h : (kindT T t).isSl = true) : binL T .neq t .nilsl .nilsl = some (.bool false) := by
  unfold kindT at h; cases ht : T t with
  | none => simp [ht, TK.isSl] at h
  | some ti => simp only [ht] at h; rw [binL_nil .neq ht (nilK_sl h) (nilK_sl h) rfl rfl]; rfl
theorem nilK_pt {x : LV} {q : TK} (h : q.isPt = true) : nilK q x = match x with | .nilp | .ptr .. | .iptr _ => true | _ => false := by
  cases q <;> simp [TK.isPt] at h; cases x <;> rfl
@[simp] theorem binL_ptr_nil (h : (kindT T t).isPt = true) : binL T .eql t (.ptr bb o) .nilp = some (.bool false) := by
  unfold kindT at h; cases ht : T t with
  | none => simp [ht, TK.isPt] at h
  | some ti => simp only [ht] at h; rw [binL_nil .eql ht (nilK_pt h) (nilK_pt h) rfl rfl]; rfl
@[simp] theorem binL_ptr_nil' (h : (kindT T t).isPt = true) : binL T .neq t (.ptr bb o) .nilp = some (.bool true) := by
  unfold kindT at h; cases ht : T t with
  | none => simp [ht, TK.isPt] at h
  | some ti => simp only [ht] at h; rw [binL_nil .neq ht (nilK_pt h) (nilK_pt h) rfl rfl]; rfl
@[simp] theorem binL_iptr_nil (h : (kindT T t).isPt = true) : binL T .eql t (.iptr z) .nilp = some (.bool false) := by
  unfold kindT at h; cases ht : T t with
  | none => simp [ht, TK.isPt] at h
  | some ti => simp only [ht] at h; rw [binL_nil .eql ht (nilK_pt h) (nilK_pt h) rfl rfl]; rfl
@[simp] theorem binL_iptr_nil' (h : (kindT T t).isPt = true) : binL T .neq t (.iptr z) .nilp = some (.bool true) := by
  unfold kindT at h; cases ht : T t with
  | none => simp [ht, TK.isPt] at h
  | some ti => simp only [ht] at h; rw [binL_nil .neq ht (nilK_pt h) (nilK_pt h) rfl rfl]; rfl
@[simp] theorem binL_nilp_nil (h : (kindT T t).isPt = true) : binL T .eql t .nilp .nilp = some (.bool true) := by
  unfold kindT at h; cases ht : T t with
  | none => simp [ht, TK.isPt] at h
  | some ti => simp only [ht] at h; rw [binL_nil .eql ht (nilK_pt h) (nilK_pt h) rfl rfl]; rfl
@[simp] theorem binL_nilp_nil' (h : (kindT T t).isPt = true) : binL T .neq t .nilp .nilp = some (.bool false) := by
  unfold kindT at h; cases ht : T t with
  | none => simp [ht, TK.isPt] at h
  | some ti => simp only [ht] at h; rw [binL_nil .neq ht (nilK_pt h) (nilK_pt h) rfl rfl]; rfl
end
@[simp] theorem pfUn_not (x : Bool) : pfUn .not (.bool x) = some (.bool (!x)) := rfl
@[simp] theorem pfUn_neg : pfUn .neg (.int k a) = some (.int k (k.wrap (-a))) := rfl
@[simp] theorem pfPick_bool (c : Bool) (x y : LV) : pfPick (.bool c) x y = some (bif c then x else y) := rfl
@[simp] theorem pfMin_int : pfMin (.int k a) (.int k b) = some (.int k (min a b)) := by simp [pfMin]
@[simp] theorem pfMax_int : pfMax (.int k a) (.int k b) = some (.int k (max a b)) := by simp [pfMax]
def convK (di : TK) (p : LV) : Option LV := match p with
  | .int _ n => match di with | .int k => some (.int k (k.wrap n)) | _ => none
  | .str s => if di = .str then some (.str s) else none
  | _ => none
@[simp] theorem pfConvM_int (s d : TypeId) (k : IntKind) (n : Int) : pfConvM T H s d (.int k n) = pfConv T s d (.int k n) := rfl
@[simp] theorem pfConv_eq (s d : TypeId) (p : LV) : pfConv T s d p = (T s).bind fun _ => (T d).bind fun di => convK di.kind p := by
  unfold pfConv convK; cases T s <;> cases T d <;> cases p <;> simp
  rename_i di _ _; cases di.kind <;> rfl
@[simp] theorem convK_int {l : IntKind} : convK (.int k) (.int l a) = some (.int k (k.wrap a)) := rfl
@[simp] theorem convK_str (s : ByteArray) : convK .str (.str s) = some (.str s) := rfl

/-! ### Pointers, fields, elements -/
@[simp] theorem agg_bool : TK.bool.agg = false := rfl
@[simp] theorem agg_int (k : IntKind) : (TK.int k).agg = false := rfl
@[simp] theorem agg_str : TK.str.agg = false := rfl
@[simp] theorem agg_ptr (e : TypeId) : (TK.ptr e).agg = false := rfl
@[simp] theorem agg_slice (e : TypeId) : (TK.slice e).agg = false := rfl
@[simp] theorem agg_map (k e : TypeId) : (TK.map k e).agg = false := rfl
@[simp] theorem agg_func : TK.func.agg = false := rfl
@[simp] theorem agg_iface : TK.iface.agg = false := rfl
@[simp] theorem agg_arr (n : Nat) (e : TypeId) : (TK.arr n e).agg = true := rfl
@[simp] theorem agg_struct (fs : List (TypeId × Nat)) : (TK.struct fs).agg = true := rfl

@[simp] theorem cellsAt_bp (d v o : Nat) : cellsAt B H (.bp d v o) = if (B d).1 = v then (B d).2.map (·.drop o) else none := rfl
/-- What is read of a block. -/
def rdO : Option LO → Option (List LV)
  | some (.cells cs _) => some cs
  | some (.blob (.cells arr _ _) _) => some (arr.toList.map ofV1)
  | _ => none
@[simp] theorem rdO_cells (cs : List LV) (n : Nat) : rdO (some (.cells cs n)) = some cs := rfl
@[simp] theorem cellsAt_ptr (b o : Nat) : cellsAt B H (.ptr b o) = (rdO (H b)).map (·.drop o) := by
  simp only [cellsAt]
  cases H b with
  | none => rfl
  | some lo => cases lo with
    | blob o K => cases o <;> rfl
    | _ => rfl
@[simp] theorem cellsAt_iptr (cs : List LV) : cellsAt B H (.iptr cs) = some cs := rfl
@[simp] theorem pfLoad_eq (t : TypeId) (p : LV) : pfLoad T B H t p = (T t).bind fun ti => (cellsAt B H p).bind fun cs => pick ti cs := by
  unfold pfLoad; cases T t <;> cases cellsAt B H p <;> simp
@[simp] theorem pick_agg (q : TK) (n by_ : Nat) (z cs : List LV) : pick ⟨q, n, by_, z⟩ cs = if q.agg = true then (if n ≤ cs.length then some (.agg (cs.take n)) else none) else cs.head? := rfl
@[simp] theorem ptrAdd_bp (d v o n : Nat) : ptrAdd B (.bp d v o) n = if (B d).1 = v ∧ (B d).2.isSome = true then some (.bp d v (o + n)) else none := rfl
@[simp] theorem ptrAdd_ptr (b o n : Nat) : ptrAdd B (.ptr b o) n = some (.ptr b (o + n)) := rfl
@[simp] theorem ptrAdd_iptr (cs : List LV) (n : Nat) : ptrAdd B (.iptr cs) n = if n ≤ cs.length then some (.iptr (cs.drop n)) else none := rfl
def TK.fields : TK → Option (List (TypeId × Nat)) | .struct fs => some fs | _ => none
@[simp] theorem fields_struct (fs : List (TypeId × Nat)) : (TK.struct fs).fields = some fs := rfl
@[simp] theorem pfFieldAddr_eq (s : TypeId) (p : LV) (f : Nat) : pfFieldAddr T B s p f = (T s).bind fun ti => ti.kind.fields.bind fun fs => (fs[f]?).bind fun x => (T x.1).bind fun fi => if fi.size = 0 then none else ptrAdd B p x.2 := by
  unfold pfFieldAddr; cases T s with
  | none => rfl
  | some ti =>
    simp only [Option.bind_some]
    cases ti.kind <;> simp [TK.fields]
    rename_i fs
    cases fs[f]? with
    | none => rfl
    | some x => obtain ⟨ft, off⟩ := x; simp; cases T ft <;> rfl
def aggL : LV → Option (List LV) | .agg cs => some cs | _ => none
@[simp] theorem aggL_agg (cs : List LV) : aggL (.agg cs) = some cs := rfl
@[simp] theorem pfField_eq (s : TypeId) (p : LV) (f : Nat) : pfField T s p f = (T s).bind fun ti => (aggL p).bind fun cs => ti.kind.fields.bind fun fs => (fs[f]?).bind fun x => (T x.1).bind fun fi => pick fi (cs.drop x.2) := by
  unfold pfField; cases T s with
  | none => cases p <;> rfl
  | some ti =>
    cases p <;> simp [aggL]
    cases ti.kind <;> simp [TK.fields]
    rename_i fs
    cases fs[f]? with
    | none => rfl
    | some x => obtain ⟨ft, off⟩ := x; simp; cases T ft <;> rfl
def idxS (size : Nat) (p : LV) (n : Int) : Option LV := match p with
  | .sl b off len _ => if 0 ≤ n ∧ n < len then some (.ptr b (off + n.toNat * size)) else none
  | .isl _ es xs => if 0 ≤ n ∧ es = size then (xs[n.toNat]?).map .iptr else none
  | _ => none
def idxK (T : Tab) (B : Box) (q : TK) (p i : LV) : Option LV := match i with
  | .int _ n => match q with
    | .slice el => (T el).bind fun ei => idxS ei.size p n
    | .arr m el => (T el).bind fun ei => if 0 ≤ n ∧ n < m then ptrAdd B p (n.toNat * ei.size) else none
    | _ => none
  | _ => none
@[simp] theorem idxK_slice (el : TypeId) (p : LV) : idxK T B (.slice el) p (.int k a) = (T el).bind fun ei => idxS ei.size p a := rfl
@[simp] theorem idxK_arr (m : Nat) (el : TypeId) (p : LV) : idxK T B (.arr m el) p (.int k a) = (T el).bind fun ei => if 0 ≤ a ∧ a < m then ptrAdd B p (a.toNat * ei.size) else none := rfl
@[simp] theorem idxS_sl (size bb off len cap : Nat) : idxS size (.sl bb off len cap) a = if 0 ≤ a ∧ a < len then some (.ptr bb (off + a.toNat * size)) else none := rfl
@[simp] theorem idxS_isl (size es : Nat) (f : Bool) (xs : List (List LV)) : idxS size (.isl f es xs) a = if 0 ≤ a ∧ es = size then (xs[a.toNat]?).map .iptr else none := rfl
@[simp] theorem idxS_wsl (size : Nat) : idxS size .wsl a = none := rfl
@[simp] theorem idxS_nilsl (size : Nat) : idxS size .nilsl a = none := rfl
@[simp] theorem pfIndexAddr_eq (t : TypeId) (p i : LV) : pfIndexAddr T B t p i = (T t).bind fun ti => idxK T B ti.kind p i := by
  unfold pfIndexAddr idxK; cases T t with
  | none => rfl
  | some ti =>
    cases i <;> simp
    cases ti.kind <;> simp
    · rename_i el; cases T el with
      | none => rfl
      | some ei =>
        simp only [Option.bind_some]
        cases p <;> simp [idxS]
        split
        · split <;> simp_all
        · rfl
    · rename_i m el; cases T el <;> rfl
def idxV (T : Tab) (q : TK) (p : LV) (n : Int) : Option LV := match p with
  | .str s => if 0 ≤ n ∧ q = .str then (s.data.toList[n.toNat]?).map fun c => .int .u8 c.toNat else none
  | .agg cs => match q with
    | .arr m el => (T el).bind fun ei => if 0 ≤ n ∧ n < m then pick ei (cs.drop (n.toNat * ei.size)) else none
    | _ => none
  | _ => none
@[simp] theorem idxV_str (s : ByteArray) : idxV T .str (.str s) a = if 0 ≤ a then (s.data.toList[a.toNat]?).map fun c => .int .u8 c.toNat else none := by simp [idxV]
@[simp] theorem idxV_arr (m : Nat) (el : TypeId) (cs : List LV) : idxV T (.arr m el) (.agg cs) a = (T el).bind fun ei => if 0 ≤ a ∧ a < m then pick ei (cs.drop (a.toNat * ei.size)) else none := rfl
@[simp] theorem pfIndex_eq (t : TypeId) (p : LV) : pfIndex T t p (.int k a) = (T t).bind fun ti => idxV T ti.kind p a := by
  unfold pfIndex idxV; cases p <;> simp
  · rename_i s
    simp only [← Array.getElem?_toList]
    generalize s.data.toList[a.toNat]? = oc
    by_cases h0 : 0 ≤ a <;> cases T t <;> cases oc <;> simp [h0]
  · cases T t with
    | none => rfl
    | some ti =>
      simp only [Option.bind_some]
      cases ti.kind <;> simp
      rename_i m el; cases T el <;> rfl

/-! ### Slices -/
section
variable {len cap : Nat} {c : Int} {k' k'' : IntKind}
@[simp] theorem bnds_0 : bnds len cap none none none = some (0, len, cap) := rfl
@[simp] theorem bnds_l : bnds len cap (some (.int k a)) none none = if 0 ≤ a ∧ a ≤ len then some (a.toNat, len, cap) else none := by
  by_cases h : 0 ≤ a ∧ a ≤ len <;> simp [bnds, bnd, h]
@[simp] theorem bnds_h : bnds len cap none (some (.int k a)) none = if 0 ≤ a ∧ a ≤ cap then some (0, a.toNat, cap) else none := by
  by_cases h : 0 ≤ a ∧ a ≤ cap <;> simp [bnds, bnd, h]
@[simp] theorem bnds_lh : bnds len cap (some (.int k a)) (some (.int k' b)) none = if (0 ≤ b ∧ b ≤ cap) ∧ 0 ≤ a ∧ a ≤ b then some (a.toNat, b.toNat, cap) else none := by
  by_cases h : 0 ≤ b ∧ b ≤ cap
  · by_cases h' : 0 ≤ a ∧ a ≤ b
    · have h2 : 0 ≤ a ∧ a ≤ (b.toNat : Int) := by omega
      simp only [bnds, bnd, if_pos h, if_pos h2, if_pos (And.intro h h')]
    · have h2 : ¬ (0 ≤ a ∧ a ≤ (b.toNat : Int)) := by omega
      have h3 : ¬ ((0 ≤ b ∧ b ≤ cap) ∧ 0 ≤ a ∧ a ≤ b) := fun x => h' x.2
      simp only [bnds, bnd, if_pos h, if_neg h2, if_neg h3]
  · have h3 : ¬ ((0 ≤ b ∧ b ≤ cap) ∧ 0 ≤ a ∧ a ≤ b) := fun x => h x.1
    simp only [bnds, bnd, if_neg h, if_neg h3]
@[simp] theorem bnds_hm : bnds len cap none (some (.int k a)) (some (.int k' b)) = if (0 ≤ b ∧ b ≤ cap) ∧ 0 ≤ a ∧ a ≤ b then some (0, a.toNat, b.toNat) else none := by
  by_cases h : 0 ≤ b ∧ b ≤ cap
  · by_cases h' : 0 ≤ a ∧ a ≤ b
    · have h2 : 0 ≤ a ∧ a ≤ (b.toNat : Int) := by omega
      simp only [bnds, bnd, if_pos h, if_pos h2, if_pos (And.intro h h')]
    · have h2 : ¬ (0 ≤ a ∧ a ≤ (b.toNat : Int)) := by omega
      have h3 : ¬ ((0 ≤ b ∧ b ≤ cap) ∧ 0 ≤ a ∧ a ≤ b) := fun x => h' x.2
      simp only [bnds, bnd, if_pos h, if_neg h2, if_neg h3]
  · have h3 : ¬ ((0 ≤ b ∧ b ≤ cap) ∧ 0 ≤ a ∧ a ≤ b) := fun x => h x.1
    simp only [bnds, bnd, if_neg h, if_neg h3]
end
def slS (es : Nat) (p : LV) (lo hi mx : Option LV) : Option LV := match p with
  | .sl b off len cap => if len ≤ cap then (bnds len cap lo hi mx).map fun r => .sl b (if r.2.2 = r.1 then off else off + r.1 * es) (r.2.1 - r.1) (r.2.2 - r.1) else none
  | .isl f e xs => if e = es then (bnds xs.length xs.length lo hi mx).map fun r => .isl (if mx.isSome then decide (r.2.2 = r.2.1) else f && decide (r.2.1 = xs.length)) e ((xs.take r.2.1).drop r.1) else none
  | .nilsl => (bnds 0 0 lo hi mx).map fun _ => .nilsl
  | .wsl => (bnds 0 0 lo hi mx).map fun _ => .wsl
  | _ => none
def slA (n es : Nat) (p : LV) (lo hi mx : Option LV) : Option LV := match p with
  | .ptr b off => (bnds n n lo hi mx).map fun r => .sl b (if r.2.2 = r.1 then off else off + r.1 * es) (r.2.1 - r.1) (r.2.2 - r.1)
  | _ => none
@[simp] theorem slA_ptr (n es b off : Nat) (lo hi mx : Option LV) : slA n es (.ptr b off) lo hi mx = (bnds n n lo hi mx).map fun r => .sl b (if r.2.2 = r.1 then off else off + r.1 * es) (r.2.1 - r.1) (r.2.2 - r.1) := rfl
def slK (T : Tab) (q : TK) (p : LV) (lo hi mx : Option LV) : Option LV := match q with
  | .str => match p, mx with
    | .str s, none => (bnds s.size s.size lo hi none).map fun r => .str (s.extract r.1 r.2.1)
    | _, _ => none
  | .slice el => (T el).bind fun ei => slS ei.size p lo hi mx
  | .arr n el => (T el).bind fun ei => slA n ei.size p lo hi mx
  | _ => none
@[simp] theorem slK_arr (n : Nat) (el : TypeId) (p : LV) (lo hi mx : Option LV) : slK T (.arr n el) p lo hi mx = (T el).bind fun ei => slA n ei.size p lo hi mx := rfl
@[simp] theorem slK_slice (el : TypeId) (p : LV) (lo hi mx : Option LV) : slK T (.slice el) p lo hi mx = (T el).bind fun ei => slS ei.size p lo hi mx := rfl
@[simp] theorem slK_str (s : ByteArray) (lo hi : Option LV) : slK T .str (.str s) lo hi none = (bnds s.size s.size lo hi none).map fun r => .str (s.extract r.1 r.2.1) := rfl
@[simp] theorem slS_sl (es bb off len cap : Nat) (lo hi mx : Option LV) : slS es (.sl bb off len cap) lo hi mx = if len ≤ cap then (bnds len cap lo hi mx).map fun r => .sl bb (if r.2.2 = r.1 then off else off + r.1 * es) (r.2.1 - r.1) (r.2.2 - r.1) else none := rfl
@[simp] theorem slS_isl (es e : Nat) (f : Bool) (xs : List (List LV)) (lo hi mx : Option LV) : slS es (.isl f e xs) lo hi mx = if e = es then (bnds xs.length xs.length lo hi mx).map fun r => .isl (if mx.isSome then decide (r.2.2 = r.2.1) else f && decide (r.2.1 = xs.length)) e ((xs.take r.2.1).drop r.1) else none := rfl
@[simp] theorem slS_nilsl (es : Nat) (lo hi mx : Option LV) : slS es .nilsl lo hi mx = (bnds 0 0 lo hi mx).map fun _ => .nilsl := rfl
@[simp] theorem slS_wsl (es : Nat) (lo hi mx : Option LV) : slS es .wsl lo hi mx = (bnds 0 0 lo hi mx).map fun _ => .wsl := rfl
@[simp] theorem pfSlice_eq (t : TypeId) (p : LV) (lo hi mx : Option LV) : pfSlice T t p lo hi mx = (T t).bind fun ti => slK T ti.kind p lo hi mx := by
  unfold pfSlice slK; cases T t with
  | none => rfl
  | some ti =>
    simp only [Option.bind_some]
    cases ti.kind <;> simp
    · cases p <;> simp
      rename_i s; cases mx <;> simp
      cases bnds s.size s.size lo hi none <;> rfl
    · rename_i el; cases T el with
      | none => rfl
      | some ei =>
        simp only [Option.bind_some]
        cases p <;> simp [slS]
        · rename_i b off len cap; congr 1; cases bnds len cap lo hi mx <;> rfl
        · cases bnds 0 0 lo hi mx <;> rfl
        · cases bnds 0 0 lo hi mx <;> rfl
        · rename_i f es xs; congr 1; cases bnds xs.length xs.length lo hi mx <;> rfl
    · rename_i n el; cases T el with
      | none => rfl
      | some ei =>
        simp only [Option.bind_some]
        cases p <;> simp [slA]
        rename_i b off; cases bnds n n lo hi mx <;> rfl
def lenK (H : OHeap) (q : TK) (p : LV) : Option LV := match q, p with
    | .str, .str s => some (.int .i64 s.size)
    | .arr n _, _ => some (.int .i64 n)
    | .slice _, .sl _ _ len _ => some (.int .i64 len)
    | .slice _, .isl _ _ xs => some (.int .i64 xs.length)
    | .slice _, .nilsl => some (.int .i64 0)
    | .slice _, .wsl => some (.int .i64 0)
    | .map .., .nilm => some (.int .i64 0)
    | .map .., .mp b => match H b with
      | some (.map m _) => some (.int .i64 m.length)
      | _ => none
    | _, _ => none
@[simp] theorem pfLen_eq (t : TypeId) (p : LV) : pfLen T H t p = (T t).bind fun ti => lenK H ti.kind p := by
  unfold pfLen lenK; cases T t <;> rfl
@[simp] theorem lenK_wsl (e : TypeId) : lenK H (.slice e) .wsl = some (.int .i64 0) := rfl
@[simp] theorem lenK_str (s : ByteArray) : lenK H .str (.str s) = some (.int .i64 s.size) := rfl
@[simp] theorem lenK_arr (n : Nat) (e : TypeId) (p : LV) : lenK H (.arr n e) p = some (.int .i64 n) := rfl
@[simp] theorem lenK_sl (e : TypeId) (b o l c : Nat) : lenK H (.slice e) (.sl b o l c) = some (.int .i64 l) := rfl
@[simp] theorem lenK_isl (e : TypeId) (f : Bool) (n : Nat) (xs : List (List LV)) : lenK H (.slice e) (.isl f n xs) = some (.int .i64 xs.length) := rfl
@[simp] theorem lenK_nilsl (e : TypeId) : lenK H (.slice e) .nilsl = some (.int .i64 0) := rfl
@[simp] theorem lenK_nilm (q e : TypeId) : lenK H (.map q e) .nilm = some (.int .i64 0) := rfl
@[simp] theorem pfExtract_tup (vs : List LV) (i : Nat) : pfExtract (.tup vs) i = vs[i]? := rfl
@[simp] theorem pfFunc_eq (g : FuncId) (fst caps : List Operand) : pfFunc e (.func g) fst.toArray caps.toArray = if ((fst.map (ev e)).all LV.glob && (caps.map (ev e)).all LV.glob) = true then some (.fn g (fst.map (ev e)) (caps.map (ev e))) else none := by
  simp [pfFunc, evs]
@[simp] theorem evs_eq (l : List Operand) : evs e l.toArray = l.map (ev e) := by simp [evs]

/-! ### Building -/
@[simp] theorem evParts_eq (l : List (Nat × Operand)) : evParts e l.toArray = l.map fun p => (p.1, ev e p.2) := by simp [evParts]
@[simp] theorem fillL_nil (pl : Nat → Option (Nat × Nat)) (cs : List LV) : fillL pl cs [] = some cs := rfl
@[simp] theorem fillL_cons (pl : Nat → Option (Nat × Nat)) (cs : List LV) (i : Nat) (x : LV) (r : List (Nat × LV)) : fillL pl cs ((i, x) :: r) = (pl i).bind fun q => (lcells x).bind fun new => if new.length = q.2 ∧ q.1 + q.2 ≤ cs.length then fillL pl (putAt cs q.1 new) r else none := by
  conv => lhs; unfold fillL
  rw [cellsOf_eq]
  cases pl i <;> cases lcells x <;> rfl
@[simp] theorem putAt_nil (cs : List LV) (o : Nat) : putAt cs o [] = cs := rfl
@[simp] theorem putAt_cons (cs : List LV) (o : Nat) (x : LV) (r : List LV) : putAt cs o (x :: r) = putAt (cs.set o x) (o + 1) r := rfl
def buildK (T : Tab) (ti : TI) (ps : List (Nat × LV)) : Option LV := match ti.kind with
  | .struct fs => if (fs.all fun f => (T f.1).isSome) = true then
        (fillL (fun i => (fs[i]?).map fun f => (f.2, ((T f.1).map (·.size)).getD 0)) ti.zero ps).map .agg else none
  | .arr _ el => (T el).bind fun ei => (fillL (fun i => some (i * ei.size, ei.size)) ti.zero ps).map .agg
  | _ => none
@[simp] theorem pfBuild_eq (t : TypeId) (ps : Array (Nat × Operand)) : pfBuild T e t ps = (T t).bind fun ti => buildK T ti (evParts e ps) := by
  unfold pfBuild buildK; cases T t with
  | none => rfl
  | some ti =>
    simp only [Option.bind_some]
    cases ti.kind <;> simp
    rename_i el; cases T el <;> rfl
@[simp] theorem buildK_struct (fs : List (TypeId × Nat)) (n by_ : Nat) (z : List LV) (ps : List (Nat × LV)) : buildK T ⟨.struct fs, n, by_, z⟩ ps = if (fs.all fun f => (T f.1).isSome) = true then
        (fillL (fun i => (fs[i]?).map fun f => (f.2, ((T f.1).map (·.size)).getD 0)) z ps).map .agg else none := rfl
@[simp] theorem buildK_arr (m : Nat) (el : TypeId) (n by_ : Nat) (z : List LV) (ps : List (Nat × LV)) : buildK T ⟨.arr m el, n, by_, z⟩ ps = (T el).bind fun ei => (fillL (fun i => some (i * ei.size, ei.size)) z ps).map .agg := rfl
def buildS (T : Tab) (q : TK) (n : Nat) (ps : List (Nat × LV)) : Option LV := match q with
  | .slice el => (T el).bind fun ei => if n * ei.size ≤ 16777216 then
          (fillL (fun i => some (i * ei.size, ei.size)) (zerosL ei.zero n) ps).map fun cells => .isl true ei.size (chunks ei.size n cells) else none
  | _ => none
@[simp] theorem buildS_slice (el : TypeId) (n : Nat) (ps : List (Nat × LV)) : buildS T (.slice el) n ps = (T el).bind fun ei => if n * ei.size ≤ 16777216 then
          (fillL (fun i => some (i * ei.size, ei.size)) (zerosL ei.zero n) ps).map fun cells => .isl true ei.size (chunks ei.size n cells) else none := rfl
@[simp] theorem pfBuildSlice_eq (t : TypeId) (n : Nat) (ps : Array (Nat × Operand)) : pfBuildSlice T e t n ps = (T t).bind fun ti => buildS T ti.kind n (evParts e ps) := by
  unfold pfBuildSlice buildS; cases T t with
  | none => rfl
  | some ti =>
    simp only [Option.bind_some]
    cases ti.kind <;> simp
    rename_i el; cases T el <;> rfl
@[simp] theorem zerosL_zero (z : List LV) : zerosL z 0 = [] := rfl
@[simp] theorem zerosL_succ (z : List LV) (n : Nat) : zerosL z (n + 1) = z ++ zerosL z n := rfl
@[simp] theorem chunks_zero (s : Nat) (cs : List LV) : chunks s 0 cs = [] := rfl
@[simp] theorem chunks_succ (s n : Nat) (cs : List LV) : chunks s (n + 1) cs = cs.take s :: chunks s n (cs.drop s) := rfl

/-! ### Results, arguments -/
@[simp] theorem argEnv_zero (x : LV) (l : List LV) : argEnv (x :: l) 0 = x := rfl
@[simp] theorem argEnv_succ (x : LV) (l : List LV) (i : Nat) : argEnv (x :: l) (i + 1) = argEnv l i := rfl
@[simp] theorem resOne_tmp (t : Tmp) : resOne T e B H (.tmp t) = if (e t).glob = true then some (e t) else none := rfl
@[simp] theorem resOne_cell (a : Tmp) (t : TypeId) : resOne T e B H (.cell a t) = pfLoad T B H t (e a) := rfl
@[simp] theorem resL_nil : resL T [] e B H = some (.tup []) := rfl
@[simp] theorem resL_one (r : ResultVar) : resL T [r] e B H = resOne T e B H r := rfl
@[simp] theorem resL_two (r s : ResultVar) : resL T [r, s] e B H = (resOne T e B H r).bind fun x => (resOne T e B H s).map fun y => .tup [x, y] := by
  unfold resL; simp only [List.mapM_cons, List.mapM_nil]; cases resOne T e B H r <;> cases resOne T e B H s <;> rfl
@[simp] theorem resL_three (r s t : ResultVar) : resL T [r, s, t] e B H = (resOne T e B H r).bind fun x => (resOne T e B H s).bind fun y => (resOne T e B H t).map fun z => .tup [x, y, z] := by
  unfold resL; simp only [List.mapM_cons, List.mapM_nil]; cases resOne T e B H r <;> cases resOne T e B H s <;> cases resOne T e B H t <;> rfl

/-! ### Stores, appends -/
@[simp] theorem srcKind_str (q : TK) (s : ByteArray) : srcKind q (.str s) = (q = .str) := rfl
@[simp] theorem srcKind_sl (e : TypeId) (b o l c : Nat) : srcKind (.slice e) (.sl b o l c) = True := by simp [srcKind]
@[simp] theorem srcKind_isl (e : TypeId) (f : Bool) (n : Nat) (xs : List (List LV)) : srcKind (.slice e) (.isl f n xs) = True := by simp [srcKind]
@[simp] theorem srcKind_wsl (e : TypeId) : srcKind (.slice e) .wsl = True := by simp [srcKind]
@[simp] theorem srcKind_nilsl (e : TypeId) : srcKind (.slice e) .nilsl = True := by simp [srcKind]

end
end Go.Lv
