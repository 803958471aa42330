/- Lv, part I: what turns memory: new boxes, stores, rows of the call's own. Over any program; no condition. -/
import Derived.Test.YtoimfngeoiljeaaLvH
import Derived.Deep.AppendSrc
import Derived.Laws.IdiomCopy
import Derived.Laws.MakeOwn
namespace Go.Lv
open Go
set_option linter.unusedVariables false
set_option linter.unusedSimpArgs false

/-! ### Writing into a block -/

/-- Cells laid over others, from the place k on. -/
def seg (cs : List LV) (k : Nat) (ns : List LV) : List LV := cs.take k ++ ns ++ cs.drop (k + ns.length)

theorem seg_length {cs ns : List LV} {k : Nat} (h : k + ns.length ≤ cs.length) : (seg cs k ns).length = cs.length := by simp [seg]; omega
theorem seg_get {cs ns : List LV} {k : Nat} (hk : k ≤ cs.length) (i : Nat) : (seg cs k ns)[i]? = if i < k then cs[i]? else if i < k + ns.length then ns[i - k]? else cs[i]? := by
  have h1 : (cs.take k).length = k := by simp; omega
  unfold seg
  by_cases hi : i < k
  · rw [if_pos hi, List.append_assoc, List.getElem?_append_left (by omega), List.getElem?_take, if_pos hi]
  · rw [if_neg hi]
    by_cases hj : i < k + ns.length
    · rw [if_pos hj, List.append_assoc, List.getElem?_append_right (by omega), List.getElem?_append_left (by omega), h1]
    · rw [if_neg hj, List.getElem?_append_right (by simp [h1]; omega), List.getElem?_drop]
      congr 1
      simp [h1]; omega

def arrs (arr : Array Value) (k : Nat) : List Value → Array Value
  | [] => arr
  | v :: r => arrs (arr.setIfInBounds k v) (k + 1) r

theorem arrs_size (vs : List Value) : ∀ (arr : Array Value) (k : Nat), (arrs arr k vs).size = arr.size := by
  induction vs with
  | nil => intro arr k; rfl
  | cons v r ih => intro arr k; simp [arrs, ih]
theorem arrs_get (vs : List Value) : ∀ (arr : Array Value) (k : Nat), k + vs.length ≤ arr.size → ∀ i, (arrs arr k vs)[i]? = if i < k then arr[i]? else if i < k + vs.length then vs[i - k]? else arr[i]? := by
  induction vs with
  | nil => intro arr k _ i; simp [arrs]; intro _ h; omega
  | cons v r ih =>
    intro arr k hk i
    simp only [List.length_cons] at hk
    rw [arrs, ih _ _ (by simp; omega), Array.getElem?_setIfInBounds]
    by_cases hi : i < k
    · rw [if_pos hi, if_pos (by omega), if_neg (by omega)]
    · rw [if_neg hi]
      by_cases he : i = k
      · subst he
        simp; omega
      · have : ¬ i < k + 1 := by omega
        rw [if_neg this]
        simp only [List.length_cons]
        by_cases hj : i < k + 1 + r.length
        · rw [if_pos hj, if_pos (by omega), show i - k = (i - (k + 1)) + 1 by omega, List.getElem?_cons_succ]
        · rw [if_neg hj, if_neg (by omega), if_neg (by omega)]

theorem setCell_block {w : World} {b k : Nat} {arr : Array Value} {T : TypeId} {fz : Nat × Nat} (h : w.heap[b]? = some (.cells arr T fz)) (v : Value) :
    (w.setCell ⟨b, k, none⟩ v).heap[b]? = some (.cells (arr.setIfInBounds k v) T fz) := by
  simp [World.setCell, Array.getElem?_modify, h]
theorem setCell_other {w : World} {b b' k : Nat} (h : b' ≠ b) (v : Value) : (w.setCell ⟨b, k, none⟩ v).heap[b']? = w.heap[b']? := by
  simp only [World.setCell, Array.getElem?_modify]
  rw [if_neg (fun x => h x.symm)]

/-- Nothing but this block. -/
structure Wrote (w : World) (b : Nat) (w' : World) : Prop where
  os : w'.os = w.os
  tape : w'.tape = w.tape
  output : w'.output = w.output
  size : w'.heap.size = w.heap.size
  other : ∀ b', b' ≠ b → w'.heap[b']? = w.heap[b']?

theorem Wrote.refl (w : World) (b : Nat) : Wrote w b w := ⟨rfl, rfl, rfl, rfl, fun _ _ => rfl⟩
theorem Wrote.trans {w w' w'' : World} {b : Nat} (h : Wrote w b w') (h' : Wrote w' b w'') : Wrote w b w'' :=
  ⟨h'.os.trans h.os, h'.tape.trans h.tape, h'.output.trans h.output, h'.size.trans h.size, fun b' hb => (h'.other b' hb).trans (h.other b' hb)⟩

theorem setCell_wrote (w : World) (b k : Nat) (v : Value) : Wrote w b (w.setCell ⟨b, k, none⟩ v) :=
  ⟨rfl, rfl, rfl, by simp [World.setCell], fun b' h => setCell_other h v⟩
theorem setCells_wrote (b : Nat) : ∀ (vs : List Value) (k : Nat) (w : World), Wrote w b (w.setCells b k vs)
  | [], _, w => Wrote.refl w b
  | v :: r, k, w => (setCell_wrote w b k v).trans (setCells_wrote b r (k + 1) _)
theorem setCells_block (b : Nat) : ∀ (vs : List Value) (k : Nat) (w : World) (arr : Array Value) (T : TypeId) (fz : Nat × Nat), w.heap[b]? = some (.cells arr T fz) → (w.setCells b k vs).heap[b]? = some (.cells (arrs arr k vs) T fz)
  | [], _, _, _, _, _, h => h
  | v :: r, k, w, arr, T, fz, h => setCells_block b r (k + 1) _ _ T fz (setCell_block h v)

theorem frozen_of_block {w w' : World} {b : Nat} {arr arr' : Array Value} {T : TypeId} {fz : Nat × Nat} (h : w.heap[b]? = some (.cells arr T fz)) (h' : w'.heap[b]? = some (.cells arr' T fz)) (o : Nat) : w'.frozen? ⟨b, o, none⟩ = w.frozen? ⟨b, o, none⟩ := by
  simp [World.frozen?, h, h']

/-- A WRITE INTO WHAT IS OWNED. -/
theorem own_store {P : Program} {K : Know} {w : World} {b k n : Nat} {cs ns : List LV} {vs : List Value} (ho : ownObj K w b (.cells cs n)) (hr : Rs K ns vs) (h1 : ∀ v ∈ vs, v.oneCell' = true) (hk : k ≤ cs.length) (hn : k + ns.length ≤ n) :
    (storeCells ⟨b, k, none⟩ vs).run P w = .ok () (w.setCells b k vs) ∧ ownObj K (w.setCells b k vs) b (.cells (seg cs k ns) n) ∧ Wrote w b (w.setCells b k vs) := by
  obtain ⟨arr, T, fz, hb, hsz, hle, hcs, hfz⟩ := ho
  have hvl : vs.length = ns.length := hr.1
  refine ⟨?_, ?_, setCells_wrote b vs k w⟩
  · have := run_storeCells_cells (P := P) b k vs 0 w (fun j hj => by
        have : k + 0 + j < arr.size := by omega
        simp [World.cell?, hb]; omega) (fun j hj => hfz _) h1
    simpa using this
  · have hb' := setCells_block b vs k w arr T fz hb
    refine ⟨_, T, fz, hb', by rw [arrs_size, hsz], ?_, fun i x hx => ?_, fun o => by rw [frozen_of_block hb hb']; exact hfz o⟩
    · simp only [seg, List.length_append, List.length_take, List.length_drop]; omega
    · rw [seg_get hk] at hx
      rw [arrs_get vs arr k (by omega)]
      by_cases hi : i < k
      · rw [if_pos hi] at hx ⊢; exact hcs i x hx
      · rw [if_neg hi] at hx ⊢
        rw [hvl]
        by_cases hj : i < k + ns.length
        · rw [if_pos hj] at hx ⊢
          obtain ⟨v, h2, h3⟩ := hr.get hx
          exact ⟨v, h2, h1 v (List.mem_of_getElem? h2), h3⟩
        · rw [if_neg hj] at hx ⊢; exact hcs i x hx

def setH (H : OHeap) (b : Nat) (o : LO) : OHeap := fun i => if i = b then some o else H i
def delH (H : OHeap) (b : Nat) : OHeap := fun i => if i = b then none else H i
def setB (B : Box) (d : Nat) (cs : List LV) : Box := fun i => if i = d then ((B d).1, some cs) else B i
def newB (B : Box) (d : Nat) (cs : List LV) : Box := fun i => if i = d then ((B d).1 + 1, some cs) else B i
def delB (B : Box) (d : Nat) : Box := fun i => if i = d then ((B d).1, none) else B i
@[simp] theorem setH_apply (H : OHeap) (b : Nat) (o : LO) (i : Nat) : setH H b o i = if i = b then some o else H i := rfl
@[simp] theorem delH_apply (H : OHeap) (b : Nat) (i : Nat) : delH H b i = if i = b then none else H i := rfl
@[simp] theorem setB_apply (B : Box) (d : Nat) (cs : List LV) (i : Nat) : setB B d cs i = if i = d then ((B d).1, some cs) else B i := rfl
@[simp] theorem newB_apply (B : Box) (d : Nat) (cs : List LV) (i : Nat) : newB B d cs i = if i = d then ((B d).1 + 1, some cs) else B i := rfl
@[simp] theorem delB_apply (B : Box) (d : Nat) (i : Nat) : delB B d i = if i = d then ((B d).1, none) else B i := rfl

section
variable {P : Program} {N : Nat} {o : Oper} {e : Env} {B : Box} {H : OHeap} {K : Know} {jj : Nat → Nat} {w w' : World}

theorem Good.wroteH (g : Good K jj B H w) {b : Nat} {o' : LO} (hb : (H b).isSome = true) (ho : ownObj K w' b o') (hw : Wrote w b w') : Good K jj B (setH H b o') w' ∧ Fr (dom H B jj) w K (dom (setH H b o') B jj) w' K := by
  have hd : ∀ x, dom (setH H b o') B jj x → dom H B jj x := fun x h => by
    rcases h with h | h
    · by_cases hx : x = b
      · subst hx; exact .inl hb
      · exact .inl (by simpa [hx] using h)
    · exact .inr h
  have hK : ∀ o, K b o = none := fun o => g.apart b o (.inl hb)
  refine ⟨⟨fun b' o v h => ?_, fun b' o h => ?_, fun b' o h => g.apart b' o (hd b' h), fun d ver cs h => ?_, fun d h => ?_, g.boxne⟩, ⟨hw.os, hw.tape, hw.output, by rw [hw.size]; exact Nat.le_refl _, fun b' hlt hnd => hw.other b' (fun x => hnd (by subst x; exact .inl hb)), K.le_refl, fun _ _ h h' => absurd h h', fun b' h => .inl (hd b' h)⟩⟩
  · have hne : b' ≠ b := fun x => by subst x; rw [hK] at h; simp at h
    rw [World.cell?_of_block (w := w) (hw.other b' hne)]; exact g.know b' o v h
  · by_cases hx : b' = b
    · subst hx; simp at h; subst h; exact ho
    · simp [hx] at h; exact (g.own b' o h).same (hw.other b' hx)
  · have hne : jj d ≠ b := fun x => by
      have := g.boxH d (by rw [h]; rfl)
      rw [x] at this; rw [this] at hb; simp at hb
    exact (g.box d ver cs h).same (hw.other _ hne)
  · have := g.boxH d h
    have hne : jj d ≠ b := fun x => by rw [x] at this; rw [this] at hb; simp at hb
    simp [hne, this]

theorem Good.wroteB (g : Good K jj B H w) {d : Nat} {cs : List LV} (hd : (B d).2.isSome = true) (ho : ownObj K w' (jj d) (.cells cs cs.length)) (hw : Wrote w (jj d) w') : Good K jj (setB B d cs) H w' ∧ Fr (dom H B jj) w K (dom H (setB B d cs) jj) w' K := by
  have hB : ∀ x, (setB B d cs x).2.isSome = true → (B x).2.isSome = true := fun x h => by
    by_cases hx : x = d
    · subst hx; exact hd
    · simpa [hx] using h
  have hd' : ∀ x, dom H (setB B d cs) jj x → dom H B jj x := fun x h => by
    rcases h with h | ⟨d', h, h'⟩
    · exact .inl h
    · exact .inr ⟨d', hB d' h, h'⟩
  have hK : ∀ o, K (jj d) o = none := fun o => g.apart (jj d) o (.inr ⟨d, hd, rfl⟩)
  refine ⟨⟨fun b' o v h => ?_, fun b' o h => ?_, fun b' o h => g.apart b' o (hd' b' h), fun d' ver cs' h => ?_, fun d' h => g.boxH d' (hB d' h), fun d1 d2 h1 h2 => g.boxne d1 d2 (hB d1 h1) (hB d2 h2)⟩, ⟨hw.os, hw.tape, hw.output, by rw [hw.size]; exact Nat.le_refl _, fun b' hlt hnd => hw.other b' (fun x => hnd (by subst x; exact .inr ⟨d, hd, rfl⟩)), K.le_refl, fun _ _ h h' => absurd h h', fun b' h => .inl (hd' b' h)⟩⟩
  · have hne : b' ≠ jj d := fun x => by subst x; rw [hK] at h; simp at h
    rw [World.cell?_of_block (w := w) (hw.other b' hne)]; exact g.know b' o v h
  · have hne : b' ≠ jj d := fun x => by have := g.boxH d hd; rw [← x, h] at this; simp at this
    exact (g.own b' o h).same (hw.other b' hne)
  · by_cases hx : d' = d
    · subst hx; simp at h; obtain ⟨_, rfl⟩ := h; exact ho
    · simp [hx] at h
      have hne : jj d' ≠ jj d := fun x => hx (g.boxne d' d (by rw [h]; rfl) hd x)
      exact (g.box d' ver cs' h).same (hw.other _ hne)

theorem RE.setB {x : LV} {v : Value} {d : Nat} {cs : List LV} (hd : (B d).2.isSome = true) (h : RE K jj B x v) : RE K jj (Lv.setB B d cs) x v := by
  cases x <;> try exact h
  rename_i d' ver off
  obtain ⟨h1, h2⟩ := h
  by_cases hx : d' = d
  · subst hx; exact ⟨by simpa using h1, fun hv _ => h2 (by simpa using hv) hd⟩
  · exact ⟨by simpa [hx] using h1, fun hv hs => h2 (by simpa [hx] using hv) (by simpa [hx] using hs)⟩
theorem TE.setB {tmps : Array Value} {d : Nat} {cs : List LV} (hd : (B d).2.isSome = true) (t : TE K jj B N e tmps) : TE K jj (Lv.setB B d cs) N e tmps := ⟨t.size, fun i => (t.get i).setB hd⟩

/-! ### New blocks -/

theorem ownObj.alloc {arr : Array Value} {T : TypeId} {cs : List LV} (hr : Rs K cs (arr.toList.take cs.length)) (hle : cs.length ≤ arr.size) (h1 : ∀ v ∈ arr.toList, v.oneCell' = true) : ownObj K (w.alloc (.cells arr T)) w.heap.size (.cells cs arr.size) := by
  refine ⟨arr, T, (0, 0), heap_alloc_new w _, rfl, hle, fun i x hx => ?_, fun o => by unfold World.frozen?; rw [heap_alloc_new]; simp⟩
  obtain ⟨v, h2, h3⟩ := hr.get hx
  rw [List.getElem?_take] at h2
  split at h2
  · exact ⟨v, by simpa using h2, h1 v (List.mem_of_getElem? h2), h3⟩
  · simp at h2

/-- A new block, owned by name. -/
theorem Good.newH (g : Good K jj B H w) {ob : Obj} {o' : LO} (ho : ownObj K (w.alloc ob) w.heap.size o') : H w.heap.size = none ∧ Good K jj B (setH H w.heap.size o') (w.alloc ob) ∧ Fr (dom H B jj) w K (dom (setH H w.heap.size o') B jj) (w.alloc ob) K := by
  have ga := g.alloc ob
  have hn : ∀ b, dom H B jj b → b ≠ w.heap.size := fun b h => Nat.ne_of_lt (g.lt h)
  have hd : ∀ b, dom (setH H w.heap.size o') B jj b → dom H B jj b ∨ b = w.heap.size := fun b h => by
    rcases h with h | h
    · by_cases hb : b = w.heap.size
      · exact .inr hb
      · exact .inl (.inl (by simpa [hb] using h))
    · exact .inl (.inr h)
  refine ⟨?_, ⟨ga.know, fun b o h => ?_, fun b o h => ?_, ga.box, fun d h => ?_, ga.boxne⟩, ⟨rfl, rfl, rfl, by simp, fun b hb _ => heap_alloc_lt w ob hb, K.le_refl, fun _ _ h h' => absurd h h', fun b h => (hd b h).imp id (fun x => by omega)⟩⟩
  · cases h : H w.heap.size with
    | none => rfl
    | some o => exact absurd rfl (hn _ (.inl (by rw [h]; rfl)))
  · by_cases hb : b = w.heap.size
    · subst hb; simp at h; subst h; exact ho
    · simp [hb] at h; exact ga.own b o h
  · rcases hd b h with h | rfl
    · exact g.apart b o h
    · cases hk : K w.heap.size o with
      | none => rfl
      | some v => have := g.klt hk; omega
  · have := hn (jj d) (.inr ⟨d, h, rfl⟩)
    simp [this, g.boxH d h]

/-- A new box of the slot's own. -/
theorem Good.newB (g : Good K jj B H w) {arr : Array Value} {T : TypeId} {cs : List LV} (d : Nat) (hr : Rs K cs arr.toList) (h1 : ∀ v ∈ arr.toList, v.oneCell' = true) :
    Good K (fun i => if i = d then w.heap.size else jj i) (Lv.newB B d cs) H (w.alloc (.cells arr T)) ∧
    Fr (dom H B jj) w K (dom H (Lv.newB B d cs) (fun i => if i = d then w.heap.size else jj i)) (w.alloc (.cells arr T)) K := by
  have ga := g.alloc (.cells arr T)
  have hn : ∀ b, dom H B jj b → b ≠ w.heap.size := fun b h => Nat.ne_of_lt (g.lt h)
  have hsz : arr.size = cs.length := by rw [← Array.length_toList, hr.1]
  have ho : ownObj K (w.alloc (.cells arr T)) w.heap.size (.cells cs cs.length) := by
    have := ownObj.alloc (w := w) (T := T) (arr := arr) (cs := cs) (K := K) (by rw [List.take_of_length_le (by rw [Array.length_toList]; omega)]; exact hr) (by omega) h1
    rwa [hsz] at this
  have hd : ∀ b, dom H (Lv.newB B d cs) (fun i => if i = d then w.heap.size else jj i) b → dom H B jj b ∨ b = w.heap.size := fun b h => by
    rcases h with h | ⟨d', h, h'⟩
    · exact .inl (.inl h)
    · by_cases hx : d' = d
      · simp [hx] at h'; exact .inr h'.symm
      · simp [hx] at h h'; exact .inl (.inr ⟨d', h, h'⟩)
  refine ⟨⟨ga.know, ga.own, fun b o h => ?_, fun d' ver cs' h => ?_, fun d' h => ?_, fun d1 d2 h1 h2 h3 => ?_⟩, ⟨rfl, rfl, rfl, by simp, fun b hb _ => heap_alloc_lt w _ hb, K.le_refl, fun _ _ h h' => absurd h h', fun b h => (hd b h).imp id (fun x => by omega)⟩⟩
  · rcases hd b h with h | rfl
    · exact g.apart b o h
    · cases hk : K w.heap.size o with
      | none => rfl
      | some v => have := g.klt hk; omega
  · by_cases hx : d' = d
    · subst hx; simp at h; obtain ⟨_, rfl⟩ := h; simpa using ho
    · simp [hx] at h ⊢; exact ga.box d' ver cs' h
  · by_cases hx : d' = d
    · simp only [hx, if_true]
      cases h : H w.heap.size with
      | none => rfl
      | some o => exact absurd rfl (hn _ (.inl (by rw [h]; rfl)))
    · simp [hx] at h ⊢; exact g.boxH d' h
  · by_cases e1 : d1 = d <;> by_cases e2 : d2 = d
    · rw [e1, e2]
    · simp [e1, e2] at h2 h3; exact absurd h3.symm (hn _ (.inr ⟨d2, h2, rfl⟩))
    · simp [e1, e2] at h1 h3; exact absurd h3 (hn _ (.inr ⟨d1, h1, rfl⟩))
    · simp [e1, e2] at h1 h2 h3; exact g.boxne d1 d2 h1 h2 h3

theorem RE.newB {x : LV} {v : Value} {d : Nat} {cs : List LV} (h : RE K jj B x v) (n : Nat) : RE K (fun i => if i = d then n else jj i) (Lv.newB B d cs) x v := by
  cases x <;> try exact h
  rename_i d' ver off
  obtain ⟨h1, h2⟩ := h
  by_cases hx : d' = d
  · subst hx; exact ⟨by simp; omega, fun hv _ => by simp at hv; omega⟩
  · exact ⟨by simpa [hx] using h1, fun hv hs => by simp [hx] at hv hs ⊢; exact h2 hv hs⟩
theorem TE.newB {tmps : Array Value} {d : Nat} {cs : List LV} (t : TE K jj B N e tmps) (n : Nat) : TE K (fun i => if i = d then n else jj i) (Lv.newB B d cs) N e tmps := ⟨t.size, fun i => (t.get i).newB n⟩

/-! ### The operations -/

/-- What cells a value has. -/
def lcells : LV → Option (List LV)
  | .agg cs => if cs.all LV.one = true then some cs else none
  | x => if x.one = true then some [x] else none

theorem lcells_ok {x : LV} {v : Value} {cs : List LV} (hr : RE K jj B x v) (h : lcells x = some cs) : Rs K cs v.cells.toList ∧ ∀ u ∈ v.cells.toList, u.oneCell' = true := by
  have one : x.one = true → cs = [x] → Rs K cs v.cells.toList ∧ ∀ u ∈ v.cells.toList, u.oneCell' = true := fun ho hc => by
    have r := hr.r (LV.one_bp ho)
    have h1 := r.oneCell ho
    have hv : v.cells.toList = [v] := by cases v <;> first | rfl | (simp [Value.oneCell'] at h1)
    rw [hv, hc]
    exact ⟨(Rs.nil K).cons r, fun u hu => by simp at hu; subst hu; exact h1⟩
  cases x <;> simp only [lcells] at h <;> try (split at h <;> simp at h <;> rename_i ho <;> exact one ho h.symm)
  rename_i cs'
  split at h
  · rename_i hall
    simp at h; subst h
    have r : R K (.agg cs') v := hr
    cases r with
    | agg _ vs hl hh =>
      refine ⟨⟨by simpa [Value.cells] using hl, fun i x v hx hv => hh i x v hx (by simpa [Value.cells] using hv)⟩, fun u hu => ?_⟩
      simp only [Value.cells] at hu
      obtain ⟨i, hi, rfl⟩ := List.getElem_of_mem hu
      have hi' : i < cs'.length := by simpa [hl] using hi
      have hx : cs'[i]? = some cs'[i] := List.getElem?_eq_getElem hi'
      have hv : vs[i]? = some vs[i] := List.getElem?_eq_getElem (by omega)
      have := (hh i _ _ hx hv).oneCell (List.all_eq_true.1 hall _ (List.getElem_mem hi'))
      simpa using this
  · simp at h

theorem step_alloc {T : Tab} (hT : TOK P T) {t : TypeId} {d : Nat} {ti : TI} (ho : o.op = .alloc t) (hd : o.dst = some d) (hti : T t = some ti) {Q : LV → Box → OHeap → Prop} (h : Q (.bp d ((B d).1 + 1) 0) (newB B d ti.zero) H) : Step P o e B H Q := by
  intro K jj w a N g te
  obtain ⟨z, hz, hzr, _, _, _, hone⟩ := (hT t ti hti).run_zero K
  have h1 : ∀ v ∈ z.cells.toList, v.oneCell' = true := fun v hv => by
    obtain ⟨i, hi, rfl⟩ := List.getElem_of_mem hv
    have hi' : i < ti.zero.length := by rw [← hzr.1]; exact hi
    have := hzr.2 i _ _ (List.getElem?_eq_getElem hi') (List.getElem?_eq_getElem hi)
    exact this.oneCell (hone _ (List.getElem_mem hi'))
  obtain ⟨g', f⟩ := g.newB (T := t) d hzr h1
  refine ⟨_, .pointer (some ⟨w.heap.size, 0, none⟩), w.alloc (.cells z.cells t), ?_, .inl rfl, _, _, _, K, _, g', ?_, te.newB _, f, h⟩
  · simp [execOp, ho, Instr.alloc, hz w, newVar, newRow]
  · exact ⟨by simp, fun _ _ => by simp⟩

theorem step_box {t : TypeId} {x : Operand} {d : Nat} {cs : List LV} (ho : o.op = .box t x) (hd : o.dst = some d) (hx : lcells (ev e x) = some cs) {Q : LV → Box → OHeap → Prop} (h : Q (.bp d ((B d).1 + 1) 0) (newB B d cs) H) : Step P o e B H Q := by
  intro K jj w a N g te
  obtain ⟨hr, h1⟩ := lcells_ok (te.ev x) hx
  obtain ⟨g', f⟩ := g.newB (T := t) d hr h1
  refine ⟨_, .pointer (some ⟨w.heap.size, 0, none⟩), w.alloc (.cells (a.eval x).cells t), ?_, .inl rfl, _, _, _, K, _, g', ?_, te.newB _, f, h⟩
  · simp [execOp, ho, Instr.box, newVar, newRow]
  · exact ⟨by simp, fun _ _ => by simp⟩

theorem run_storeAt {T : Tab} (hT : TOK P T) {t : TypeId} {ti : TI} (hti : T t = some ti) {b off : Nat} {v : Value} (hsz : v.cells.size = ti.size) (hs : (storeCells ⟨b, off, none⟩ v.cells.toList).run P w = .ok () w') :
    (Instr.storeAt t (.pointer (some ⟨b, off, none⟩)) v).run P w = .ok () w' := by
  simp only [Instr.storeAt, Instr.sureAddr, asAddr, pure_bind, storeVar, Sem.run_bind, (hT t ti hti).run_size w, Result.andThen_ok, hsz]
  simp [hs]

theorem step_store_box {T : Tab} (hT : TOK P T) {t : TypeId} {p x : Operand} {d ver off : Nat} {cs ns : List LV} {ti : TI} (ho : o.op = .store t p x) (hp : ev e p = .bp d ver off) (hB : B d = (ver, some cs)) (hti : T t = some ti)
    (hx : lcells (ev e x) = some ns) (hsz : ns.length = ti.size) (hle : off + ns.length ≤ cs.length) {Q : LV → Box → OHeap → Prop} (h : Q .any (setB B d (seg cs off ns)) H) : Step P o e B H Q := by
  intro K jj w a N g te
  obtain ⟨hr, h1⟩ := lcells_ok (te.ev x) hx
  have hp' := te.ev p
  rw [hp] at hp'
  have hsome : (B d).2.isSome = true := by rw [hB]; rfl
  have hv := hp'.2 (by rw [hB]) hsome
  obtain ⟨h2, h3, h4⟩ := own_store (P := P) (g.box d ver cs hB) hr h1 (by omega : off ≤ cs.length) hle
  have hl : (seg cs off ns).length = cs.length := seg_length hle
  rw [← hl] at h3
  obtain ⟨g', f⟩ := g.wroteB hsome h3 h4
  refine ⟨.skip, undef, _, ?_, .inr ⟨rfl, rfl⟩, .any, _, _, K, jj, g', (R.any _).re, te.setB hsome, f, h⟩
  have := run_storeAt hT hti (by rw [← Array.length_toList, hr.1, hsz]) h2
  simp only [execOp, ho, hv, Sem.run_bind, this, Result.andThen_ok, Sem.run_pure]

theorem step_store_ptr {T : Tab} (hT : TOK P T) {t : TypeId} {p x : Operand} {b off n : Nat} {cs ns : List LV} {ti : TI} (ho : o.op = .store t p x) (hp : ev e p = .ptr b off) (hH : H b = some (.cells cs n)) (hti : T t = some ti)
    (hx : lcells (ev e x) = some ns) (hsz : ns.length = ti.size) (hk : off ≤ cs.length) (hle : off + ns.length ≤ n) {Q : LV → Box → OHeap → Prop} (h : Q .any B (setH H b (.cells (seg cs off ns) n))) : Step P o e B H Q := by
  intro K jj w a N g te
  obtain ⟨hr, h1⟩ := lcells_ok (te.ev x) hx
  have hp' := te.ev p
  rw [hp] at hp'
  have hv : a.eval p = .pointer (some ⟨b, off, none⟩) := by
    have r : R K (.ptr b off) (a.eval p) := hp'
    generalize a.eval p = u at r; cases r; rfl
  obtain ⟨h2, h3, h4⟩ := own_store (P := P) (g.own b _ hH) hr h1 hk hle
  obtain ⟨g', f⟩ := g.wroteH (by rw [hH]; rfl) h3 h4
  refine ⟨.skip, undef, _, ?_, .inr ⟨rfl, rfl⟩, .any, _, _, K, jj, g', (R.any _).re, te, f, h⟩
  have := run_storeAt hT hti (by rw [← Array.length_toList, hr.1, hsz]) h2
  simp only [execOp, ho, hv, Sem.run_bind, this, Result.andThen_ok, Sem.run_pure]

end
end Go.Lv
