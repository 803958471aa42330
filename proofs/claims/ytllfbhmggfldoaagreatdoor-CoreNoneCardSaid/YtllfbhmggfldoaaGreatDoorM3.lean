/- Texts of this proof, put together: LvN, LvO, LvP, LvQ, LvR, LvS, LvU, LvV, LvW, LvX, LvY, LvZ. No condition. -/
import Derived.Test.YtllfbhmggfldoaaGreatDoorM2
import Derived.ProofKit
/- Lv, part N: what is owned is sealed, forgotten, named. Over any program; no condition. -/
namespace Go.Lv
open Go
set_option linter.unusedVariables false
set_option linter.unusedSimpArgs false

section
variable {P : Program} {ρ : Option Nat} {N : Nat} {T : Tab} {e : Env} {B : Box} {H : OHeap} {K : Know} {jj : Nat → Nat} {w : World}

/-- A value in which a row of the call's own is read as sealed. -/
def sealV (b es : Nat) (cs : List LV) : LV → LV
  | .sl b' off l c => if b' = b ∧ off + l * es ≤ cs.length ∧ l ≤ c then .isl (decide (c = l)) es (chunks es l ((cs.drop off).take (l * es))) else .sl b' off l c
  | .ptr b' off => if b' = b ∧ off ≤ cs.length then .iptr (cs.drop off) else .ptr b' off
  | x => x
/-- .. and in a tuple. -/
def sealT (b es : Nat) (cs : List LV) : LV → LV
  | .tup vs => .tup (vs.map (sealV b es cs))
  | .agg vs => .agg (vs.map (sealV b es cs))
  | x => sealV b es cs x

theorem sealK (g : Good K jj B H w) {b n : Nat} {cs : List LV} (hH : H b = some (.cells cs n)) : ∃ K', K.le K' ∧ Good K' jj B (delH H b) w ∧ Fr (dom H B jj) w K (dom (delH H b) B jj) w K' ∧
    ∃ vs : List Value, Rs K' cs vs ∧ ∀ (i : Nat) v, vs[i]? = some v → K' b i = some v := by
  obtain ⟨arr, T, fz, hb, hsz, hle, hcs, hfz⟩ := g.own b _ hH
  obtain ⟨g1, f1⟩ := g.delH b
  have hKb : ∀ o, K b o = none := fun o => g.apart b o (.inl (by rw [hH]; rfl))
  have hle' : K.le (fun b' o => if b' = b then arr[o]? else K b' o) := fun b' o v hv => by
    have : b' ≠ b := fun x => by subst x; rw [hKb] at hv; simp at hv
    simp [this, hv]
  refine ⟨fun b' o => if b' = b then arr[o]? else K b' o, hle', ⟨fun b' o v hv => ?_, fun b' o h => (g1.own b' o h).mono hle', fun b' o h => ?_, fun d ver cs' h => (g1.box d ver cs' h).mono hle', g1.boxH, g1.boxne⟩, ⟨f1.os, f1.tape, f1.output, f1.size, f1.old, hle', fun b' o h h' => ?_, f1.newD⟩, arr.toList.take cs.length, ⟨?_, fun i x v hx hv => ?_⟩, fun i v hv => ?_⟩
  · by_cases hx : b' = b
    · subst hx; simp at hv
      unfold World.cell?
      rw [hb]; simpa using hv
    · simp [hx] at hv; exact g.know b' o v hv
  · have hne : b' ≠ b := fun x => by
      subst x
      rcases h with h | ⟨d, h, h'⟩
      · simp at h
      · have := g.boxH d h; rw [h', hH] at this; simp at this
    simp [hne, g1.apart b' o h]
  · by_cases hx : b' = b
    · subst hx; exact .inl (.inl (by rw [hH]; rfl))
    · simp [hx, h] at h'
  · simp; omega
  · obtain ⟨v', h1, _, h3⟩ := hcs i x hx
    rw [List.getElem?_take] at hv
    split at hv
    · have : v' = v := by simp at hv; rw [h1] at hv; simpa using hv
      subst this; exact h3.mono hle'
    · simp at hv
  · rw [List.getElem?_take] at hv
    split at hv
    · simpa using hv
    · simp at hv

theorem R.sealB {b es : Nat} {cs : List LV} {vs : List Value} (hr : Rs K cs vs) (hK : ∀ (i : Nat) v, vs[i]? = some v → K b i = some v) {x : LV} {v : Value} (h : R K x v) : R K (sealV b es cs x) v := by
  cases h <;> try (simp only [sealV]; constructor <;> assumption)
  · rename_i b' o
    simp only [sealV]
    split
    · rename_i hc
      obtain ⟨rfl, hc⟩ := hc
      have hd := hr.drop o
      refine .iptr _ b' o (fun j => (vs[o + j]?).getD undef) (fun j y hy => ?_) (fun j y hy => ?_)
      · obtain ⟨u, h1, h2⟩ := hd.get hy
        rw [List.getElem?_drop] at h1
        rw [h1]; exact hK _ _ h1
      · obtain ⟨u, h1, h2⟩ := hd.get hy
        rw [List.getElem?_drop] at h1
        rw [h1]; exact h2
    · exact .ptr _ _
  · rename_i b' o l c
    simp only [sealV]
    split
    · rename_i hc
      obtain ⟨rfl, hc, hlc⟩ := hc
      have hd := (hr.drop o).take (l * es)
      refine R.chunks (by simp; omega) hd (fun i v hv => ?_) _ hlc (fun h => by simpa using h)
      rw [List.getElem?_take] at hv
      split at hv
      · rw [List.getElem?_drop] at hv; exact hK _ _ hv
      · simp at hv
    · exact .sl _ _ _ _

theorem Rs.sealB {b es : Nat} {cs : List LV} {vs : List Value} (hr : Rs K cs vs) (hK : ∀ (i : Nat) v, vs[i]? = some v → K b i = some v) {xs : List LV} {us : List Value} (h : Rs K xs us) : Rs K (xs.map (sealV b es cs)) us := by
  refine ⟨by rw [h.1, List.length_map], fun i x v hx hv => ?_⟩
  rw [List.getElem?_map] at hx
  obtain ⟨y, hy, rfl⟩ := Option.map_eq_some_iff.1 hx
  exact (h.2 i y v hy hv).sealB hr hK

theorem R.sealT {b es : Nat} {cs : List LV} {vs : List Value} (hr : Rs K cs vs) (hK : ∀ (i : Nat) v, vs[i]? = some v → K b i = some v) {x : LV} {v : Value} (h : R K x v) : R K (Lv.sealT b es cs x) v := by
  cases x with
  | tup xs =>
    cases h with | tup _ us hl hh =>
      have := Rs.sealB (es := es) hr hK (xs := xs) (us := us) ⟨hl, hh⟩
      exact .tup _ _ this.1 this.2
  | agg xs =>
    cases h with | agg _ us hl hh =>
      have := Rs.sealB (es := es) hr hK (xs := xs) (us := us) ⟨hl, hh⟩
      exact .agg _ _ this.1 this.2
  | _ => exact R.sealB (es := es) hr hK h

theorem Wk.sealB {b n : Nat} {cs : List LV} (es : Nat) (hH : H b = some (.cells cs n)) (r : LV) : Wk r H (Lv.sealT b es cs r) (delH H b) := fun K w v g hr => by
  obtain ⟨K', hle, g', f, vs, h1, h2⟩ := sealK g hH
  exact ⟨K', g', (hr.mono hle).sealT h1 h2, f⟩

theorem Wk.del (b : Nat) (r : LV) : Wk r H r (delH H b) := fun K w v g hr => ⟨K, (g.delH b).1, hr, (g.delH b).2⟩

theorem Ends.wk {Q : LV → OHeap → Prop} {r r' : LV} {H' : OHeap} (h : Wk r H r' H') (h' : Ends Q r' H') : Ends Q r H := by
  obtain ⟨r'', H'', h1, h2⟩ := h'
  exact ⟨r'', H'', h.trans h1, h2⟩
theorem Ends.mono {Q Q' : LV → OHeap → Prop} {r : LV} (h : Ends Q r H) (hq : ∀ r H, Q r H → Q' r H) : Ends Q' r H := by
  obtain ⟨r', H', h1, h2⟩ := h
  exact ⟨r', H', h1, hq _ _ h2⟩

theorem delH_setH {b : Nat} {o : LO} (h : H b = none) : delH (setH H b o) b = H := by
  funext i; simp only [delH_apply, setH_apply]; split
  · rename_i hi; rw [hi, h]
  · rfl
theorem delH_none {b : Nat} (h : H b = none) : delH H b = H := by
  funext i; simp only [delH_apply]; split
  · rename_i hi; rw [hi, h]
  · rfl
theorem setH_setH {b : Nat} {o o' : LO} : setH (setH H b o) b o' = setH H b o' := by
  funext i; simp only [setH_apply]; split <;> rfl
theorem delH_setH_ne {b b' : Nat} {o : LO} (h : b ≠ b') : delH (setH H b o) b' = setH (delH H b') b o := by
  funext i; simp only [delH_apply, setH_apply]; split
  · rename_i hi; rw [if_neg (fun x => h (by rw [← x, hi]))]
  · rfl

theorem chunks_flatten {es : Nat} : ∀ (xs : List (List LV)), (∀ x ∈ xs, x.length = es) → chunks es xs.length xs.flatten = xs
  | [], _ => rfl
  | x :: xs, h => by
    have hx : x.length = es := h x (List.mem_cons_self ..)
    simp only [List.length_cons, chunks_succ, List.flatten_cons]
    rw [List.take_left' hx, List.drop_left' hx, chunks_flatten xs (fun y hy => h y (List.mem_cons_of_mem _ hy))]

/-- A row of whole elements is sealed as it stands. -/
theorem sealV_whole {b es c : Nat} {xs : List (List LV)} {rest : List LV} (he : ∀ x ∈ xs, x.length = es) (hc : xs.length ≤ c) :
    sealV b es (xs.flatten ++ rest) (.sl b 0 xs.length c) = .isl (decide (c = xs.length)) es xs := by
  have hl := flatten_length xs he
  simp only [sealV, true_and, Nat.zero_add, List.drop_zero, List.length_append, hl]
  rw [if_pos ⟨by omega, hc⟩, List.take_left' hl, chunks_flatten xs he]

/-! ### In the midst of a body -/

def sealE (b es : Nat) (cs : List LV) (e : Env) : Env := fun i => sealT b es cs (e i)
@[simp] theorem sealE_upd (b es : Nat) (cs : List LV) (d : Nat) (x : LV) : sealE b es cs (upd e d x) = upd (sealE b es cs e) d (sealT b es cs x) := by
  funext i; simp only [sealE, upd_apply]; split <;> rfl
@[simp] theorem sealE_apply (b es : Nat) (cs : List LV) (i : Nat) : sealE b es cs e i = sealT b es cs (e i) := rfl

theorem Below.sealB {b n : Nat} {cs : List LV} (es : Nat) (hH : H b = some (.cells cs n)) : Below (N := N) e (sealE b es cs e) B B H (delH H b) := fun K jj w tmps g t => by
  obtain ⟨K', hle, g', f, vs, h1, h2⟩ := sealK g hH
  refine ⟨K', jj, g', ⟨t.size, fun i => ?_⟩, f⟩
  have h := (t.get i).mono hle
  simp only [sealE]
  cases he : e i with
  | bp d ver off => rw [he] at h; exact h
  | _ => rw [he] at h; exact (R.sealT h1 h2 (h.r (by simp))).re

theorem Below.del (b : Nat) : Below (N := N) e e B B H (delH H b) := fun K jj w tmps g t => ⟨K, jj, (g.delH b).1, t, (g.delH b).2⟩

/-- Less is known of a slot. -/
theorem Below.any (i : Nat) : Below (N := N) e (upd e i .any) B B H H := fun K jj w tmps g t => ⟨K, jj, g, ⟨t.size, fun j => by
  simp only [upd_apply]; split
  · exact (R.any _).re
  · exact t.get j⟩, Fr.refl _ _ _⟩

/-- A private box is sealed: nobody writes it any more. -/
def iboxV (d ver : Nat) (cs : List LV) : LV → LV
  | .bp d' ver' off => if d' = d ∧ ver' = ver ∧ off ≤ cs.length then .iptr (cs.drop off) else .bp d' ver' off
  | x => x
def iboxE (d ver : Nat) (cs : List LV) (e : Env) : Env := fun i => iboxV d ver cs (e i)
@[simp] theorem iboxE_upd (d ver : Nat) (cs : List LV) (i : Nat) (x : LV) : iboxE d ver cs (upd e i x) = upd (iboxE d ver cs e) i (iboxV d ver cs x) := by
  funext j; simp only [iboxE, upd_apply]; split <;> rfl
@[simp] theorem iboxE_apply (d ver : Nat) (cs : List LV) (i : Nat) : iboxE d ver cs e i = iboxV d ver cs (e i) := rfl

theorem delB_dom (g : Good K jj B H w) (d : Nat) : ∀ x, dom H (delB B d) jj x → dom H B jj x := fun x h => by
  rcases h with h | ⟨d', h, h'⟩
  · exact .inl h
  · by_cases hx : d' = d
    · simp [hx] at h
    · exact .inr ⟨d', by simpa [hx] using h, h'⟩

theorem Good.delB (g : Good K jj B H w) (d : Nat) : Good K jj (Lv.delB B d) H w := {
  know := g.know
  own := g.own
  apart b o h := g.apart b o (delB_dom g d b h)
  box d' ver cs h := by
    by_cases hx : d' = d
    · simp [hx] at h
    · exact g.box d' ver cs (by simpa [hx] using h)
  boxH d' h := g.boxH d' (by by_cases hx : d' = d; simp [hx] at h; simpa [hx] using h)
  boxne d1 d2 h1 h2 := g.boxne d1 d2 (by by_cases hx : d1 = d; simp [hx] at h1; simpa [hx] using h1) (by by_cases hx : d2 = d; simp [hx] at h2; simpa [hx] using h2) }

theorem RE.delB {x : LV} {v : Value} {d : Nat} (h : RE K jj B x v) : RE K jj (Lv.delB B d) x v := by
  cases x <;> try exact h
  rename_i d' ver off
  obtain ⟨h1, h2⟩ := h
  by_cases hx : d' = d
  · subst hx; exact ⟨by simpa using h1, fun _ hs => by simp at hs⟩
  · exact ⟨by simpa [hx] using h1, fun hv hs => h2 (by simpa [hx] using hv) (by simpa [hx] using hs)⟩

theorem Below.ibox {d ver : Nat} {cs : List LV} (hB : B d = (ver, some cs)) : Below (N := N) e (iboxE d ver cs e) B (delB B d) H H := fun K jj w tmps g t => by
  obtain ⟨arr, T, fz, hb, hsz, hle, hcs, hfz⟩ := g.box d ver cs hB
  have hsome : (B d).2.isSome = true := by rw [hB]; rfl
  have hKb : ∀ o, K (jj d) o = none := fun o => g.apart (jj d) o (.inr ⟨d, hsome, rfl⟩)
  have g1 := g.delB d
  have hle' : K.le (fun b' o => if b' = jj d then arr[o]? else K b' o) := fun b' o v hv => by
    have : b' ≠ jj d := fun x => by subst x; rw [hKb] at hv; simp at hv
    simp [this, hv]
  refine ⟨fun b' o => if b' = jj d then arr[o]? else K b' o, jj, ⟨fun b' o v hv => ?_, fun b' o h => (g1.own b' o h).mono hle', fun b' o h => ?_, fun d ver cs' h => (g1.box d ver cs' h).mono hle', g1.boxH, g1.boxne⟩, ⟨t.size, fun i => ?_⟩,
    ⟨rfl, rfl, rfl, Nat.le_refl _, fun _ _ _ => rfl, hle', fun b' o h h' => ?_, fun b h => .inl (delB_dom g d b h)⟩⟩
  · by_cases hx : b' = jj d
    · subst hx; simp at hv
      unfold World.cell?
      rw [hb]; simpa using hv
    · simp [hx] at hv; exact g.know b' o v hv
  · have hne : b' ≠ jj d := fun x => by
      subst x
      rcases h with h | ⟨d', h, h'⟩
      · have := g.boxH d hsome; rw [this] at h; simp at h
      · by_cases hx : d' = d
        · simp [hx] at h
        · exact hx (g.boxne d' d (by simpa [hx] using h) hsome h')
    simp [hne, g1.apart b' o h]
  · have h := t.get i
    simp only [iboxE]
    cases he : e i with
    | bp d' ver' off =>
      rw [he] at h
      simp only [iboxV]
      split
      · rename_i hc
        obtain ⟨rfl, rfl, hc⟩ := hc
        have hv := h.2 (by rw [hB]) hsome
        rw [hv]
        refine R.re (.iptr _ (jj d') off (fun j => (arr[off + j]?).getD undef) (fun j y hy => ?_) (fun j y hy => ?_))
        · rw [List.getElem?_drop] at hy
          obtain ⟨v, h1, _, h3⟩ := hcs _ y hy
          simp [h1]
        · rw [List.getElem?_drop] at hy
          obtain ⟨v, h1, _, h3⟩ := hcs _ y hy
          simp only [h1]; exact h3.mono hle'
      · exact (RE.delB h).mono hle'
    | _ => rw [he] at h; exact ((h.r (by simp)).mono hle').re
  · by_cases hx : b' = jj d
    · subst hx; exact .inl (.inr ⟨d, hsome, rfl⟩)
    · simp [hx, h] at h'

/-- A private box gets a name. -/
def nboxV (d ver b : Nat) : LV → LV
  | .bp d' ver' off => if d' = d ∧ ver' = ver then .ptr b off else .bp d' ver' off
  | x => x
def nboxE (d ver b : Nat) (e : Env) : Env := fun i => nboxV d ver b (e i)
@[simp] theorem nboxE_upd (d ver b : Nat) (i : Nat) (x : LV) : nboxE d ver b (upd e i x) = upd (nboxE d ver b e) i (nboxV d ver b x) := by
  funext j; simp only [nboxE, upd_apply]; split <;> rfl
@[simp] theorem nboxE_apply (d ver b : Nat) (i : Nat) : nboxE d ver b e i = nboxV d ver b (e i) := rfl

theorem Good.nbox (g : Good K jj B H w) {d ver : Nat} {cs : List LV} (hB : B d = (ver, some cs)) : Good K jj (Lv.delB B d) (setH H (jj d) (.cells cs cs.length)) w ∧ H (jj d) = none ∧
    Fr (dom H B jj) w K (dom (setH H (jj d) (.cells cs cs.length)) (Lv.delB B d) jj) w K := by
  have hsome : (B d).2.isSome = true := by rw [hB]; rfl
  have hd : ∀ x, dom (setH H (jj d) (.cells cs cs.length)) (Lv.delB B d) jj x → dom H B jj x := fun x h => by
    rcases h with h | h
    · by_cases hx : x = jj d
      · exact .inr ⟨d, hsome, hx.symm⟩
      · exact .inl (by simpa [hx] using h)
    · exact delB_dom g d x (.inr h)
  refine ⟨⟨g.know, fun b o h => ?_, fun b o h => g.apart b o (hd b h), (g.delB d).box, fun d' h => ?_, (g.delB d).boxne⟩, g.boxH d hsome, (Fr.refl _ w K).weak hd⟩
  · by_cases hx : b = jj d
    · subst hx; simp at h; subst h; exact g.box d ver cs hB
    · simp [hx] at h; exact g.own b o h
  · have h1 := (g.delB d).boxH d' h
    have hne : d' ≠ d := fun x => by subst x; simp at h
    have : jj d' ≠ jj d := fun x => hne (g.boxne d' d (by simpa [hne] using h) hsome x)
    simp [this, h1]

theorem WP.nbox {c : Code} {Q : Post} {d ver : Nat} {cs : List LV} (hB : B d = (ver, some cs)) (h : ∀ b, H b = none → WP P ρ N c Q (nboxE d ver b e) (delB B d) (setH H b (.cells cs cs.length))) : WP P ρ N c Q e B H := by
  intro hd n m K jj w a g t dk
  obtain ⟨g', hn, f⟩ := g.nbox hB
  have hsome : (B d).2.isSome = true := by rw [hB]; rfl
  refine wpIn_mono (h (jj d) hn hd n m K jj w a g' ⟨t.size, fun i => ?_⟩ (dk.fr f)) fun _ _ _ hl => hl.fr f
  have h1 := t.get i
  simp only [nboxE]
  cases he : e i with
  | bp d' ver' off =>
    rw [he] at h1
    simp only [nboxV]
    split
    · rename_i hc
      obtain ⟨rfl, rfl⟩ := hc
      rw [h1.2 (by rw [hB]) hsome]
      exact (R.ptr _ _).re
    · exact RE.delB h1
  | _ => rw [he] at h1; exact (h1.r (by simp)).re

end
end Go.Lv
/- Lv, part O: what an operation hangs on: its operands, the boxes, the memory. Over any program; no condition. -/
namespace Go.Lv
open Go
set_option linter.unusedVariables false
set_option linter.unusedSimpArgs false

section
variable {P : Program} {T : Tab} {o : Oper} {e e' : Env} {B B' : Box} {H H' : OHeap} {x : LV}

def tmpsOf : Operand → List Tmp | .tmp t => [t] | _ => []
theorem ev_congr {p : Operand} (h : ∀ t ∈ tmpsOf p, e t = e' t) : ev e p = ev e' p := by
  cases p <;> first | rfl | exact h _ (by simp [tmpsOf])

def readsOf (o : Oper) : List Tmp := o.op.operands.toList.flatMap tmpsOf

/-- The two environments are the same to the operation. -/
def SameE (o : Oper) (e e' : Env) : Prop := ∀ p ∈ o.op.operands.toList, ev e p = ev e' p
theorem SameE.of (h : ∀ t ∈ readsOf o, e t = e' t) : SameE o e e' := fun p hp => ev_congr fun t ht => h t (List.mem_flatMap.2 ⟨p, hp, ht⟩)

theorem evs_congr {l : Array Operand} (h : ∀ p ∈ l.toList, ev e p = ev e' p) : evs e l = evs e' l := List.map_congr_left h
theorem evParts_congr {l : Array (Nat × Operand)} (h : ∀ p ∈ l.toList, ev e p.2 = ev e' p.2) : evParts e l = evParts e' l := List.map_congr_left fun p hp => by rw [h p hp]

theorem pf_congr (h : SameE o e e') : pf T o e B H = pf T o e' B H := by
  unfold SameE at h
  unfold pf
  cases ho : o.op <;> rw [ho] at h <;> simp only [Op.operands] at h <;> try rfl
  · rename_i p; simp only []; rw [h p (by simp)]
  · rename_i p; simp only []; rw [h p (by simp)]
  · rename_i c p q; simp only []; rw [h c (by simp), h p (by simp), h q (by simp)]
  · rename_i t ps
    have : evParts e ps = evParts e' ps := evParts_congr fun p hp => h p.2 (by simp; exact ⟨p.1, by simpa using hp⟩)
    simp only [pfBuild, this]
  · rename_i t n ps
    have : evParts e ps = evParts e' ps := evParts_congr fun p hp => h p.2 (by simp; exact ⟨p.1, by simpa using hp⟩)
    simp only [pfBuildSlice, this]
  · rename_i t p; simp only []; rw [h p (by simp)]
  · rename_i p; simp only []; rw [h p (by simp)]
  · rename_i op t p q yt; simp only []; rw [h p (by simp), h q (by simp)]
  · rename_i op t p; simp only []; rw [h p (by simp)]
  · rename_i s d p; simp only []; rw [h p (by simp)]
  · rename_i t p; simp only []; rw [h p (by simp)]
  · rename_i fn fst caps
    have h1 : evs e fst = evs e' fst := evs_congr fun p hp => h p (by simp at hp ⊢; exact .inl hp)
    have h2 : evs e caps = evs e' caps := evs_congr fun p hp => h p (by simp at hp ⊢; exact .inr hp)
    simp only [pfFunc, h1, h2]
  · rename_i t p lo hi mx
    have hp := h p (by simp)
    have hl : lo.map (ev e) = lo.map (ev e') := by cases lo with | none => rfl | some q => simp only [Option.map_some]; rw [h q (by simp)]
    have hh : hi.map (ev e) = hi.map (ev e') := by cases hi with | none => rfl | some q => simp only [Option.map_some]; rw [h q (by simp)]
    have hm : mx.map (ev e) = mx.map (ev e') := by cases mx with | none => rfl | some q => simp only [Option.map_some]; rw [h q (by simp)]
    simp only [hp, hl, hh, hm]
  · rename_i s p f; simp only []; rw [h p (by simp)]
  · rename_i s p f; simp only []; rw [h p (by simp)]
  · rename_i t p q; simp only []; rw [h p (by simp), h q (by simp)]
  · rename_i t p q; simp only []; rw [h p (by simp), h q (by simp)]
  · rename_i p i; simp only []; rw [h p (by simp)]
  · rename_i c
    have ha : ∀ p ∈ c.args.toList, ev e p = ev e' p := fun p hp => h p (by simp only [Call.operands, Array.toList_append, List.mem_append]; exact .inr hp)
    simp only []
    split
    · rename_i p t _ hl _; rw [ha p (by rw [hl]; simp)]
    · rename_i p t _ hl _; rw [ha p (by rw [hl]; simp)]
    · rename_i p q t u _ hl _; rw [ha p (by rw [hl]; simp), ha q (by rw [hl]; simp)]
    · rename_i p q t u _ hl _; rw [ha p (by rw [hl]; simp), ha q (by rw [hl]; simp)]
    · rfl

/-- An operation that looks at no memory. -/
def memless (o : Oper) : Bool := match o.op with
  | .move _ | .assign _ | .pick .. | .binOp .. | .unOp .. | .field .. | .index .. | .slice .. | .extract .. | .makeInterface .. | .makeFunc .. | .build .. | .buildSlice .. => true
  | _ => false
theorem pf_memless (h : memless o = true) : pf T o e B H = pf T o e B' H' := by
  unfold memless at h
  unfold pf
  cases ho : o.op <;> rw [ho] at h <;> first | rfl | simp at h

/-- More boxes. -/
def addB (B : Box) (E : Nat → Option (List LV)) : Box := fun d => match E d with | some z => ((B d).1 + 1, some z) | none => B d
def FreeE (B : Box) (E : Nat → Option (List LV)) : Prop := ∀ d, (E d).isSome = true → (B d).2 = none

theorem addB_none {E : Nat → Option (List LV)} {d : Nat} (h : E d = none) : addB B E d = B d := by simp [addB, h]
theorem addB_here {E : Nat → Option (List LV)} (hf : FreeE B E) {d : Nat} (h : (B d).2.isSome = true) : addB B E d = B d := by
  cases hE : E d with
  | none => exact addB_none hE
  | some z => have := hf d (by rw [hE]; rfl); rw [this] at h; simp at h

theorem cellsAt_mono {E : Nat → Option (List LV)} (hf : FreeE B E) {p : LV} {cs : List LV} (h : cellsAt B H p = some cs) : cellsAt (addB B E) H p = some cs := by
  cases p <;> try exact h
  rename_i d ver off
  simp only [cellsAt] at h ⊢
  split at h
  · rename_i hv
    obtain ⟨l, hl, hcs⟩ := Option.map_eq_some_iff.1 h
    have hh := addB_here hf (d := d) (by rw [hl]; rfl)
    rw [hh, if_pos hv, hl]; simp [hcs]
  · simp at h
theorem ptrAdd_mono {E : Nat → Option (List LV)} (hf : FreeE B E) {p : LV} {n : Nat} {y : LV} (h : ptrAdd B p n = some y) : ptrAdd (addB B E) p n = some y := by
  cases p <;> try exact h
  rename_i d ver off
  simp only [ptrAdd] at h ⊢
  split at h
  · rename_i hv
    rw [addB_here hf hv.2, if_pos hv]; exact h
  · simp at h

theorem pf_mono {E : Nat → Option (List LV)} (hf : FreeE B E) (h : pf T o e B H = some x) : pf T o e (addB B E) H = some x := by
  unfold pf at h ⊢
  cases ho : o.op <;> rw [ho] at h <;> simp only [] at h ⊢ <;> try exact h
  · -- load
    rename_i t p
    rw [pfLoad_eq] at h ⊢
    cases hT : T t with
    | none => simp [hT] at h
    | some ti =>
      simp only [hT, Option.bind_some] at h ⊢
      cases hc : cellsAt B H (ev e p) with
      | none => simp [hc] at h
      | some cs => rw [cellsAt_mono hf hc]; simpa [hc] using h
  · -- nilCheck
    rename_i p
    split at h
    · rename_i hc
      rw [if_pos]
      · exact h
      · simp only [Bool.or_eq_true] at hc ⊢
        rcases hc with hc | hc
        · exact .inl hc
        · refine .inr ?_
          generalize ev e p = q at hc
          cases q <;> try (simp [bpHere] at hc)
          rename_i d ver off
          simp only [bpHere, Bool.and_eq_true, decide_eq_true_eq]
          rw [addB_here hf hc.2]; exact hc
    · simp at h
  · -- fieldAddr
    rename_i s p f
    rw [pfFieldAddr_eq] at h ⊢
    cases hT : T s with
    | none => simp [hT] at h
    | some ti =>
      simp only [hT, Option.bind_some] at h ⊢
      cases hk : ti.kind.fields with
      | none => simp [hk] at h
      | some fs =>
        simp only [hk, Option.bind_some] at h ⊢
        cases hg : fs[f]? with
        | none => simp [hg] at h
        | some y =>
          simp only [hg, Option.bind_some] at h ⊢
          cases hT2 : T y.1 with
          | none => simp [hT2] at h
          | some fi =>
            simp only [hT2, Option.bind_some] at h ⊢
            split at h
            · simp at h
            · rename_i hz; rw [if_neg hz]; exact ptrAdd_mono hf h
  · -- indexAddr
    rename_i t p i
    rw [pfIndexAddr_eq] at h ⊢
    cases hT : T t with
    | none => simp [hT] at h
    | some ti =>
      simp only [hT, Option.bind_some] at h ⊢
      unfold idxK at h ⊢
      split at h
      · split at h
        · exact h
        · rename_i m el hk
          cases hT2 : T el with
          | none => simp [hT2] at h
          | some ei =>
            simp only [hT2, Option.bind_some] at h ⊢
            split at h
            · rename_i hz; rw [if_pos hz]; exact ptrAdd_mono hf h
            · simp at h
        · simp at h
      · simp at h

/-- An operation whose condition is its value. -/
def pureOp (o : Oper) : Bool := match o.op with
  | .move _ | .assign _ | .pick .. | .load .. | .nilCheck _ | .binOp .. | .unOp .. | .convert .. | .fieldAddr .. | .field .. | .indexAddr .. | .index .. | .slice .. | .extract .. | .makeInterface .. | .makeFunc .. | .build .. | .buildSlice .. => true
  | .call c => match c.callee with | .builtin .len | .builtin .cap | .builtin .min | .builtin .max => true | _ => false
  | _ => false
theorem oneS_pure (h : pureOp o = true) (Q : LV → Box → OHeap → Prop) : oneS P T o e B H Q = ob (pf T o e B H) fun x => Q x B H := by
  unfold pureOp at h
  unfold oneS
  cases ho : o.op <;> rw [ho] at h <;> first | (simp at h; done) | (simp only [opS, ho]; done) | skip
  rename_i c
  obtain ⟨cal, args, ats⟩ := c
  simp only [] at h ⊢
  cases cal with
  | builtin b => cases b <;> simp at h <;> simp [opS, ho]
  | _ => simp at h

theorem appL_congr' {n by_ : Nat} {s s' y y' : LV} {k : LV → OHeap → Prop} (h1 : s = s') (h2 : y = y') : appL H n by_ s y k = appL H n by_ s' y' k := by rw [h1, h2]

theorem opS_congr (h : SameE o e e') (Q : LV → Box → OHeap → Prop) : opS T o e B H Q = opS T o e' B H Q := by
  have hpf := pf_congr (T := T) (B := B) (H := H) h
  unfold SameE at h
  unfold opS
  cases ho : o.op <;> rw [ho] at h <;> simp only [Op.operands] at h <;> simp only [] <;> try (rw [hpf])
  · rename_i t p; rw [h p (by simp)]
  · rename_i t p q; rw [h p (by simp), h q (by simp)]
  · rename_i t p q; rw [h p (by simp), h q (by simp)]
  · rename_i c
    have ha : ∀ p ∈ c.args.toList, ev e p = ev e' p := fun p hp => h p (by simp only [Call.operands, Array.toList_append, List.mem_append]; exact .inr hp)
    split
    · rename_i s y t tx _ hl _; rw [ha s (by rw [hl]; simp), ha y (by rw [hl]; simp)]
    · rename_i s y t tx _ hl _; rw [ha s (by rw [hl]; simp), ha y (by rw [hl]; simp)]
    · rename_i s t _ hl _; rw [ha s (by rw [hl]; simp)]
    · rfl

theorem mapS_congr {Q : LV → OHeap → Prop} (h : SameE o e e') : mapS T o e H Q = mapS T o e' H Q := by
  unfold SameE at h
  unfold mapS
  cases ho : o.op <;> rw [ho] at h <;> simp only [Op.operands] at h <;> try (first | rfl | simp only [])
  case makeMap t c => cases c <;> rfl
  case lookup t x k ok => rw [h x (by simp), h k (by simp)]
  case mapUpdate t m k v => rw [h m (by simp), h k (by simp), h v (by simp)]
  case mapEntry t m k => rw [h m (by simp), h k (by simp)]
  case entryStore t m s v => rw [h m (by simp), h s (by simp), h v (by simp)]
  case range t x => rw [h x (by simp)]
  case next it s =>
    cases s
    · simp only []; rw [h it (by simp)]
    · rfl
  case entry it => rw [h it (by simp)]
  case call c =>
    have ha : ∀ p ∈ c.args.toList, ev e p = ev e' p := fun p hp => h p (by simp only [Call.operands, Array.toList_append, List.mem_append]; exact .inr hp)
    split
    · rename_i m k t tx _ hl _; rw [ha m (by rw [hl]; simp), ha k (by rw [hl]; simp)]
    · rfl

theorem oneS_congr (h : SameE o e e') (Q : LV → Box → OHeap → Prop) : oneS P T o e B H Q = oneS P T o e' B H Q := by
  have hop := opS_congr (T := T) (B := B) (H := H) h Q
  have hmp := mapS_congr (T := T) (H := H) (Q := fun x H' => Q x B H') h
  unfold SameE at h
  unfold oneS
  cases ho : o.op <;> simp only [] <;> first | (rw [hop]; done) | (rw [mapS_congr h]; done) | skip
  rename_i c
  rw [ho] at h
  split
  · rename_i f hc
    have hf : ev e f = ev e' f := h f (by simp [Op.operands, Call.operands, hc])
    have hargs : evs e c.args = evs e' c.args := evs_congr fun p hp => h p (by simp only [Op.operands, Call.operands, Array.toList_append, List.mem_append]; exact .inr hp)
    simp only [callee, hc, hf, hargs]
  · exact hmp
  · exact hop

end
end Go.Lv
/- Lv, part P: regions whose order is drawn: the condition of one order, and what makes it every order's. Over any program; no condition. -/
namespace Go.Lv
open Go
set_option linter.unusedVariables false
set_option linter.unusedSimpArgs false

section
variable {P : Program} {ρ : Option Nat} {N : Nat} {T : Tab} {o : Oper} {ops : Array Oper} {e e' : Env} {B B' : Box} {H H' : OHeap} {x : LV} {E : Nat → Option (List LV)} {F : Nat → Prop}

def isAlloc (o : Oper) : Bool := match o.op with | .alloc _ => true | _ => false
def isBox (o : Oper) : Bool := match o.op with | .alloc _ | .box .. => true | _ => false

/-- With more boxes, as with fewer; where there was none (F), there is none. -/
structure FF (B : Box) (E : Nat → Option (List LV)) (F : Nat → Prop) : Prop where
  sub : ∀ d, (E d).isSome = true → F d
  free : ∀ d, F d → (B d).2 = none
theorem FF.free' (h : FF B E F) : FreeE B E := fun d hd => h.free d (h.sub d hd)
def More (B : Box) (E : Nat → Option (List LV)) (F : Nat → Prop) (Q : LV → Box → OHeap → Prop) : LV → Box → OHeap → Prop := fun x B1 H1 => ∃ B0, B1 = addB B0 E ∧ (∀ d, F d → B0 d = B d) ∧ Q x B0 H1
theorem More.here {Q : LV → Box → OHeap → Prop} (h : Q x B H) : More B E F Q x (addB B E) H := ⟨B, rfl, fun _ _ => rfl, h⟩

theorem FF.setB (hf : FF B E F) {d : Nat} {cs : List LV} (h : (B d).2.isSome = true) : (∀ d', F d' → Lv.setB B d cs d' = B d') ∧ Lv.setB (addB B E) d cs = addB (Lv.setB B d cs) E := by
  have hE : E d = none := by
    cases hE : E d with
    | none => rfl
    | some z => have := hf.free' d (by rw [hE]; rfl); rw [this] at h; simp at h
  refine ⟨fun d' hd' => ?_, ?_⟩
  · have hne : d' ≠ d := fun x => by subst x; rw [hf.free d' hd'] at h; simp at h
    simp [hne]
  · funext i
    by_cases hi : i = d
    · subst hi; simp [addB, hE]
    · simp only [setB_apply, hi, if_false, addB]

theorem opS_add (hf : FF B E F) (hb : isBox o = false) {Q : LV → Box → OHeap → Prop} (h : opS T o e B H Q) : opS T o e (addB B E) H (More B E F Q) := by
  have hpf : (ob (pf T o e B H) fun x => Q x B H) → ob (pf T o e (addB B E) H) fun x => More B E F Q x (addB B E) H := fun h => by
    obtain ⟨x, hx, hq⟩ := ob_elim h
    rw [pf_mono hf.free' hx]; exact More.here hq
  unfold isBox at hb
  unfold opS at h ⊢
  cases ho : o.op <;> rw [ho] at h hb <;> simp only [] at h hb ⊢ <;> first | (simp at hb; done) | exact hpf h | skip
  · rename_i t p y
    split at h
    · rename_i ti ns hti hns
      refine ⟨h.1, ?_⟩
      have h := h.2
      unfold stL at h ⊢
      split at h
      · rename_i d ver off hev
        obtain ⟨hv, h⟩ := h
        split at h
        · rename_i cs hcs
          have hh := addB_here hf.free' (d := d) (by rw [hcs]; rfl)
          simp only [hh, hcs]
          obtain ⟨h1, h2⟩ := hf.setB (d := d) (cs := seg cs off ns) (by rw [hcs]; rfl)
          exact ⟨hv, h.1, _, h2, h1, h.2⟩
        · exact h.elim
      · split at h
        · rename_i hH
          simp only [hH]
          exact ⟨h.1, More.here h.2⟩
        · exact h.elim
      · exact h.elim
    · exact h.elim
  · rename_i t l c
    split at h
    · rename_i ti hti
      split at h
      · rename_i el hk
        split at h
        · rename_i h1 h2 h3
          exact ⟨h.1, fun b hb' => More.here (h.2 b hb')⟩
        · exact h.elim
      · exact h.elim
    · exact h.elim
  · rename_i c
    split at h
    · split at h
      · split at h
        · split at h
          · exact ⟨h.1, appL_mono (fun r H1 hq => More.here hq) h.2⟩
          · exact h.elim
        · exact h.elim
      · exact h.elim
    · split at h
      · split at h
        · split at h
          · refine ⟨h.1, ?_⟩
            have h := h.2
            split at h
            · exact ⟨h.1, More.here h.2⟩
            · exact h.elim
          · exact h.elim
        · exact h.elim
      · exact h.elim
    · split at h
      · split at h
        · split at h
          · split at h
            · exact ⟨h.1, More.here h.2⟩
            · exact h.elim
          · exact h.elim
        · exact h.elim
      · exact h.elim
    · exact hpf h

theorem oneS_add (hf : FF B E F) (hb : isBox o = false) {Q : LV → Box → OHeap → Prop} (h : oneS P T o e B H Q) : oneS P T o e (addB B E) H (More B E F Q) := by
  unfold oneS at h ⊢
  split at h
  · split at h
    · split at h
      · exact ⟨h.1, h.2.mono fun x H' hq => More.here hq⟩
      · split at h
        · exact ⟨h.1, h.2.mono fun x H' hq => More.here hq⟩
        · exact h.elim
    · exact mapS_mono (fun x H' hq => More.here hq) h
    · exact opS_add hf hb h
  · exact mapS_mono (fun x H' hq => More.here hq) h
  · exact mapS_mono (fun x H' hq => More.here hq) h
  · exact h.elim
  all_goals first | exact opS_add hf hb h | exact mapS_mono (fun x H' hq => More.here hq) h

theorem opS_mono {Q Q' : LV → Box → OHeap → Prop} (hq : ∀ x B H, Q x B H → Q' x B H) (h : opS T o e B H Q) : opS T o e B H Q' := by
  unfold opS at h ⊢
  split at h
  · split at h
    · exact hq _ _ _ h
    · exact h
  · split at h
    · exact hq _ _ _ h
    · exact h
  · split at h
    · refine ⟨h.1, ?_⟩
      have h := h.2
      unfold stL at h ⊢
      split at h
      · refine ⟨h.1, ?_⟩
        have h := h.2
        split at h
        · exact ⟨h.1, hq _ _ _ h.2⟩
        · exact h
      · split at h
        · exact ⟨h.1, hq _ _ _ h.2⟩
        · exact h
      · exact h
    · exact h
  · split at h
    · split at h
      · split at h
        · exact ⟨h.1, fun b hb => hq _ _ _ (h.2 b hb)⟩
        · exact h
      · exact h
    · exact h
  · split at h
    · split at h
      · split at h
        · split at h
          · exact ⟨h.1, appL_mono (fun r H1 h1 => hq _ _ _ h1) h.2⟩
          · exact h
        · exact h
      · exact h
    · split at h
      · split at h
        · split at h
          · refine ⟨h.1, ?_⟩
            have h := h.2
            split at h
            · exact ⟨h.1, hq _ _ _ h.2⟩
            · exact h
          · exact h
        · exact h
      · exact h
    · split at h
      · split at h
        · split at h
          · split at h
            · exact ⟨h.1, hq _ _ _ h.2⟩
            · exact h
          · exact h
        · exact h
      · exact h
    · exact ob_mono h fun x hx => hq _ _ _ hx
  · exact ob_mono h fun x hx => hq _ _ _ hx

theorem oneS_mono {Q Q' : LV → Box → OHeap → Prop} (hq : ∀ x B H, Q x B H → Q' x B H) (h : oneS P T o e B H Q) : oneS P T o e B H Q' := by
  unfold oneS at h ⊢
  split at h
  · split at h
    · split at h
      · exact ⟨h.1, h.2.mono fun x H' h1 => hq _ _ _ h1⟩
      · split at h
        · exact ⟨h.1, h.2.mono fun x H' h1 => hq _ _ _ h1⟩
        · exact h
    · exact mapS_mono (fun x H' h1 => hq _ _ _ h1) h
    · exact opS_mono hq h
  · exact mapS_mono (fun x H' h1 => hq _ _ _ h1) h
  · exact mapS_mono (fun x H' h1 => hq _ _ _ h1) h
  · exact h
  all_goals first | exact opS_mono hq h | exact mapS_mono (fun x H' h1 => hq _ _ _ h1) h

/-! ### With the guard -/
def gsl (ops : Array Oper) (j : Nat) : Option Tmp := (ops[j]?).bind (·.dst)

/-- Is it wanted? none: one cannot tell. -/
def gWant (ops : Array Oper) (o : Oper) (e : Env) : Option Bool := match o.guard with
  | none => some true
  | some (j, want) => match gsl ops j with
    | some t => match e t with
      | .bool b => some (b == want)
      | .tup [] => some false
      | _ => none
    | none => none

def pvG (T : Tab) (ops : Array Oper) (o : Oper) (e : Env) (B : Box) (H : OHeap) : Option LV := match gWant ops o e with
  | some true => pf T o e B H
  | some false => some (.tup [])
  | none => none

def oneG (P : Program) (T : Tab) (ops : Array Oper) (o : Oper) (e : Env) (B : Box) (H : OHeap) (Q : LV → Box → OHeap → Prop) : Prop := match gWant ops o e with
  | some true => oneS P T o e B H Q
  | some false => Q (.tup []) B H
  | none => False

def readsG (ops : Array Oper) (o : Oper) : List Tmp := readsOf o ++ (match o.guard with | some (j, _) => (match gsl ops j with | some t => [t] | none => []) | none => [])

theorem gWant_congr (h : ∀ t ∈ readsG ops o, e t = e' t) : gWant ops o e = gWant ops o e' := by
  unfold gWant
  cases hg : o.guard with
  | none => rfl
  | some g =>
    obtain ⟨j, want⟩ := g
    simp only []
    cases ht : gsl ops j with
    | none => rfl
    | some t =>
      simp only []
      rw [h t (by simp [readsG, hg, ht])]
theorem SameE.ofG (h : ∀ t ∈ readsG ops o, e t = e' t) : SameE o e e' := SameE.of fun t ht => h t (by simp [readsG, ht])
theorem pvG_congr (h : ∀ t ∈ readsG ops o, e t = e' t) : pvG T ops o e B H = pvG T ops o e' B H := by
  unfold pvG; rw [gWant_congr h, pf_congr (SameE.ofG h)]
theorem oneG_congr (h : ∀ t ∈ readsG ops o, e t = e' t) (Q : LV → Box → OHeap → Prop) : oneG P T ops o e B H Q = oneG P T ops o e' B H Q := by
  unfold oneG; rw [gWant_congr h, oneS_congr (SameE.ofG h)]
theorem pvG_memless (h : memless o = true) : pvG T ops o e B H = pvG T ops o e B' H' := by
  unfold pvG; rw [pf_memless h]
theorem pvG_add (hf : FreeE B E) (h : pvG T ops o e B H = some x) : pvG T ops o e (addB B E) H = some x := by
  unfold pvG at h ⊢
  split at h
  · exact pf_mono hf h
  · exact h
  · simp at h
theorem oneG_pure (h : pureOp o = true) (Q : LV → Box → OHeap → Prop) : oneG P T ops o e B H Q = ob (pvG T ops o e B H) fun x => Q x B H := by
  unfold oneG pvG; rw [oneS_pure h]
  cases gWant ops o e with
  | none => rfl
  | some b => cases b <;> rfl
theorem oneG_mono {Q Q' : LV → Box → OHeap → Prop} (hq : ∀ x B H, Q x B H → Q' x B H) (h : oneG P T ops o e B H Q) : oneG P T ops o e B H Q' := by
  unfold oneG at h ⊢
  split at h
  · exact oneS_mono hq h
  · exact hq _ _ _ h
  · exact h
theorem oneG_add (hf : FF B E F) (hb : isBox o = false) {Q : LV → Box → OHeap → Prop} (h : oneG P T ops o e B H Q) : oneG P T ops o e (addB B E) H (More B E F Q) := by
  unfold oneG at h ⊢
  split at h
  · exact oneS_add hf hb h
  · exact More.here h
  · exact h

/-- One operation of a region, whatever stands for its place in the order. -/
theorem oneG_wp (hT : TOK P T) {i : Nat} (hi : ops[i]? = some o) (hd : opDst N o = true) {Q : LV → Box → OHeap → Prop} (h : oneG P T ops o e B H Q) {n m : Nat} {K : Know} {jj : Nat → Nat} {w : World} {a : Act} (g : Good K jj B H w) (t : TE K jj B N e a.tmps) (d : Dok m (dom H B jj) w a.defers)
    {K' : Act → World → Prop} {Qx : Exit → Act → World → Prop}
    (hK : ∀ a' w' x K1 jj' B' H', Good K1 jj' B' H' w' → TE K1 jj' B' N (updo e o.dst x) a'.tmps → Dok m (dom H' B' jj') w' a'.defers → Fr (dom H B jj) w K (dom H' B' jj') w' K1 → Q x B' H' → K' a' w') :
    wpOpIn (Fw ρ) n P ops Qx i K' a w := by
  unfold wpOpIn
  rw [hi]
  simp only []
  have hdst : ∀ tt, o.dst = some tt → tt < N := fun tt ht => by simpa [opDst, ht] using hd
  have skip : Region.wanted o (yielded ops a.tmps) = false → Q (.tup []) B H → (if Region.wanted o (yielded ops a.tmps) = true then Oper.wpIn (Fw ρ) n P o a w K' Qx else (∀ f, o.about P w a.eval = some f → (Fw ρ).fn f) ∧ K' (a.put o.dst undef) w) := fun hw hq => by
    rw [hw]
    simp only [Bool.false_eq_true, if_false]
    refine ⟨fun _ _ => trivial, ?_⟩
    have hdef : (a.put o.dst undef).defers = a.defers := by cases o.dst <;> rfl
    exact hK _ _ (.tup []) K jj B H g (t.put hdst (R.tup [] [] rfl (fun i x v h => by simp at h)).re) (by rw [hdef]; exact d) (Fr.refl _ _ _) hq
  unfold oneG gWant at h
  cases hg : o.guard with
  | none =>
    simp only [hg] at h
    have hw : Region.wanted o (yielded ops a.tmps) = true := by simp [Region.wanted, hg]
    rw [hw]
    simp only [if_true]
    exact oneS_sound hT h hd n m K jj w a g t d K' Qx hK
  | some gg =>
    obtain ⟨j, want⟩ := gg
    simp only [hg] at h
    cases ht : gsl ops j with
    | none => simp [ht] at h
    | some tt =>
      simp only [ht] at h
      have hgs : (ops[j]?).bind (·.dst) = some tt := ht
      cases hv : e tt <;> simp only [hv] at h
      case bool b =>
        have hgv : gv ops e j = some b := by
          obtain ⟨o', ho', hd'⟩ := Option.bind_eq_some_iff.1 hgs
          simp [gv, ho', hd', hv]
        have hw := wanted_iff t hg hgv
        cases hbw : (b == want) with
        | true =>
          rw [hbw] at h hw
          rw [hw]
          simp only [if_true]
          exact oneS_sound hT h hd n m K jj w a g t d K' Qx hK
        | false =>
          rw [hbw] at h hw
          exact skip hw h
      case tup vs =>
        cases vs with
        | cons y ys => exact h.elim
        | nil =>
          refine skip ?_ h
          have r := t.get tt
          rw [hv] at r
          have r' : R K (.tup []) (a.tmps.getD tt undef) := r
          have hvv : a.tmps.getD tt undef = .tuple #[] := by
            generalize a.tmps.getD tt undef = u at r'
            cases r' with | tup _ vs hl hh =>
              have : vs = [] := by simpa using hl
              subst this; rfl
          have hy : yielded ops a.tmps j = none := by
            unfold yielded
            rw [hgs]
            simp only [Option.bind_some]
            cases hq : a.tmps[tt]? with
            | none => rfl
            | some v => simp [hq] at hvv; subst hvv; rfl
          simp [Region.wanted, hg, hy]
      all_goals exact h.elim

end
end Go.Lv
/- Lv, part Q: a drawn region by one order. Over any program; no condition. -/
namespace Go.Lv
open Go
set_option linter.unusedVariables false
set_option linter.unusedSimpArgs false

section
variable {P : Program} {ρ : Option Nat} {N : Nat} {T : Tab} {ops : Array Oper}

/-! ### What is checked of a region and of the order that is chosen -/
def isDep (D : List Nat) (k i : Nat) : Bool := (D.getD i 0).testBit k
def dstIs (ops : Array Oper) (j : Nat) (t : Tmp) : Bool := match ops[j]? with | some o => decide (o.dst = some t) | none => false
def kL (ops : Array Oper) (i : Nat) : Bool := match ops[i]? with | some o => isAlloc o | none => false
def bindsA (e : Edge) : Bool := Region.binds .any e

def okOp (T : Tab) (N : Nat) (ops : Array Oper) (D : List Nat) (pm : Nat) (i : Nat) : Bool := match ops[i]? with
  | none => false
  | some o =>
    o.after.toList.all (fun ed => !bindsA ed || decide (ed.on < i)) &&
    decide (D.getD i 0 = o.after.toList.foldl (fun m ed => if bindsA ed then m ||| (1 <<< ed.on) ||| D.getD ed.on 0 else m) 0) &&
    (if pm.testBit i then pureOp o else if isAlloc o then o.guard.isNone && o.dst.isSome && (match o.op with | .alloc t => (T t).isSome | _ => false) else !isBox o) &&
    (readsG ops o).all (fun t => (List.range ops.size).all fun j => !dstIs ops j t || isDep D j i || (isDep D i j && !pm.testBit j && !kL ops j)) &&
    (match o.dst with | some t => (List.range ops.size).all fun j => j == i || !dstIs ops j t | none => true)

def relP (ops : Array Oper) (D : List Nat) (pm : Nat) (a b : Nat × List Nat) : Bool :=
  !isDep D b.1 a.1 && !(b.1 == a.1) && (isDep D a.1 b.1 || kL ops b.1 || (pm.testBit a.1 && (pm.testBit b.1 || (match ops[a.1]? with | some o => memless o | none => false) || b.2.contains a.1)))

def pwB {α : Type} (r : α → α → Bool) : List α → Bool
  | [] => true
  | a :: l => l.all (r a) && pwB r l

theorem pwB_append {α : Type} {r : α → α → Bool} : ∀ {l l' : List α}, pwB r (l ++ l') = true → (∀ a ∈ l, ∀ b ∈ l', r a b = true) ∧ pwB r l' = true
  | [], l', h => ⟨fun a ha => (by cases ha), h⟩
  | x :: l, l', h => by
    simp only [List.cons_append, pwB, Bool.and_eq_true, List.all_eq_true] at h
    obtain ⟨h1, h2⟩ := pwB_append h.2
    refine ⟨fun a ha b hb => ?_, h2⟩
    rcases List.mem_cons.1 ha with rfl | ha
    · exact h.1 b (List.mem_append_right _ hb)
    · exact h1 a ha b hb

def drawOk (T : Tab) (N : Nat) (ops : Array Oper) (plan : List (Nat × List Nat)) (D : List Nat) (pm : Nat) : Bool :=
  (List.range ops.size).all (fun i => okOp T N ops D pm i && plan.any (fun a => a.1 == i)) && plan.all (fun a => decide (a.1 < ops.size)) && pwB (relP ops D pm) plan

/-! ### The condition of the order -/
def stab (T : Tab) (ops : Array Oper) (e : Env) (B : Box) (H : OHeap) (e' : Env) (B' : Box) (H' : OHeap) : List Nat → Prop
  | [] => True
  | k :: r => (match ops[k]? with | some o => pvG T ops o e' B' H' = pvG T ops o e B H | none => True) ∧ stab T ops e B H e' B' H' r

theorem stab_mem {e e' : Env} {B B' : Box} {H H' : OHeap} {l : List Nat} : stab T ops e B H e' B' H' l → ∀ k ∈ l, ∀ o, ops[k]? = some o → pvG T ops o e' B' H' = pvG T ops o e B H := by
  induction l with
  | nil => intro h k hk; cases hk
  | cons k r ih =>
    intro h k' hk o ho
    rcases List.mem_cons.1 hk with hh | hk
    · subst hh; have := h.1; rw [ho] at this; exact this
    · exact ih h.2 k' hk o ho

def vcD (P : Program) (T : Tab) (ops : Array Oper) : List (Nat × List Nat) → KPost → Env → Box → OHeap → Prop
  | [], Q, e, B, H => Q e B H
  | a :: r, Q, e, B, H => match ops[a.1]? with
    | none => False
    | some o => oneG P T ops o e B H fun x B' H' => stab T ops e B H (updo e o.dst x) B' H' a.2 ∧ vcD P T ops r Q (updo e o.dst x) B' H'

def aslot (o : Oper) : Option Nat := match o.op with | .alloc _ => o.dst | _ => none
def delBs (B : Box) : List Oper → Box
  | [] => B
  | o :: r => match aslot o with
    | some d => delBs (delB B d) r
    | none => delBs B r

theorem delBs_none : ∀ (l : List Oper) (B : Box) (d : Nat), (B d).2 = none → (delBs B l d).2 = none
  | [], B, d, h => h
  | o :: r, B, d, h => by
    unfold delBs
    cases hs : aslot o with
    | some d' =>
      refine delBs_none r _ d ?_
      by_cases hd : d = d' <;> simp [hd]
      simpa [hd] using h
    | none => exact delBs_none r B d h
theorem delBs_alloc (l : List Oper) : ∀ (B : Box) (o : Oper) (d : Nat), o ∈ l → aslot o = some d → (delBs B l d).2 = none := by
  induction l with
  | nil => intro B o d hm; cases hm
  | cons o' r ih =>
    intro B o d hm hs
    unfold delBs
    rcases List.mem_cons.1 hm with h | hm
    · subst h
      rw [hs]
      exact delBs_none r _ d (by simp)
    · cases hs' : aslot o' with
      | some d' => exact ih _ o d hm hs
      | none => exact ih _ o d hm hs

theorem delBs_good {K : Know} {jj : Nat → Nat} {H : OHeap} {w : World} : ∀ (l : List Oper) (B : Box), Good K jj B H w → Good K jj (delBs B l) H w ∧ (∀ x, dom H (delBs B l) jj x → dom H B jj x) ∧ ∀ e tmps, TE K jj B N e tmps → TE K jj (delBs B l) N e tmps
  | [], B, g => ⟨g, fun _ h => h, fun _ _ t => t⟩
  | o :: r, B, g => by
    unfold delBs
    cases hs : aslot o with
    | some d =>
      obtain ⟨h1, h2, h3⟩ := delBs_good r (delB B d) (g.delB d)
      exact ⟨h1, fun x hx => delB_dom g d x (h2 x hx), fun e tmps t => h3 e tmps ⟨t.size, fun i => (t.get i).delB⟩⟩
    | none => exact delBs_good r B g

/-! ### The proof -/
theorem foldl_testBit (D : List Nat) (k : Nat) : ∀ (l : List Edge) (m : Nat), (l.foldl (fun m ed => if bindsA ed then m ||| (1 <<< ed.on) ||| D.getD ed.on 0 else m) m).testBit k = true →
    m.testBit k = true ∨ ∃ ed ∈ l, bindsA ed = true ∧ (ed.on = k ∨ isDep D k ed.on = true)
  | [], m, h => .inl h
  | ed :: l, m, h => by
    simp only [List.foldl_cons] at h
    rcases foldl_testBit D k l _ h with h | ⟨ed', h1, h2, h3⟩
    · split at h
      · rename_i hb
        simp only [Nat.testBit_or, Bool.or_eq_true] at h
        rcases h with (h | h) | h
        · exact .inl h
        · refine .inr ⟨ed, List.mem_cons_self .., hb, .inl ?_⟩
          rw [Nat.shiftLeft_eq, Nat.one_mul, Nat.testBit_two_pow] at h
          simpa using h
        · exact .inr ⟨ed, List.mem_cons_self .., hb, .inr h⟩
      · exact .inl h
    · exact .inr ⟨ed', List.mem_cons_of_mem _ h1, h2, h3⟩

def lst (listed : Array Bool) (i : Nat) : Bool := listed.getD i false

/-- All that the listed ones hang on is listed. -/
def Down (ops : Array Oper) (listed : Array Bool) : Prop := ∀ i o, ops[i]? = some o → lst listed i = true → ∀ ed ∈ o.after.toList, bindsA ed = true → lst listed ed.on = true

structure Chk (T : Tab) (N : Nat) (ops : Array Oper) (D : List Nat) (pm : Nat) (i : Nat) (o : Oper) : Prop where
  low : ∀ ed ∈ o.after.toList, bindsA ed = true → ed.on < i
  dep : ∀ k, isDep D k i = true → ∃ ed ∈ o.after.toList, bindsA ed = true ∧ (ed.on = k ∨ isDep D k ed.on = true)
  pure : pm.testBit i = true → pureOp o = true
  alloc : pm.testBit i = false → isAlloc o = true → o.guard = none ∧ ∃ d t ti, o.dst = some d ∧ o.op = .alloc t ∧ T t = some ti
  box : pm.testBit i = false → isAlloc o = false → isBox o = false
  reads : ∀ t ∈ readsG ops o, ∀ j o', ops[j]? = some o' → o'.dst = some t → isDep D j i = true ∨ (isDep D i j = true ∧ pm.testBit j = false ∧ kL ops j = false)
  dst : ∀ t, o.dst = some t → ∀ j o', ops[j]? = some o' → o'.dst = some t → j = i

theorem lt_of_some {α : Type} {a : Array α} {i : Nat} {x : α} (h : a[i]? = some x) : i < a.size := (Array.getElem?_eq_some_iff.1 h).1

theorem Chk.of {D : List Nat} {pm i : Nat} {o : Oper} (hi : ops[i]? = some o) (h : okOp T N ops D pm i = true) : Chk T N ops D pm i o := by
  unfold okOp at h
  rw [hi] at h
  simp only [Bool.and_eq_true, List.all_eq_true, decide_eq_true_eq, Bool.or_eq_true, Bool.not_eq_true', List.mem_range] at h
  obtain ⟨⟨⟨⟨h1, h2⟩, h3⟩, h4⟩, h5⟩ := h
  refine ⟨fun ed he hb => ?_, fun k hk => ?_, fun hp => ?_, fun hp ha => ?_, fun hp ha => ?_, fun t ht j o' hj hd => ?_, fun t ht j o' hj hd => ?_⟩
  · rcases h1 ed he with h | h
    · rw [hb] at h; simp at h
    · exact h
  · unfold isDep at hk
    rw [h2] at hk
    rcases foldl_testBit D k _ _ hk with h | h
    · simp at h
    · exact h
  · rw [if_pos hp] at h3; exact h3
  · rw [if_neg (by simp [hp]), if_pos ha] at h3
    simp only [Bool.and_eq_true, Option.isNone_iff_eq_none] at h3
    obtain ⟨d, hd⟩ := Option.isSome_iff_exists.1 h3.1.2
    have h6 := h3.2
    split at h6
    · rename_i t ho
      obtain ⟨ti, hti⟩ := Option.isSome_iff_exists.1 h6
      exact ⟨h3.1.1, d, t, ti, hd, ho, hti⟩
    · simp at h6
  · rw [if_neg (by simp [hp]), if_neg (by simp [ha])] at h3
    simpa using h3
  · have := h4 t ht j (lt_of_some hj)
    simp only [dstIs, hj, hd] at this
    simpa [and_assoc] using this
  · rw [ht] at h5
    simp only [List.all_eq_true, List.mem_range, Bool.or_eq_true, beq_iff_eq, Bool.not_eq_true'] at h5
    rcases h5 j (lt_of_some hj) with h | h
    · exact h
    · simp [dstIs, hj, hd] at h

theorem down_dep {D : List Nat} {pm : Nat} {listed : Array Bool} (hok : ∀ i o, ops[i]? = some o → Chk T N ops D pm i o) (hd : Down ops listed) : ∀ (i : Nat) (o : Oper), ops[i]? = some o → (∀ ed ∈ o.after.toList, bindsA ed = true → lst listed ed.on = true) →
    ∀ k, isDep D k i = true → lst listed k = true := by
  intro i
  induction i using Nat.strongRecOn with
  | ind i ih =>
    intro o hi hr k hk
    obtain ⟨ed, he, hb, h⟩ := (hok i o hi).dep k hk
    have hl := hr ed he hb
    rcases h with rfl | h
    · exact hl
    · have hlt := (hok i o hi).low ed he hb
      have hsz : ed.on < ops.size := Nat.lt_trans hlt (lt_of_some hi)
      have ho' : ops[ed.on]? = some ops[ed.on] := Array.getElem?_eq_getElem hsz
      exact ih ed.on hlt _ ho' (fun ed' he' hb' => hd _ _ ho' hl ed' he' hb') k h

end
end Go.Lv
/- Lv, part R: a drawn region by one order: the proof. Over any program; no condition. -/
namespace Go.Lv
open Go
set_option linter.unusedVariables false
set_option linter.unusedSimpArgs false

section
variable {P : Program} {ρ : Option Nat} {N : Nat} {T : Tab} {ops : Array Oper} {D : List Nat} {pm : Nat}

theorem isDep_lt (hok : ∀ i o, ops[i]? = some o → Chk T N ops D pm i o) : ∀ (i : Nat) (o : Oper), ops[i]? = some o → ∀ k, isDep D k i = true → k < i := by
  intro i
  induction i using Nat.strongRecOn with
  | ind i ih =>
    intro o hi k hk
    obtain ⟨ed, he, hb, h⟩ := (hok i o hi).dep k hk
    have hlt := (hok i o hi).low ed he hb
    rcases h with rfl | h
    · exact hlt
    · have hsz : ed.on < ops.size := Nat.lt_trans hlt (lt_of_some hi)
      exact Nat.lt_trans (ih ed.on hlt _ (Array.getElem?_eq_getElem hsz) k h) hlt

abbrev Plan := List (Nat × List Nat)
def willAlloc (ops : Array Oper) (post : Plan) (d : Nat) : Prop := ∃ a ∈ post, ∃ o, ops[a.1]? = some o ∧ aslot o = some d

/-- How far the walk and the chosen order are. -/
structure St (P : Program) (T : Tab) (ops : Array Oper) (D : List Nat) (pm : Nat) (Q : KPost) (plan : Plan) (listed : Array Bool) (pref post : Plan) (e ep : Env) (Bp : Box) (E : Nat → Option (List LV)) (H : OHeap) : Prop where
  split : plan = pref ++ post
  down : Down ops listed
  size : listed.size = ops.size
  ff : FF Bp E (willAlloc ops post)
  go : vcD P T ops post Q ep Bp H
  pend : ∀ a ∈ pref, lst listed a.1 = false → pm.testBit a.1 = true ∧ ∃ o x, ops[a.1]? = some o ∧ pvG T ops o ep Bp H = some x ∧ ∀ t, o.dst = some t → ep t = x
  early : ∀ a ∈ post, lst listed a.1 = true → ∃ o d t ti, ops[a.1]? = some o ∧ pm.testBit a.1 = false ∧ isAlloc o = true ∧ o.dst = some d ∧ o.op = .alloc t ∧ o.guard = none ∧ T t = some ti ∧ E d = some ti.zero ∧ e d = .bp d ((Bp d).1 + 1) 0
  env : ∀ t, (∀ j o, ops[j]? = some o → o.dst = some t → ((∃ a ∈ pref, a.1 = j) ∧ lst listed j = true) ∨ ((∃ a ∈ post, a.1 = j) ∧ lst listed j = false)) → e t = ep t
  sup : ∀ d, (E d).isSome = true → ∃ a ∈ post, lst listed a.1 = true ∧ ∃ o, ops[a.1]? = some o ∧ o.dst = some d

section
variable {Q : KPost} {plan : Plan} {listed : Array Bool} {pref post : Plan} {e ep : Env} {Bp : Box} {E : Nat → Option (List LV)} {H : OHeap}

theorem relP_ne {a b : Nat × List Nat} (h : relP ops D pm a b = true) : isDep D b.1 a.1 = false ∧ b.1 ≠ a.1 ∧ (isDep D a.1 b.1 = true ∨ kL ops b.1 = true ∨ (pm.testBit a.1 = true ∧ (pm.testBit b.1 = true ∨ (∃ o, ops[a.1]? = some o ∧ memless o = true) ∨ a.1 ∈ b.2))) := by
  unfold relP at h
  simp only [Bool.and_eq_true, Bool.not_eq_true', beq_eq_false_iff_ne, Bool.or_eq_true, ne_eq] at h
  obtain ⟨⟨h1, h2⟩, h3⟩ := h
  refine ⟨h1, h2, ?_⟩
  rcases h3 with (h3 | h3) | ⟨h3, h4⟩
  · exact .inl h3
  · exact .inr (.inl h3)
  · refine .inr (.inr ⟨h3, ?_⟩)
    rcases h4 with (h4 | h4) | h4
    · exact .inl h4
    · refine .inr (.inl ?_)
      split at h4
      · rename_i o ho; exact ⟨o, ho, h4⟩
      · simp at h4
    · exact .inr (.inr (by simpa using h4))

theorem St.pair (s : St P T ops D pm Q plan listed pref post e ep Bp E H) (hpw : pwB (relP ops D pm) plan = true) : (∀ a ∈ pref, ∀ b ∈ post, relP ops D pm a b = true) ∧ pwB (relP ops D pm) post = true := by
  rw [s.split] at hpw; exact pwB_append hpw

/-- What an operation reads is there. -/
theorem St.reads (s : St P T ops D pm Q plan listed pref post e ep Bp E H) (hok : ∀ i o, ops[i]? = some o → Chk T N ops D pm i o) (hpw : pwB (relP ops D pm) plan = true) (hall : ∀ i, i < ops.size → ∃ a ∈ plan, a.1 = i)
    {a : Nat × List Nat} {o : Oper} (hi : ops[a.1]? = some o) (hun : lst listed a.1 = false) (hdep : ∀ k, isDep D k a.1 = true → lst listed k = true)
    (hpos : a ∈ pref ∨ ∃ r, post = a :: r) : ∀ t ∈ readsG ops o, e t = ep t := by
  obtain ⟨hx, hpost⟩ := s.pair hpw
  intro t ht
  refine s.env t fun j o' hj hd => ?_
  have hin : (∃ b ∈ pref, b.1 = j) ∨ ∃ b ∈ post, b.1 = j := by
    obtain ⟨b, hb, hbj⟩ := hall j (lt_of_some hj)
    rw [s.split, List.mem_append] at hb
    exact hb.imp (fun h => ⟨b, h, hbj⟩) (fun h => ⟨b, h, hbj⟩)
  rcases (hok a.1 o hi).reads t ht j o' hj hd with h | ⟨h, hp, hl⟩
  · refine .inl ⟨?_, hdep j h⟩
    rcases hin with h1 | ⟨b, hb, hbj⟩
    · exact h1
    · exfalso
      rcases hpos with hpos | ⟨r, hr⟩
      · have := (relP_ne (hx a hpos b hb)).1
        rw [hbj, h] at this; simp at this
      · rw [hr] at hb
        rcases List.mem_cons.1 hb with rfl | hb
        · have := hdep j h; rw [← hbj, hun] at this; simp at this
        · rw [hr] at hpost
          simp only [pwB, Bool.and_eq_true, List.all_eq_true] at hpost
          have := (relP_ne (hpost.1 b hb)).1
          rw [hbj, h] at this; simp at this
  · have hjun : lst listed j = false := by
      cases hlj : lst listed j with
      | false => rfl
      | true =>
        have := down_dep hok s.down j o' hj (fun ed he hb => s.down j o' hj hlj ed he hb) a.1 h
        rw [hun] at this; simp at this
    refine .inr ⟨?_, hjun⟩
    rcases hin with ⟨b, hb, hbj⟩ | h1
    · exfalso
      have := (s.pend b hb (by rw [hbj]; exact hjun)).1
      rw [hbj, hp] at this; simp at this
    · exact h1

theorem St.advPure {k : Nat × List Nat} {post' : Plan} (s : St P T ops D pm Q plan listed pref (k :: post') e ep Bp E H) (hok : ∀ i o, ops[i]? = some o → Chk T N ops D pm i o) (hpw : pwB (relP ops D pm) plan = true)
    (hk : pm.testBit k.1 = true) (hun : lst listed k.1 = false) : ∃ ep', St P T ops D pm Q plan listed (pref ++ [k]) post' e ep' Bp E H := by
  obtain ⟨hx, hpost⟩ := s.pair hpw
  simp only [pwB, Bool.and_eq_true, List.all_eq_true] at hpost
  have hgo := s.go
  unfold vcD at hgo
  cases ho : ops[k.1]? with
  | none => rw [ho] at hgo; exact hgo.elim
  | some o =>
    rw [ho] at hgo
    simp only [] at hgo
    have hc := hok k.1 o ho
    rw [oneG_pure (hc.pure hk)] at hgo
    obtain ⟨x, hpv, _, hgo⟩ := ob_elim hgo
    have hself : ∀ t, o.dst = some t → t ∉ readsG ops o := fun t ht hr => by
      have := (hc.reads t hr k.1 o ho ht).elim id (fun h => h.1)
      exact Nat.lt_irrefl _ (isDep_lt hok k.1 o ho k.1 this)
    have hupd : ∀ t, o.dst ≠ some t → updo ep o.dst x t = ep t := fun t ht => by
      cases hd : o.dst with
      | none => rfl
      | some d => simp only [updo, upd]; rw [if_neg (fun h => ht (by rw [hd, h]))]
    have hupd' : ∀ t, o.dst = some t → updo ep o.dst x t = x := fun t ht => by rw [ht]; simp [updo, upd]
    have keep : ∀ o', (∀ t, o.dst = some t → t ∉ readsG ops o') → pvG T ops o' (updo ep o.dst x) Bp H = pvG T ops o' ep Bp H := fun o' h => by
      refine pvG_congr fun t ht => hupd t fun hd => h t hd ht
    refine ⟨updo ep o.dst x, ⟨by rw [s.split]; simp, s.down, s.size, ⟨fun d hd => ?_, fun d ⟨a, ha, h⟩ => s.ff.free d ⟨a, List.mem_cons_of_mem _ ha, h⟩⟩, hgo, fun a ha hl => ?_, fun a ha hl => s.early a (List.mem_cons_of_mem _ ha) hl, fun t ht => ?_, fun d hd => ?_⟩⟩
    · obtain ⟨a, ha, hl, _⟩ := s.sup d hd
      rcases List.mem_cons.1 ha with rfl | ha'
      · rw [hun] at hl; simp at hl
      · obtain ⟨o', d', t', ti', h1, h2, h3, h4, h5, _⟩ := s.early a ha hl
        obtain ⟨a2, ha2, hl2, o2, ho2, hd2⟩ := s.sup d hd
        rcases List.mem_cons.1 ha2 with rfl | ha2'
        · rw [hun] at hl2; simp at hl2
        · obtain ⟨o', d', t', ti', h1, h2, h3, h4, h5, _⟩ := s.early a2 ha2 hl2
          rw [ho2] at h1; simp at h1; subst h1
          refine ⟨a2, ha2', o2, ho2, ?_⟩
          simp [aslot, h5, hd2]
    · rcases List.mem_append.1 ha with ha | ha
      · obtain ⟨h1, o', y, h2, h3, h4⟩ := s.pend a ha hl
        have hrel := relP_ne (hx a ha k (List.mem_cons_self ..))
        refine ⟨h1, o', y, h2, ?_, fun t ht => ?_⟩
        · rw [keep o' (fun t hd hr => ?_)]
          · exact h3
          · rcases (hok a.1 o' h2).reads t hr k.1 o ho hd with h | ⟨_, h, _⟩
            · rw [hrel.1] at h; simp at h
            · rw [hk] at h; simp at h
        · rw [hupd t (fun hd => hrel.2.1 (((hok a.1 o' h2).dst t ht k.1 o ho hd)))]
          exact h4 t ht
      · simp at ha; subst ha
        exact ⟨hk, o, x, ho, by rw [keep o hself]; exact hpv, hupd'⟩
    · by_cases hd : o.dst = some t
      · exfalso
        rcases ht k.1 o ho hd with ⟨_, h⟩ | ⟨⟨a, ha, hak⟩, _⟩
        · rw [hun] at h; simp at h
        · exact (relP_ne (hpost.1 a ha)).2.1 hak
      · rw [hupd t hd]
        refine s.env t fun j o' hj hd' => ?_
        rcases ht j o' hj hd' with ⟨⟨a, ha, haj⟩, h⟩ | ⟨⟨a, ha, haj⟩, h⟩
        · rcases List.mem_append.1 ha with ha | ha
          · exact .inl ⟨⟨a, ha, haj⟩, h⟩
          · simp at ha; subst ha
            rw [haj] at hun; rw [hun] at h; simp at h
        · exact .inr ⟨⟨a, List.mem_cons_of_mem _ ha, haj⟩, h⟩
    · obtain ⟨a, ha, hl, h⟩ := s.sup d hd
      rcases List.mem_cons.1 ha with rfl | ha
      · rw [hun] at hl; simp at hl
      · exact ⟨a, ha, hl, h⟩

theorem oneG_alloc {o : Oper} {t : TypeId} {d : Nat} {ti : TI} {B : Box} (hg : o.guard = none) (ho : o.op = .alloc t) (hd : o.dst = some d) (hti : T t = some ti) (Q : LV → Box → OHeap → Prop) :
    oneG P T ops o e B H Q = Q (.bp d ((B d).1 + 1) 0) (newB B d ti.zero) H := by
  unfold oneG gWant
  simp only [hg]
  unfold oneS
  simp only [ho]
  unfold opS
  simp only [ho, hd, hti]

theorem newB_add {B : Box} {d : Nat} {z : List LV} : newB B d z = addB B (fun x => if x = d then some z else none) := by
  funext i
  by_cases hi : i = d
  · subst hi; simp [addB]
  · simp [addB, hi]

theorem St.advLate {k : Nat × List Nat} {post' : Plan} (s : St P T ops D pm Q plan listed pref (k :: post') e ep Bp E H) (hok : ∀ i o, ops[i]? = some o → Chk T N ops D pm i o) (hpw : pwB (relP ops D pm) plan = true)
    (hl : lst listed k.1 = true) : ∃ ep' Bp' E', addB Bp' E' = addB Bp E ∧ St P T ops D pm Q plan listed (pref ++ [k]) post' e ep' Bp' E' H := by
  obtain ⟨hx, hpost⟩ := s.pair hpw
  simp only [pwB, Bool.and_eq_true, List.all_eq_true] at hpost
  obtain ⟨o, d, t, ti, ho, hpm, hal, hd, hop, hg, hti, hE, he⟩ := s.early k (List.mem_cons_self ..) hl
  have hkL : kL ops k.1 = true := by simp [kL, ho, hal]
  have hgo := s.go
  unfold vcD at hgo
  rw [ho] at hgo
  simp only [] at hgo
  rw [oneG_alloc hg hop hd hti] at hgo
  obtain ⟨_, hgo⟩ := hgo
  rw [hd] at hgo
  simp only [updo] at hgo
  have hfree : (Bp d).2 = none := s.ff.free d ⟨k, List.mem_cons_self .., o, ho, by simp [aslot, hop, hd]⟩
  have hdk : ∀ a ∈ post', ∀ o' d', ops[a.1]? = some o' → o'.dst = some d' → d' ≠ d := fun a ha o' d' h1 h2 h3 => by
    subst h3
    exact (relP_ne (hpost.1 a ha)).2.1 ((hok k.1 o ho).dst d' hd a.1 o' h1 h2)
  refine ⟨upd ep d (.bp d ((Bp d).1 + 1) 0), newB Bp d ti.zero, fun x => if x = d then none else E x, ?_, ⟨by rw [s.split]; simp, s.down, s.size, ⟨fun d' hd' => ?_, fun d' ⟨a, ha, o', h1, h2⟩ => ?_⟩, hgo, fun a ha hl' => ?_, fun a ha hl' => ?_, fun t' ht => ?_, fun d' hd' => ?_⟩⟩
  · funext i
    by_cases hi : i = d
    · subst hi; simp [addB, hE]
    · simp [addB, hi]
  · by_cases hdd : d' = d
    · simp [hdd] at hd'
    · simp only [hdd, if_false] at hd'
      obtain ⟨a, ha, o', h1, h2⟩ := s.ff.sub d' hd'
      rcases List.mem_cons.1 ha with rfl | ha
      · rw [ho] at h1; simp at h1; subst h1
        simp [aslot, hop, hd] at h2
        exact absurd h2.symm hdd
      · exact ⟨a, ha, o', h1, h2⟩
  · have hne : d' ≠ d := by
      refine hdk a ha o' d' h1 ?_
      unfold aslot at h2
      split at h2
      · exact h2
      · simp at h2
    simp only [newB_apply, hne, if_false]
    exact s.ff.free d' ⟨a, List.mem_cons_of_mem _ ha, o', h1, h2⟩
  · rcases List.mem_append.1 ha with ha | ha
    · obtain ⟨h1, o', y, h2, h3, h4⟩ := s.pend a ha hl'
      have hrel := relP_ne (hx a ha k (List.mem_cons_self ..))
      refine ⟨h1, o', y, h2, ?_, fun t' ht => ?_⟩
      · rw [newB_add]
        refine pvG_add (fun d' hd' => ?_) ?_
        · by_cases hdd : d' = d
          · rw [hdd]; exact hfree
          · simp [hdd] at hd'
        · rw [← h3]
          refine pvG_congr fun t' ht => ?_
          simp only [upd]
          rw [if_neg]
          intro h; subst h
          rcases (hok a.1 o' h2).reads _ ht k.1 o ho hd with h | ⟨_, _, h⟩
          · rw [hrel.1] at h; simp at h
          · rw [hkL] at h; simp at h
      · simp only [upd]
        rw [if_neg]
        · exact h4 t' ht
        · intro h; subst h
          exact hrel.2.1 ((hok a.1 o' h2).dst _ ht k.1 o ho hd)
    · simp at ha; subst ha
      rw [hl] at hl'; simp at hl'
  · obtain ⟨o', d', t', ti', h1, h2, h3, h4, h5, h6, h7, h8, h9⟩ := s.early a (List.mem_cons_of_mem _ ha) hl'
    have hne := hdk a ha o' d' h1 h4
    exact ⟨o', d', t', ti', h1, h2, h3, h4, h5, h6, h7, by simp [hne, h8], by simp [hne, h9]⟩
  · by_cases hdd : t' = d
    · subst hdd; simp only [upd, if_true]; exact he
    · simp only [upd]; rw [if_neg hdd]
      refine s.env t' fun j o' hj hd' => ?_
      rcases ht j o' hj hd' with ⟨⟨a, ha, haj⟩, h⟩ | ⟨⟨a, ha, haj⟩, h⟩
      · rcases List.mem_append.1 ha with ha | ha
        · exact .inl ⟨⟨a, ha, haj⟩, h⟩
        · simp at ha; subst ha
          rw [← haj, ho] at hj; simp at hj; subst hj
          rw [hd] at hd'; simp at hd'; exact absurd hd'.symm hdd
      · exact .inr ⟨⟨a, List.mem_cons_of_mem _ ha, haj⟩, h⟩
  · by_cases hdd : d' = d
    · simp [hdd] at hd'
    · simp only [hdd, if_false] at hd'
      obtain ⟨a, ha, hla, o', h1, h2⟩ := s.sup d' hd'
      rcases List.mem_cons.1 ha with rfl | ha
      · rw [ho] at h1; simp at h1; subst h1
        rw [hd] at h2; simp at h2; exact absurd h2.symm hdd
      · exact ⟨a, ha, hla, o', h1, h2⟩

end
end
end Go.Lv
/- Lv, part S: a drawn region by one order: the theorem. Over any program; no condition. -/
namespace Go.Lv
open Go
set_option linter.unusedVariables false
set_option linter.unusedSimpArgs false

section
variable {P : Program} {ρ : Option Nat} {N : Nat} {T : Tab} {ops : Array Oper} {D : List Nat} {pm : Nat}
variable {Q : KPost} {plan : Plan} {listed : Array Bool} {pref post : Plan} {e ep : Env} {Bp : Box} {E : Nat → Option (List LV)} {H : OHeap}

theorem lst_set {i j : Nat} (hi : i < listed.size) : lst (listed.setIfInBounds i true) j = if j = i then true else lst listed j := by
  unfold lst
  simp only [Array.getD_eq_getD_getElem?, Array.getElem?_setIfInBounds]
  by_cases h : i = j
  · subst h; simp [hi]
  · rw [if_neg h, if_neg (fun x => h x.symm)]

theorem Down.set (hd : Down ops listed) {i : Nat} {o : Oper} (hi : ops[i]? = some o) (hs : i < listed.size) (hr : ∀ ed ∈ o.after.toList, bindsA ed = true → lst listed ed.on = true) : Down ops (listed.setIfInBounds i true) := by
  intro j o' hj hl ed he hb
  rw [lst_set hs] at hl ⊢
  split
  · rfl
  · split at hl
    · rename_i h; subst h
      rw [hi] at hj; simp at hj; subst hj
      exact hr ed he hb
    · exact hd j o' hj hl ed he hb

/-- The world's side. -/
structure Wd (N m : Nat) (D0 : Nat → Prop) (w0 : World) (K0 : Know) (e : Env) (B : Box) (H : OHeap) (K : Know) (jj : Nat → Nat) (a : Act) (w : World) : Prop where
  g : Good K jj B H w
  t : TE K jj B N e a.tmps
  d : Dok m (dom H B jj) w a.defers
  f : Fr D0 w0 K0 (dom H B jj) w K

section
variable {m n : Nat} {D0 : Nat → Prop} {w0 w : World} {K0 K : Know} {jj : Nat → Nat} {a : Act} {Qx : Exit → Act → World → Prop} {K' : Act → World → Prop}

theorem updo_other {o : Oper} {x : LV} {t : Nat} (ht : o.dst ≠ some t) : updo e o.dst x t = e t := by
  cases hd : o.dst with
  | none => rfl
  | some d => simp only [updo, upd]; rw [if_neg (fun h => ht (by rw [hd, h]))]
theorem updo_here {o : Oper} {x : LV} {t : Nat} (ht : o.dst = some t) : updo e o.dst x t = x := by rw [ht]; simp [updo, upd]

theorem St.execPend (hT : TOK P T) (s : St P T ops D pm Q plan listed pref post e ep Bp E H) (hok : ∀ i o, ops[i]? = some o → Chk T N ops D pm i o) (hpw : pwB (relP ops D pm) plan = true) (hall : ∀ i, i < ops.size → ∃ a ∈ plan, a.1 = i)
    {k : Nat × List Nat} (hk : k ∈ pref) {o : Oper} (ho : ops[k.1]? = some o) (hdN : opDst N o = true) (hun : lst listed k.1 = false) (hr : ∀ ed ∈ o.after.toList, bindsA ed = true → lst listed ed.on = true)
    (W : Wd N m D0 w0 K0 e (addB Bp E) H K jj a w)
    (hK : ∀ a' w' e' K1 jj', St P T ops D pm Q plan (listed.setIfInBounds k.1 true) pref post e' ep Bp E H → Wd N m D0 w0 K0 e' (addB Bp E) H K1 jj' a' w' → K' a' w') :
    wpOpIn (Fw ρ) n P ops Qx k.1 K' a w := by
  obtain ⟨hx, hpost⟩ := s.pair hpw
  have hdep := down_dep hok s.down k.1 o ho hr
  have hrd := s.reads hok hpw hall ho hun hdep (.inl hk)
  obtain ⟨hp, o', x, ho', hpv, hdst⟩ := s.pend k hk hun
  rw [ho] at ho'; simp at ho'; subst ho'
  have hpv' : pvG T ops o e (addB Bp E) H = some x := pvG_add s.ff.free' (by rw [pvG_congr hrd]; exact hpv)
  have hone : oneG P T ops o e (addB Bp E) H (fun y B'' H'' => y = x ∧ B'' = addB Bp E ∧ H'' = H) := by
    rw [oneG_pure ((hok k.1 o ho).pure hp), hpv']; exact ⟨rfl, rfl, rfl⟩
  have hs : k.1 < listed.size := by rw [s.size]; exact lt_of_some ho
  refine oneG_wp hT ho hdN hone W.g W.t W.d ?_
  rintro a' w' y K1 jj' B'' H'' g' tw dk f' ⟨rfl, rfl, rfl⟩
  refine hK a' w' _ K1 jj' ⟨s.split, s.down.set ho hs hr, by simp [s.size], s.ff, s.go, fun b hb hl => ?_, fun b hb hl => ?_, fun t ht => ?_, fun d hd => ?_⟩ ⟨g', tw, dk, W.f.trans f'⟩
  · rw [lst_set hs] at hl
    split at hl
    · simp at hl
    · exact s.pend b hb hl
  · rw [lst_set hs] at hl
    have hne : b.1 ≠ k.1 := (relP_ne (hx k hk b hb)).2.1
    rw [if_neg hne] at hl
    obtain ⟨o', d, t, ti, h1, h2, h3, h4, h5, h6, h7, h8, h9⟩ := s.early b hb hl
    refine ⟨o', d, t, ti, h1, h2, h3, h4, h5, h6, h7, h8, ?_⟩
    rw [updo_other (fun hd => hne ((hok k.1 o ho).dst d hd b.1 o' h1 h4))]
    exact h9
  · by_cases hd : o.dst = some t
    · rw [updo_here hd, hdst t hd]
    · rw [updo_other hd]
      refine s.env t fun j o' hj hd' => ?_
      have hjk : j ≠ k.1 := fun h => by subst h; rw [ho] at hj; simp at hj; subst hj; exact hd hd'
      rcases ht j o' hj hd' with ⟨h1, h2⟩ | ⟨h1, h2⟩
      · rw [lst_set hs, if_neg hjk] at h2; exact .inl ⟨h1, h2⟩
      · rw [lst_set hs, if_neg hjk] at h2; exact .inr ⟨h1, h2⟩
  · obtain ⟨b, hb, hl, h⟩ := s.sup d hd
    refine ⟨b, hb, ?_, h⟩
    rw [lst_set hs]; split
    · rfl
    · exact hl

theorem St.execAlloc (hT : TOK P T) (s : St P T ops D pm Q plan listed pref post e ep Bp E H) (hok : ∀ i o, ops[i]? = some o → Chk T N ops D pm i o) (hpw : pwB (relP ops D pm) plan = true)
    {k : Nat × List Nat} (hk : k ∈ post) {o : Oper} (ho : ops[k.1]? = some o) (hal : isAlloc o = true) (hpm : pm.testBit k.1 = false) (hdN : opDst N o = true) (hun : lst listed k.1 = false) (hr : ∀ ed ∈ o.after.toList, bindsA ed = true → lst listed ed.on = true)
    (W : Wd N m D0 w0 K0 e (addB Bp E) H K jj a w)
    (hK : ∀ a' w' e' E' K1 jj', St P T ops D pm Q plan (listed.setIfInBounds k.1 true) pref post e' ep Bp E' H → Wd N m D0 w0 K0 e' (addB Bp E') H K1 jj' a' w' → K' a' w') :
    wpOpIn (Fw ρ) n P ops Qx k.1 K' a w := by
  obtain ⟨hx, hpost⟩ := s.pair hpw
  obtain ⟨hg, d, t, ti, hd, hop, hti⟩ := (hok k.1 o ho).alloc hpm hal
  have hs : k.1 < listed.size := by rw [s.size]; exact lt_of_some ho
  have hEd : E d = none := by
    cases hE : E d with
    | none => rfl
    | some z =>
      obtain ⟨b, hb, hl, o', h1, h2⟩ := s.sup d (by rw [hE]; rfl)
      have := (hok k.1 o ho).dst d hd b.1 o' h1 h2
      rw [this, hun] at hl; simp at hl
  have hBd : addB Bp E d = Bp d := addB_none hEd
  have hnew : newB (addB Bp E) d ti.zero = addB Bp (fun x => if x = d then some ti.zero else E x) := by
    funext i
    by_cases hi : i = d
    · subst hi; simp [addB, hEd]
    · simp [addB, hi]
  have hone : oneG P T ops o e (addB Bp E) H (fun y B'' H'' => y = .bp d ((Bp d).1 + 1) 0 ∧ B'' = addB Bp (fun x => if x = d then some ti.zero else E x) ∧ H'' = H) := by
    rw [oneG_alloc hg hop hd hti, hBd, hnew]; exact ⟨rfl, rfl, rfl⟩
  refine oneG_wp hT ho hdN hone W.g W.t W.d ?_
  rintro a' w' y K1 jj' B'' H'' g' tw dk f' ⟨rfl, rfl, rfl⟩
  have hwa : willAlloc ops post d := ⟨k, hk, o, ho, by simp [aslot, hop, hd]⟩
  have hkp : ∀ b ∈ pref, b.1 ≠ k.1 := fun b hb h => (relP_ne (hx b hb k hk)).2.1 h.symm
  refine hK a' w' _ (fun x => if x = d then some ti.zero else E x) K1 jj' ⟨s.split, s.down.set ho hs hr, by simp [s.size], ⟨fun d' hd' => ?_, s.ff.free⟩, s.go, fun b hb hl => ?_, fun b hb hl => ?_, fun t' ht => ?_, fun d' hd' => ?_⟩ ⟨g', tw, dk, W.f.trans f'⟩
  · by_cases hdd : d' = d
    · rw [hdd]; exact hwa
    · simp only [hdd, if_false] at hd'; exact s.ff.sub d' hd'
  · rw [lst_set hs] at hl
    split at hl
    · simp at hl
    · exact s.pend b hb hl
  · by_cases hbk : b.1 = k.1
    · refine ⟨o, d, t, ti, by rw [hbk]; exact ho, by rw [hbk]; exact hpm, hal, hd, hop, hg, hti, by simp, ?_⟩
      rw [updo_here hd]
    · rw [lst_set hs, if_neg hbk] at hl
      obtain ⟨o', d', t', ti', h1, h2, h3, h4, h5, h6, h7, h8, h9⟩ := s.early b hb hl
      have hne : d' ≠ d := fun h => by subst h; exact hbk ((hok k.1 o ho).dst d' hd b.1 o' h1 h4)
      refine ⟨o', d', t', ti', h1, h2, h3, h4, h5, h6, h7, by simp [hne, h8], ?_⟩
      rw [updo_other (fun h => hne (by rw [hd] at h; simpa using h.symm))]
      exact h9
  · by_cases hdt : o.dst = some t'
    · exfalso
      rcases ht k.1 o ho hdt with ⟨⟨b, hb, hbk⟩, _⟩ | ⟨_, h⟩
      · exact hkp b hb hbk
      · rw [lst_set hs, if_pos rfl] at h; simp at h
    · rw [updo_other hdt]
      refine s.env t' fun j o' hj hd' => ?_
      have hjk : j ≠ k.1 := fun h => by subst h; rw [ho] at hj; simp at hj; subst hj; exact hdt hd'
      rcases ht j o' hj hd' with ⟨h1, h2⟩ | ⟨h1, h2⟩
      · rw [lst_set hs, if_neg hjk] at h2; exact .inl ⟨h1, h2⟩
      · rw [lst_set hs, if_neg hjk] at h2; exact .inr ⟨h1, h2⟩
  · by_cases hdd : d' = d
    · refine ⟨k, hk, ?_, o, ho, by rw [hdd]; exact hd⟩
      rw [lst_set hs, if_pos rfl]
    · simp only [hdd, if_false] at hd'
      obtain ⟨b, hb, hl, h⟩ := s.sup d' hd'
      refine ⟨b, hb, ?_, h⟩
      rw [lst_set hs]; split
      · rfl
      · exact hl

theorem St.execAnchor (hT : TOK P T) {k : Nat × List Nat} {post' : Plan} (s : St P T ops D pm Q plan listed pref (k :: post') e ep Bp E H) (hok : ∀ i o, ops[i]? = some o → Chk T N ops D pm i o) (hpw : pwB (relP ops D pm) plan = true) (hall : ∀ i, i < ops.size → ∃ a ∈ plan, a.1 = i)
    {o : Oper} (ho : ops[k.1]? = some o) (hal : isAlloc o = false) (hpm : pm.testBit k.1 = false) (hdN : opDst N o = true) (hun : lst listed k.1 = false) (hr : ∀ ed ∈ o.after.toList, bindsA ed = true → lst listed ed.on = true)
    (W : Wd N m D0 w0 K0 e (addB Bp E) H K jj a w)
    (hK : ∀ a' w' e' ep' Bp' H' K1 jj', St P T ops D pm Q plan (listed.setIfInBounds k.1 true) (pref ++ [k]) post' e' ep' Bp' E H' → Wd N m D0 w0 K0 e' (addB Bp' E) H' K1 jj' a' w' → K' a' w') :
    wpOpIn (Fw ρ) n P ops Qx k.1 K' a w := by
  obtain ⟨hx, hpost⟩ := s.pair hpw
  simp only [pwB, Bool.and_eq_true, List.all_eq_true] at hpost
  have hdep := down_dep hok s.down k.1 o ho hr
  have hrd := s.reads hok hpw hall ho hun hdep (.inr ⟨post', rfl⟩)
  have hs : k.1 < listed.size := by rw [s.size]; exact lt_of_some ho
  have hkL : kL ops k.1 = false := by simp [kL, ho, hal]
  have hgo := s.go
  unfold vcD at hgo
  rw [ho] at hgo
  simp only [] at hgo
  rw [← oneG_congr hrd] at hgo
  have hgo := oneG_add s.ff ((hok k.1 o ho).box hpm hal) hgo
  refine oneG_wp hT ho hdN hgo W.g W.t W.d ?_
  rintro a' w' x K1 jj' B'' H'' g' tw dk f' ⟨B0, rfl, hB0, hst, hgo'⟩
  have hun' : ∀ b ∈ post', lst (listed.setIfInBounds k.1 true) b.1 = lst listed b.1 := fun b hb => by
    rw [lst_set hs, if_neg (relP_ne (hpost.1 b hb)).2.1]
  refine hK a' w' _ (updo ep o.dst x) B0 H'' K1 jj' ⟨by rw [s.split]; simp, s.down.set ho hs hr, by simp [s.size], ⟨fun d hd => ?_, fun d ⟨b, hb, h⟩ => ?_⟩, hgo', fun b hb hl => ?_, fun b hb hl => ?_, fun t ht => ?_, fun d hd => ?_⟩ ⟨g', tw, dk, W.f.trans f'⟩
  · obtain ⟨b, hb, hl, o', h1, h2⟩ := s.sup d hd
    rcases List.mem_cons.1 hb with rfl | hb'
    · rw [hun] at hl; simp at hl
    · obtain ⟨o2, d2, t2, ti2, h3, h4, h5, h6, h7, _⟩ := s.early b hb hl
      rw [h1] at h3; simp at h3; subst h3
      rw [h2] at h6; simp at h6; subst h6
      exact ⟨b, hb', o', h1, by simp [aslot, h7, h2]⟩
  · have hw : willAlloc ops (k :: post') d := ⟨b, List.mem_cons_of_mem _ hb, h⟩
    rw [hB0 d hw]; exact s.ff.free d hw
  · rcases List.mem_append.1 hb with hb | hb
    · rw [lst_set hs] at hl
      split at hl
      · simp at hl
      · obtain ⟨h1, o', y, h2, h3, h4⟩ := s.pend b hb hl
        have hrel := relP_ne (hx b hb k (List.mem_cons_self ..))
        have hnd : isDep D b.1 k.1 = false := by
          cases hh : isDep D b.1 k.1 with
          | false => rfl
          | true => rw [hdep b.1 hh] at hl; simp at hl
        refine ⟨h1, o', y, h2, ?_, fun t ht => ?_⟩
        · rcases hrel.2.2 with h | h | ⟨_, h | ⟨o2, ho2, hm⟩ | h⟩
          · rw [hnd] at h; simp at h
          · rw [hkL] at h; simp at h
          · rw [hpm] at h; simp at h
          · rw [h2] at ho2; simp at ho2; subst ho2
            rw [pvG_memless (B' := Bp) (H' := H) hm, ← h3]
            refine pvG_congr fun t ht => updo_other fun hd => ?_
            rcases (hok b.1 o' h2).reads t ht k.1 o ho hd with h | ⟨h, _, _⟩
            · rw [hrel.1] at h; simp at h
            · rw [hnd] at h; simp at h
          · have hst' := stab_mem hst b.1 h o' h2
            rw [hst', ← h3]
        · rw [updo_other fun hd => hrel.2.1 ((hok b.1 o' h2).dst t ht k.1 o ho hd)]
          exact h4 t ht
    · simp at hb; subst hb
      rw [lst_set hs, if_pos rfl] at hl; simp at hl
  · rw [hun' b hb] at hl
    obtain ⟨o', d', t', ti', h1, h2, h3, h4, h5, h6, h7, h8, h9⟩ := s.early b (List.mem_cons_of_mem _ hb) hl
    have hw : willAlloc ops (k :: post') d' := ⟨b, List.mem_cons_of_mem _ hb, o', h1, by simp [aslot, h5, h4]⟩
    refine ⟨o', d', t', ti', h1, h2, h3, h4, h5, h6, h7, h8, ?_⟩
    rw [hB0 d' hw, updo_other fun hd => (relP_ne (hpost.1 b hb)).2.1 ((hok k.1 o ho).dst d' hd b.1 o' h1 h4)]
    exact h9
  · by_cases hd : o.dst = some t
    · rw [updo_here hd, updo_here hd]
    · rw [updo_other hd, updo_other hd]
      refine s.env t fun j o' hj hd' => ?_
      have hjk : j ≠ k.1 := fun h => by subst h; rw [ho] at hj; simp at hj; subst hj; exact hd hd'
      rcases ht j o' hj hd' with ⟨⟨b, hb, hbj⟩, h2⟩ | ⟨⟨b, hb, hbj⟩, h2⟩
      · rw [lst_set hs, if_neg hjk] at h2
        rcases List.mem_append.1 hb with hb | hb
        · exact .inl ⟨⟨b, hb, hbj⟩, h2⟩
        · simp at hb; subst hb; exact absurd hbj.symm hjk
      · rw [lst_set hs, if_neg hjk] at h2
        exact .inr ⟨⟨b, List.mem_cons_of_mem _ hb, hbj⟩, h2⟩
  · obtain ⟨b, hb, hl, h⟩ := s.sup d hd
    rcases List.mem_cons.1 hb with rfl | hb
    · rw [hun] at hl; simp at hl
    · exact ⟨b, hb, by rw [hun' b hb]; exact hl, h⟩

end
end
end Go.Lv
/- Lv, part U: WP.draw: a drawn region by one order. Over any program; no condition. -/
namespace Go.Lv
open Go
set_option linter.unusedVariables false
set_option linter.unusedSimpArgs false

section
variable {P : Program} {ρ : Option Nat} {N : Nat} {T : Tab} {ops : Array Oper} {D : List Nat} {pm : Nat}
variable {Q : KPost} {plan : Plan}

def cntU (listed : Array Bool) : Nat → Nat
  | 0 => 0
  | k + 1 => cntU listed k + (if lst listed k = true then 0 else 1)

theorem cntU_set {listed : Array Bool} {i : Nat} (hs : i < listed.size) (hu : lst listed i = false) : ∀ n, i < n → cntU (listed.setIfInBounds i true) n + 1 = cntU listed n := by
  have same : ∀ n, n ≤ i → cntU (listed.setIfInBounds i true) n = cntU listed n := by
    intro n
    induction n with
    | zero => intro _; rfl
    | succ n ih => intro h; simp only [cntU]; rw [ih (by omega), lst_set hs, if_neg (by omega : n ≠ i)]
  intro n
  induction n with
  | zero => intro h; omega
  | succ n ih =>
    intro h
    simp only [cntU]
    by_cases hn : n = i
    · subst hn
      rw [same n (Nat.le_refl _), lst_set hs, if_pos rfl, hu]; simp
    · have := ih (by omega)
      rw [lst_set hs, if_neg hn]
      omega

theorem mem_ready {listed : Array Bool} (hs : listed.size = ops.size) {i : Nat} (h : i ∈ Region.ready .any ops listed) : ∃ o, ops[i]? = some o ∧ lst listed i = false ∧ ∀ ed ∈ o.after.toList, bindsA ed = true → lst listed ed.on = true := by
  simp only [Region.ready, List.mem_filter, List.mem_range, Bool.and_eq_true, Bool.not_eq_true'] at h
  obtain ⟨hi, hl, hr⟩ := h
  refine ⟨ops[i], Array.getElem?_eq_getElem hi, ?_, fun ed he hb => ?_⟩
  · unfold lst
    have hi' : i < listed.size := by omega
    simp only [Array.getD_eq_getD_getElem?, Array.getElem?_eq_getElem hi', Option.getD_some] at hl ⊢
    exact hl
  · simp only [Array.getElem?_eq_getElem hi, Option.map_some, Option.getD_some] at hr
    rw [Array.all_eq_true'] at hr
    have := hr ed (by simpa using he)
    unfold bindsA at hb
    simp only [hb, Bool.not_true, Bool.false_or] at this
    exact this

theorem none_ready {listed : Array Bool} (hok : ∀ i o, ops[i]? = some o → Chk T N ops D pm i o) (hs : listed.size = ops.size) (h : Region.ready .any ops listed = []) : ∀ i, i < ops.size → lst listed i = true := by
  intro i
  induction i using Nat.strongRecOn with
  | ind i ih =>
    intro hi
    cases hl : lst listed i with
    | true => rfl
    | false =>
      exfalso
      have hm : i ∈ Region.ready .any ops listed := by
        simp only [Region.ready, List.mem_filter, List.mem_range, Bool.and_eq_true, Bool.not_eq_true']
        refine ⟨hi, ?_, ?_⟩
        · have hi' : i < listed.size := by omega
          unfold lst at hl
          simp only [Array.getD_eq_getD_getElem?, Array.getElem?_eq_getElem hi', Option.getD_some] at hl ⊢
          exact hl
        · simp only [Array.getElem?_eq_getElem hi, Option.map_some, Option.getD_some]
          rw [Array.all_eq_true']
          intro ed he
          cases hb : Region.binds .any ed with
          | false => rfl
          | true =>
            have hlt := (hok i _ (Array.getElem?_eq_getElem hi)).low ed (by simpa using he) hb
            have := ih ed.on hlt (by omega)
            unfold lst at this
            simpa using this
      rw [h] at hm; simp at hm

section
variable {listed : Array Bool} {pref post : Plan} {e ep : Env} {Bp : Box} {E : Nat → Option (List LV)} {H : OHeap}

theorem St.finish (hok : ∀ i o, ops[i]? = some o → Chk T N ops D pm i o) (hpw : pwB (relP ops D pm) plan = true) (hall : ∀ i, i < ops.size → ∃ a ∈ plan, a.1 = i) (hin : ∀ a ∈ plan, a.1 < ops.size)
    (hl : ∀ i, i < ops.size → lst listed i = true) : ∀ (post pref : Plan) (ep : Env) (Bp : Box) (E : Nat → Option (List LV)), St P T ops D pm Q plan listed pref post e ep Bp E H → Q e (addB Bp E) H
  | [], pref, ep, Bp, E, s => by
    have hE : addB Bp E = Bp := by
      funext d
      cases hE : E d with
      | none => exact addB_none hE
      | some z => obtain ⟨a, ha, _⟩ := s.sup d (by rw [hE]; rfl); cases ha
    have he : e = ep := by
      funext t
      refine s.env t fun j o hj hd => ?_
      have hlt := lt_of_some hj
      obtain ⟨a, ha, haj⟩ := hall j hlt
      rw [s.split, List.append_nil] at ha
      exact .inl ⟨⟨a, ha, haj⟩, hl j hlt⟩
    rw [hE, he]
    exact s.go
  | k :: post, pref, ep, Bp, E, s => by
    have hk : k.1 < ops.size := hin k (by rw [s.split]; simp)
    obtain ⟨ep', Bp', E', h1, s'⟩ := s.advLate hok hpw (hl k.1 hk)
    rw [← h1]
    exact St.finish hok hpw hall hin hl post _ ep' Bp' E' s'

theorem St.advTo (hok : ∀ i o, ops[i]? = some o → Chk T N ops D pm i o) (hpw : pwB (relP ops D pm) plan = true) {k : Nat × List Nat} {p2 : Plan} (hkL : kL ops k.1 = false) (hdep : ∀ i, isDep D i k.1 = true → lst listed i = true) :
    ∀ (p1 pref : Plan) (ep : Env) (Bp : Box) (E : Nat → Option (List LV)), St P T ops D pm Q plan listed pref (p1 ++ k :: p2) e ep Bp E H →
    ∃ pref' ep' Bp' E', addB Bp' E' = addB Bp E ∧ St P T ops D pm Q plan listed pref' (k :: p2) e ep' Bp' E' H
  | [], pref, ep, Bp, E, s => ⟨pref, ep, Bp, E, rfl, s⟩
  | x :: p1, pref, ep, Bp, E, s => by
    have hpost := (s.pair hpw).2
    simp only [List.cons_append, pwB, Bool.and_eq_true, List.all_eq_true] at hpost
    cases hlx : lst listed x.1 with
    | true =>
      obtain ⟨ep', Bp', E', h1, s'⟩ := s.advLate hok hpw hlx
      obtain ⟨pref'', ep'', Bp'', E'', h2, s''⟩ := St.advTo hok hpw hkL hdep p1 _ ep' Bp' E' s'
      exact ⟨pref'', ep'', Bp'', E'', h2.trans h1, s''⟩
    | false =>
      have hp : pm.testBit x.1 = true := by
        rcases (relP_ne (hpost.1 k (by simp))).2.2 with h | h | h
        · have := hdep x.1 h; rw [hlx] at this; simp at this
        · rw [hkL] at h; simp at h
        · exact h.1
      obtain ⟨ep', s'⟩ := s.advPure hok hpw hp hlx
      exact St.advTo hok hpw hkL hdep p1 _ ep' Bp E s'
end

theorem draw_any (hT : TOK P T) {n m : Nat} {D0 : Nat → Prop} {w0 : World} {K0 : Know} {Qx : Exit → Act → World → Prop} (hok : ∀ i o, ops[i]? = some o → Chk T N ops D pm i o) (hpw : pwB (relP ops D pm) plan = true) (hall : ∀ i, i < ops.size → ∃ a ∈ plan, a.1 = i) (hin : ∀ a ∈ plan, a.1 < ops.size)
    (hdN : ∀ (i : Nat) (o : Oper), ops[i]? = some o → opDst N o = true) (hQ : ∀ e B H K jj a w, Q e B H → Wd N m D0 w0 K0 e B H K jj a w → Qx .normal a w) :
    ∀ (fuel : Nat) (listed : Array Bool) (pref post : Plan) (e ep : Env) (Bp : Box) (E : Nat → Option (List LV)) (H : OHeap) (K : Know) (jj : Nat → Nat) (a : Act) (w : World),
      St P T ops D pm Q plan listed pref post e ep Bp E H → Wd N m D0 w0 K0 e (addB Bp E) H K jj a w → cntU listed ops.size ≤ fuel → wpAnyIn (Fw ρ) n P .any ops Qx fuel listed a w := by
  intro fuel
  induction fuel with
  | zero =>
    intro listed pref post e ep Bp E H K jj a w s W hc
    have hl : Region.ready .any ops listed = [] := by
      cases hr : Region.ready .any ops listed with
      | nil => rfl
      | cons i l =>
        obtain ⟨o, ho, hu, _⟩ := mem_ready s.size (i := i) (by rw [hr]; simp)
        have := cntU_set (by rw [s.size]; exact lt_of_some ho) hu ops.size (lt_of_some ho)
        omega
    exact ⟨hl, hQ _ _ _ _ _ _ _ (St.finish hok hpw hall hin (none_ready hok s.size hl) post pref ep Bp E s) W⟩
  | succ fuel ih =>
    intro listed pref post e ep Bp E H K jj a w s W hc
    refine ⟨fun hl => hQ _ _ _ _ _ _ _ (St.finish hok hpw hall hin (none_ready hok s.size hl) post pref ep Bp E s) W, fun i hi => ?_⟩
    obtain ⟨o, ho, hu, hr⟩ := mem_ready s.size hi
    have hcs := cntU_set (by rw [s.size]; exact lt_of_some ho) hu ops.size (lt_of_some ho)
    have hdep := down_dep hok s.down i o ho hr
    obtain ⟨b, hb, hbi⟩ := hall i (lt_of_some ho)
    subst hbi
    have hdo := hdN _ o ho
    rw [s.split, List.mem_append] at hb
    have pend : ∀ {pref post : Plan} {ep : Env} {Bp : Box} {E : Nat → Option (List LV)}, St P T ops D pm Q plan listed pref post e ep Bp E H → Wd N m D0 w0 K0 e (addB Bp E) H K jj a w → b ∈ pref →
        wpOpIn (Fw ρ) n P ops Qx b.1 (wpAnyIn (Fw ρ) n P .any ops Qx fuel (listed.setIfInBounds b.1 true)) a w := fun s W hb =>
      s.execPend hT hok hpw hall hb ho hdo hu hr W fun a' w' e' K1 jj' s' W' => ih _ _ _ _ _ _ _ _ _ _ _ _ s' W' (by omega)
    rcases hb with hb | hb
    · exact pend s W hb
    · cases hal : isAlloc o with
      | true =>
        have hpm : pm.testBit b.1 = false := by
          cases hh : pm.testBit b.1 with
          | false => rfl
          | true =>
            have := (hok b.1 o ho).pure hh
            unfold isAlloc at hal
            unfold pureOp at this
            split at hal
            · rename_i t hop; simp [hop] at this
            · simp at hal
        exact s.execAlloc hT hok hpw hb ho hal hpm hdo hu hr W fun a' w' e' E' K1 jj' s' W' => ih _ _ _ _ _ _ _ _ _ _ _ _ s' W' (by omega)
      | false =>
        have hkL : kL ops b.1 = false := by simp [kL, ho, hal]
        obtain ⟨p1, p2, hsp⟩ := List.append_of_mem hb
        subst hsp
        obtain ⟨pref', ep', Bp', E', h1, s'⟩ := St.advTo hok hpw hkL hdep p1 pref ep Bp E s
        rw [← h1] at W
        cases hpm : pm.testBit b.1 with
        | true =>
          obtain ⟨ep'', s''⟩ := s'.advPure hok hpw hpm hu
          exact pend s'' W (by simp)
        | false =>
          exact s'.execAnchor hT hok hpw hall ho hal hpm hdo hu hr W fun a' w' e' ep'' Bp'' H'' K1 jj' s'' W' => ih _ _ _ _ _ _ _ _ _ _ _ _ s'' W' (by omega)

/-- A DRAWN REGION BY ONE ORDER. -/
theorem WP.draw (hT : TOK P T) (hm : P.follows .mixedOrders = true) {id : Nat} {Q : Post} {e : Env} {B : Box} {H : OHeap} (plan : Plan) (D : List Nat) (pm : Nat) (hok : drawOk T N ops plan D pm = true)
    (h : vcD P T ops plan (Q .norm) e (delBs B ops.toList) H) : WP P ρ N (.region id ops true) Q e B H := by
  intro hd n m K jj w a g t d
  simp only [drawOk, Bool.and_eq_true, List.all_eq_true, List.mem_range, decide_eq_true_eq] at hok
  obtain ⟨⟨h1, h2⟩, h3⟩ := hok
  have hchk : ∀ (i : Nat) (o : Oper), ops[i]? = some o → Chk T N ops D pm i o := fun i o hi => Chk.of hi (h1 i (lt_of_some hi)).1
  have hall : ∀ i, i < ops.size → ∃ a ∈ plan, a.1 = i := fun i hi => by
    have := (h1 i hi).2
    simp only [List.any_eq_true, beq_iff_eq] at this
    exact this
  have hdN : ∀ (i : Nat) (o : Oper), ops[i]? = some o → opDst N o = true := fun i o hi => by
    have : ops.toList.all (opDst N) = true := hd
    rw [List.all_eq_true] at this
    exact this o (by obtain ⟨h1, rfl⟩ := Array.getElem?_eq_some_iff.1 hi; simp)
  obtain ⟨g1, hdm, ht1⟩ := delBs_good (N := N) ops.toList B g
  have g2 : Good K jj (delBs B ops.toList) H w.drew := g1.drew
  refine wpIn_region_any hm ?_
  show wpAnyIn (Fw ρ) n P .any ops _ ops.size (Array.replicate ops.size false) a w.drew
  have hlst : ∀ i, lst (Array.replicate ops.size false) i = false := fun i => by
    unfold lst
    simp only [Array.getD_eq_getD_getElem?, Array.getElem?_replicate]
    split <;> rfl
  have hcnt : ∀ n, cntU (Array.replicate ops.size false) n = n := fun n => by
    induction n with
    | zero => rfl
    | succ n ih => simp only [cntU]; rw [ih, hlst]; simp
  have hadd : addB (delBs B ops.toList) (fun _ => none) = delBs B ops.toList := by funext d; rfl
  have fr : Fr (dom H B jj) w K (dom H (delBs B ops.toList) jj) w.drew K := ((Fr.refl (dom H B jj) w K).weak hdm).drew
  refine draw_any (Q := Q .norm) (plan := plan) (D0 := dom H B jj) (w0 := w) (K0 := K) (m := m) hT hchk h3 hall h2 hdN ?_ ops.size (Array.replicate ops.size false) [] plan e e (delBs B ops.toList) (fun _ => none) H K jj a w.drew
    ⟨rfl, fun i o hi hl => by rw [hlst] at hl; simp at hl, by simp, ⟨fun d hd => by simp at hd, fun d ⟨b, hb, o, ho, hs⟩ => ?_⟩, h, fun a ha => (by cases ha), fun a ha hl => (by rw [hlst] at hl; simp at hl), fun t _ => rfl, fun d hd => by simp at hd⟩
    ⟨by rw [hadd]; exact g2, by rw [hadd]; exact ht1 e a.tmps t, by rw [hadd]; exact d.fr fr, by rw [hadd]; exact fr⟩ (by rw [hcnt]; exact Nat.le_refl _)
  · intro e' B' H' K' jj' a' w' hq W
    exact ⟨.norm, K', jj', e', B', H', rfl, W.g, W.t, W.d, W.f, hq⟩
  · exact delBs_alloc ops.toList B o d (by obtain ⟨h1, rfl⟩ := Array.getElem?_eq_some_iff.1 ho; simp) hs

end
end Go.Lv
/- Lv, part V: how simp computes the condition of a drawn region. Over any program; no condition. -/
namespace Go.Lv
open Go
set_option linter.unusedVariables false
set_option linter.unusedSimpArgs false

section
variable {P : Program} {ρ : Option Nat} {N : Nat} {T : Tab} {ops : Array Oper} {e e' : Env} {B B' : Box} {H H' : OHeap}

def vcS (P : Program) (T : Tab) (ops : Array Oper) : Plan → KPost → Env → Box → OHeap → Prop
  | [], Q, e, B, H => Q e B H
  | a :: r, Q, e, B, H => match ops[a.1]? with
    | none => False
    | some o => vcO P T ops [o] (fun e' B' H' => stab T ops e B H e' B' H' a.2 ∧ vcS P T ops r Q e' B' H') e B H

theorem vcO_one {o : Oper} {K : KPost} (h : vcO P T ops [o] K e B H) : oneG P T ops o e B H fun x B' H' => K (updo e o.dst x) B' H' := by
  unfold vcO at h
  unfold oneG gWant gsl
  cases hg : o.guard with
  | none => simp only [hg] at h ⊢; exact h
  | some g =>
    obtain ⟨j, want⟩ := g
    simp only [hg] at h ⊢
    cases ht : (ops[j]?).bind (·.dst) with
    | none => simp only [ht] at h
    | some t =>
      simp only [ht] at h ⊢
      unfold gcnd at h
      cases hv : e t <;> simp only [hv] at h ⊢
      case bool b =>
        have yes : ∀ v : Bool, b = v → oneS P T { o with guard := none } (upd e t (.bool v)) B H (fun x B' H' => vcO P T ops [] K (updo (upd e t (.bool v)) o.dst x) B' H') → oneS P T o e B H fun x B' H' => K (updo e o.dst x) B' H' := fun v hb h1 => by
          rw [upd_self (by rw [hv, hb])] at h1; exact h1
        have no : ∀ v : Bool, b = v → vcO P T ops [] K (updo (upd e t (.bool v)) o.dst (.tup [])) B H → K (updo e o.dst (.tup [])) B H := fun v hb h1 => by
          rw [upd_self (by rw [hv, hb])] at h1; exact h1
        cases b <;> cases want
        · have h1 := h.2 rfl; simp only [Bool.false_eq_true, if_false] at h1; exact yes false rfl h1
        · have h1 := h.2 rfl; simp only [if_true] at h1; exact no false rfl h1
        · have h1 := h.1 rfl; simp only [Bool.false_eq_true, if_false] at h1; exact no true rfl h1
        · have h1 := h.1 rfl; simp only [if_true] at h1; exact yes true rfl h1
      case tup vs =>
        cases vs with
        | nil => exact h
        | cons y ys => exact h.elim
      all_goals exact h.elim

theorem vcS_sound {Q : KPost} : ∀ (plan : Plan) (e : Env) (B : Box) (H : OHeap), vcS P T ops plan Q e B H → vcD P T ops plan Q e B H
  | [], e, B, H, h => h
  | a :: r, e, B, H, h => by
    unfold vcS at h
    unfold vcD
    cases ho : ops[a.1]? with
    | none => rw [ho] at h; exact h
    | some o =>
      rw [ho] at h
      exact oneG_mono (fun x B' H' hq => ⟨hq.1, vcS_sound r _ _ _ hq.2⟩) (vcO_one h)

/-- The boxes that are laid anew are given up first. -/
def delL (B : Box) : List Nat → Box
  | [] => B
  | d :: r => delL (delB B d) r
@[simp] theorem delL_nil : delL B [] = B := rfl
@[simp] theorem delL_cons (d : Nat) (r : List Nat) : delL B (d :: r) = delL (delB B d) r := rfl
theorem delBs_delL : ∀ (l : List Oper) (B : Box), delBs B l = delL B (l.filterMap aslot)
  | [], B => rfl
  | o :: r, B => by
    unfold delBs
    cases hs : aslot o with
    | some d => simp [hs, delL, delBs_delL r]
    | none => simp [hs, delBs_delL r]

theorem WP.draws (hT : TOK P T) (hm : P.follows .mixedOrders = true) {id : Nat} {Q : Post} (plan : Plan) (D : List Nat) (pm : Nat) (dels : List Nat) (hok : (drawOk T N ops plan D pm && decide (ops.toList.filterMap aslot = dels)) = true)
    (h : vcS P T ops plan (Q .norm) e (delL B dels) H) : WP P ρ N (.region id ops true) Q e B H := by
  simp only [Bool.and_eq_true, decide_eq_true_eq] at hok
  refine WP.draw hT hm plan D pm hok.1 ?_
  rw [delBs_delL, hok.2]
  exact vcS_sound _ _ _ _ h

def gop : List Oper → Nat → Option Oper
  | [], _ => none
  | o :: l, 0 => some o
  | o :: l, j + 1 => gop l j
@[simp↓] theorem gop_zero (o : Oper) (l : List Oper) : gop (o :: l) 0 = some o := rfl
@[simp↓] theorem gop_succ (o : Oper) (l : List Oper) (j : Nat) : gop (o :: l) (j + 1) = gop l j := rfl
theorem gop_eq (l : List Oper) (j : Nat) : l.toArray[j]? = gop l j := by
  induction l generalizing j with
  | nil => simp [gop]
  | cons o l ih =>
    cases j with
    | zero => simp [gop]
    | succ j => rw [gop_succ, ← ih j]; simp

def dK (P : Program) (T : Tab) (ops : Array Oper) (fl : List Nat) (e0 : Env) (B0 : Box) (H0 : OHeap) (r : Plan) (Q : KPost) : KPost := fun e B H => stab T ops e0 B0 H0 e B H fl ∧ vcS P T ops r Q e B H
@[simp↓] theorem dK_nil (e0 : Env) (B0 : Box) (H0 : OHeap) (r : Plan) (Q : KPost) : dK P T ops [] e0 B0 H0 r Q e B H = vcS P T ops r Q e B H := by simp [dK, stab]
@[simp↓] theorem dK_cons (k : Nat) (fl : List Nat) (e0 : Env) (B0 : Box) (H0 : OHeap) (r : Plan) (Q : KPost) : dK P T ops (k :: fl) e0 B0 H0 r Q e B H = (stab T ops e0 B0 H0 e B H (k :: fl) ∧ vcS P T ops r Q e B H) := rfl
def sK (o : Option Oper) (P : Program) (T : Tab) (ops : Array Oper) (fl : List Nat) (r : Plan) (Q : KPost) (e : Env) (B : Box) (H : OHeap) : Prop := match o with
  | none => False
  | some o => vcO P T ops [o] (dK P T ops fl e B H r Q) e B H
@[simp] theorem sK_some (o : Oper) (fl : List Nat) (r : Plan) (Q : KPost) : sK (some o) P T ops fl r Q e B H = vcO P T ops [o] (dK P T ops fl e B H r Q) e B H := rfl
@[simp↓] theorem vcS_nil (Q : KPost) : vcS P T ops [] Q e B H = Q e B H := rfl
@[simp↓] theorem vcS_cons (l : List Oper) (i : Nat) (fl : List Nat) (r : Plan) (Q : KPost) : vcS P T l.toArray ((i, fl) :: r) Q e B H = sK (gop l i) P T l.toArray fl r Q e B H := by
  rw [← gop_eq]
  conv => lhs; unfold vcS
  unfold sK
  cases l.toArray[i]? <;> rfl

def pvK (o : Option Oper) (T : Tab) (ops : Array Oper) (e : Env) (B : Box) (H : OHeap) (e' : Env) (B' : Box) (H' : OHeap) : Prop := match o with
  | some o => pvG T ops o e' B' H' = pvG T ops o e B H
  | none => True
@[simp] theorem pvK_some (o : Oper) : pvK (some o) T ops e B H e' B' H' = (pvG T ops o e' B' H' = pvG T ops o e B H) := rfl
@[simp↓] theorem stab_nil : stab T ops e B H e' B' H' [] = True := rfl
@[simp↓] theorem stab_cons (l : List Oper) (k : Nat) (r : List Nat) : stab T l.toArray e B H e' B' H' (k :: r) = (pvK (gop l k) T l.toArray e B H e' B' H' ∧ stab T l.toArray e B H e' B' H' r) := by
  rw [← gop_eq]
  conv => lhs; unfold stab
  unfold pvK
  cases l.toArray[k]? <;> rfl
section
variable {dst : Option Tmp} {op : Op} {ty : TypeId} {pos : String} {af : Array Edge}
@[simp↓] theorem pvG_none : pvG T ops ⟨dst, op, ty, pos, af, none⟩ e B H = pf T ⟨dst, op, ty, pos, af, none⟩ e B H := rfl
@[simp↓] theorem pvG_guard (l : List Oper) (j : Nat) (w : Bool) : pvG T l.toArray ⟨dst, op, ty, pos, af, some (j, w)⟩ e B H = (gl l j).bind fun t => match e t with
    | .bool b => if b = w then pf T ⟨dst, op, ty, pos, af, none⟩ e B H else some (.tup [])
    | .tup [] => some (.tup [])
    | _ => none := by
  rw [← gl_eq]
  unfold pvG gWant gsl
  simp only []
  cases (l.toArray[j]?).bind (·.dst) with
  | none => rfl
  | some t =>
    simp only [Option.bind_some]
    cases e t <;> try rfl
    case bool b => cases b <;> cases w <;> rfl
    case tup vs => cases vs <;> rfl
@[simp↓] theorem pf_load' (t : TypeId) (p : Operand) : pf T ⟨dst, .load t p, ty, pos, af, none⟩ e B H = pfLoad T B H t (ev e p) := rfl
@[simp↓] theorem pf_fieldAddr' (s : TypeId) (p : Operand) (f : Nat) : pf T ⟨dst, .fieldAddr s p f, ty, pos, af, none⟩ e B H = pfFieldAddr T B s (ev e p) f := rfl
@[simp↓] theorem pf_indexAddr' (s : TypeId) (p q : Operand) : pf T ⟨dst, .indexAddr s p q, ty, pos, af, none⟩ e B H = pfIndexAddr T B s (ev e p) (ev e q) := rfl
@[simp↓] theorem pf_nilCheck' (p : Operand) : pf T ⟨dst, .nilCheck p, ty, pos, af, none⟩ e B H = if (notNil (ev e p) || bpHere B (ev e p)) = true then some (ev e p) else none := rfl
@[simp↓] theorem pf_len' (p : Operand) (t : TypeId) : pf T ⟨dst, .call ⟨.builtin .len, #[p], #[t]⟩, ty, pos, af, none⟩ e B H = pfLen T H t (ev e p) := rfl
@[simp↓] theorem pf_cap' (p : Operand) (t : TypeId) : pf T ⟨dst, .call ⟨.builtin .cap, #[p], #[t]⟩, ty, pos, af, none⟩ e B H = pfCap T t (ev e p) := rfl
end
end
end Go.Lv
/- Lv, part W: loops with a ghost state; small laws for the walks. Over any program; no condition. -/
namespace Go.Lv
open Go
set_option linter.unusedVariables false
set_option linter.unusedSimpArgs false

section
variable {P : Program} {ρ : Option Nat} {N : Nat} {T : Tab} {e : Env} {B : Box} {H : OHeap}

/-- Round again: a smaller state whose relation holds (less may be said). -/
def Next {σ : Type} (N : Nat) (I : σ → Env → Box → OHeap → Prop) (μ : σ → Nat) (s : σ) (Q : Post) : Post := fun x e B H =>
  match x with
  | .norm => ∃ s' e' B' H', μ s' < μ s ∧ Below (N := N) e e' B B' H H' ∧ I s' e' B' H'
  | .exit i => Q (.exit i) e B H
  | .ret => Q .ret e B H
@[simp↓] theorem Next_exit {σ : Type} (I : σ → Env → Box → OHeap → Prop) (μ : σ → Nat) (s : σ) (Q : Post) (i : Nat) : Next N I μ s Q (.exit i) e B H = Q (.exit i) e B H := rfl
@[simp↓] theorem Next_ret {σ : Type} (I : σ → Env → Box → OHeap → Prop) (μ : σ → Nat) (s : σ) (Q : Post) : Next N I μ s Q .ret e B H = Q .ret e B H := rfl
theorem Next.of {σ : Type} {I : σ → Env → Box → OHeap → Prop} {μ : σ → Nat} {s : σ} {Q : Post} (s' : σ) (hm : μ s' < μ s) (h : I s' e B H) : Next N I μ s Q .norm e B H := ⟨s', e, B, H, hm, Below.refl, h⟩
theorem Below.trans {e' e'' : Env} {B' B'' : Box} {H' H'' : OHeap} (h : Below (N := N) e e' B B' H H') (h' : Below (N := N) e' e'' B' B'' H' H'') : Below (N := N) e e'' B B'' H H'' := fun K jj w tmps g t => by
  obtain ⟨K', jj', g', t', f⟩ := h K jj w tmps g t
  obtain ⟨K'', jj'', g'', t'', f'⟩ := h' K' jj' w tmps g' t'
  exact ⟨K'', jj'', g'', t'', f.trans f'⟩
theorem Next.below {σ : Type} {I : σ → Env → Box → OHeap → Prop} {μ : σ → Nat} {s : σ} {Q : Post} {e' : Env} {B' : Box} {H' : OHeap} (hb : Below (N := N) e e' B B' H H') (h : Next N I μ s Q .norm e' B' H') : Next N I μ s Q .norm e B H := by
  obtain ⟨s', e'', B'', H'', h1, h2, h3⟩ := h
  exact ⟨s', e'', B'', H'', h1, hb.trans h2, h3⟩

theorem Lift.below {N m : Nat} {D : Nat → Prop} {w : World} {K : Know} {Q Q' : Post} {ex : Exit} {a' : Act} {w' : World} (hq : ∀ x e B H, Q x e B H → ∃ e' B' H', Below (N := N) e e' B B' H H' ∧ Q' x e' B' H') (h : Lift N m D w K Q ex a' w') : Lift N m D w K Q' ex a' w' := by
  obtain ⟨x, K', jj', e', B', H', h1, h2, h3, h4, h5, h6⟩ := h
  obtain ⟨e'', B'', H'', hb, hq'⟩ := hq _ _ _ _ h6
  obtain ⟨K'', jj'', g'', t'', f''⟩ := hb K' jj' w' a'.tmps h2 h3
  exact ⟨x, K'', jj'', e'', B'', H'', h1, g'', t'', h4.fr f'', h5.trans f'', hq'⟩

/-- A LOOP, with a ghost state and a measure of it. -/
theorem WP.loopG {σ : Type} {c : Code} {Q : Post} (I : σ → Env → Box → OHeap → Prop) (μ : σ → Nat) (s₀ : σ) (h₀ : I s₀ e B H) (round : ∀ s e B H, I s e B H → WP P ρ N c (Next N I μ s Q) e B H) : WP P ρ N (.loop c) Q e B H := by
  refine WP.loop (fun m e B H => ∃ s, μ s = m ∧ I s e B H) (μ s₀) ⟨s₀, rfl, h₀⟩ ?_
  rintro m e B H ⟨s, rfl, hI⟩
  intro hd n m K jj w a g t d
  refine wpIn_mono (round s e B H hI hd n m K jj w a g t d) fun ex a' w' hl => hl.below fun x e B H hx => ?_
  cases x with
  | norm =>
    obtain ⟨s', e', B', H', h1, h2, h3⟩ := hx
    exact ⟨e', B', H', h2, μ s', h1, s', rfl, h3⟩
  | exit i => exact ⟨e, B, H, Below.refl, hx⟩
  | ret => exact ⟨e, B, H, Below.refl, hx⟩

/-- The contract from the body, piece by piece. -/
theorem CallL.of_wp (hT : TOK P T) {f : FuncId} {fn : Func} {c : Code} {args : List LV} {n : Nat} {Q : LV → OHeap → Prop} (hf : P.funcs[f]? = some fn) (hb : fn.body = some c) (hok : fnOk fn n = true) (hn : args.length = n)
    (h : WP P none fn.ntmps c (RetQ T fn Q) (argEnv args) nobox H) : CallL P f args H Q := by
  simp only [fnOk, hb, Bool.and_eq_true, decide_eq_true_eq, Bool.not_eq_true'] at hok
  exact CallL.of_WP hT hf hb hok.1.1 hok.2 (by rw [hn]; exact hok.1.2) h
/-- The first piece alone. -/
theorem WP.cut (hT : TOK P T) {x y : Code} {Q : Post} (h : vc P T ρ N x (Then P ρ N y Q) e B H) : WP P ρ N (.seq x y) Q e B H := WP.seq (vc_sound hT _ _ _ _ _ h)
theorem Then.go (hT : TOK P T) {y : Code} {Q : Post} (h : vc P T ρ N y Q e B H) : Then P ρ N y Q .norm e B H := vc_sound hT _ _ _ _ _ h
theorem Then.below {y : Code} {Q : Post} {e' : Env} {B' : Box} {H' : OHeap} (hb : Below (N := N) e e' B B' H H') (h : Then P ρ N y Q .norm e' B' H') : Then P ρ N y Q .norm e B H := WP.below hb h

@[simp↓] theorem Then_ret (y : Code) (Q : Post) : Then P ρ N y Q .ret e B H = Q .ret e B H := rfl
@[simp↓] theorem Then_exit (y : Code) (Q : Post) (i : Nat) : Then P ρ N y Q (.exit i) e B H = Q (.exit i) e B H := rfl

/-- An empty slice is nil, or it is not. -/
theorem R.empty {K : Know} {f : Bool} {es : Nat} {v : Value} (h : R K (.isl f es []) v) : R K .nilsl v ∨ (∃ b o c, R K (.sl b o 0 c) v ∧ (f = true → c = 0)) ∨ R K .wsl v := by
  cases h with
  | isln => exact .inl .nilsl
  | isle _ _ a => exact .inr (.inr (.wsl a))
  | isl _ _ _ b o c us hc hf => exact .inr (.inl ⟨b, o, c, .sl _ _ _ _, fun h => hf h⟩)
theorem Rs.put {K : Know} {pre post : List LV} {x y : LV} {vs : List Value} (h : Rs K (pre ++ x :: post) vs) (hxy : ∀ v, vs[pre.length]? = some v → R K x v → R K y v) : Rs K (pre ++ y :: post) vs := by
  refine ⟨by rw [h.1]; simp, fun i z v hz hv => ?_⟩
  rcases Nat.lt_trichotomy i pre.length with hi | hi | hi
  · rw [List.getElem?_append_left hi] at hz
    exact h.2 i z v (by rw [List.getElem?_append_left hi]; exact hz) hv
  · subst hi
    simp at hz; subst hz
    exact hxy v hv (h.2 pre.length x v (by simp) hv)
  · rw [List.getElem?_append_right (by omega)] at hz
    obtain ⟨k, hk⟩ : ∃ k, i - pre.length = k + 1 := ⟨i - pre.length - 1, by omega⟩
    rw [hk] at hz
    exact h.2 i z v (by rw [List.getElem?_append_right (by omega), hk]; simpa using hz) hv
theorem CallL.empty {f : FuncId} (pre : List LV) {post : List LV} {fl : Bool} {es : Nat} {Q : LV → OHeap → Prop} (h1 : CallL P f (pre ++ .nilsl :: post) H Q) (h2 : ∀ b o c, (fl = true → c = 0) → CallL P f (pre ++ .sl b o 0 c :: post) H Q)
    (h3 : CallL P f (pre ++ .wsl :: post) H Q) : CallL P f (pre ++ .isl fl es [] :: post) H Q := by
  have split : ∀ {K : Know} {w : World} {vs : List Value}, Good K id nobox H w → Rs K (pre ++ .isl fl es [] :: post) vs → Rs K (pre ++ .nilsl :: post) vs ∨ (∃ b o c, Rs K (pre ++ .sl b o 0 c :: post) vs ∧ (fl = true → c = 0)) ∨ Rs K (pre ++ .wsl :: post) vs := by
    intro K w vs g hr
    obtain ⟨v, hv, hr'⟩ := hr.get (i := pre.length) (x := .isl fl es []) (by simp)
    have key : ∀ y, R K y v → Rs K (pre ++ y :: post) vs := fun y hy => hr.put fun v' hv' _ => by rw [hv] at hv'; cases hv'; exact hy
    exact hr'.empty.imp (key _) (Or.imp (fun ⟨b, o, c, h, hc⟩ => ⟨b, o, c, key _ h, hc⟩) (key _))
  rcases h1 with h1 | h1
  · have he := h1.1
    refine .inl ⟨he, fun K w vs g hr => ?_⟩
    rcases split g hr with h | ⟨b, o, c, h, hc⟩ | h
    · exact h1.2 K w vs g h
    · exact ((h2 b o c hc).enter he).2 K w vs g h
    · exact (h3.enter he).2 K w vs g h
  · rcases h3 with h3 | h3
    · have he := h3.1
      refine .inl ⟨he, fun K w vs g hr => ?_⟩
      rcases split g hr with h | ⟨b, o, c, h, hc⟩ | h
      · exact ((show CallL P f (pre ++ .nilsl :: post) H Q from .inr h1).enter he).2 K w vs g h
      · exact ((h2 b o c hc).enter he).2 K w vs g h
      · exact h3.2 K w vs g h
    · by_cases he : Enters P f
      · refine .inl ⟨he, fun K w vs g hr => ?_⟩
        rcases split g hr with h | ⟨b, o, c, h, hc⟩ | h
        · exact ((show CallL P f (pre ++ .nilsl :: post) H Q from .inr h1).enter he).2 K w vs g h
        · exact ((h2 b o c hc).enter he).2 K w vs g h
        · exact ((show CallL P f (pre ++ .wsl :: post) H Q from .inr h3).enter he).2 K w vs g h
      · refine .inr fun K w vs g hr => ?_
        rcases split g hr with h | ⟨b, o, c, h, hc⟩ | h
        · exact h1 K w vs g h
        · rcases h2 b o c hc with h2 | h2
          · exact absurd h2.1 he
          · exact h2 K w vs g h
        · exact h3 K w vs g h
/-- Less is said of a result. -/
theorem Wk.of {r r' : LV} (h : ∀ K v, R K r v → R K r' v) : Wk r H r' H := fun K w v g hr => ⟨K, g, h K v hr, Fr.refl _ _ _⟩
theorem Wk.nilsl (f : Bool) (es : Nat) : Wk .nilsl H (.isl f es []) H := Wk.of fun K v h => by cases h; exact .isln _ _

theorem Wk.wsl (f : Bool) (es : Nat) : Wk .wsl H (.isl f es []) H := Wk.of fun K v h => by cases h; exact .isle _ _ _

theorem wrap64 {n : Int} (h1 : -9223372036854775808 ≤ n) (h2 : n ≤ 9223372036854775807) : IntKind.i64.wrap n = n := by rw [IntKind.wrap_i64]; omega

/-- How a call goes in: by its contract. -/
theorem CallL.then {f : FuncId} {args : List LV} {Q Q' : LV → OHeap → Prop} (h : CallL P f args H Q) (hq : ∀ x H', Q x H' → Q' x H') : CallL P f args H Q' := h.mono hq
/-- A call that hands back one value and turns nothing. -/
theorem CallL.ret {f : FuncId} {args : List LV} {x : LV} {Q : LV → OHeap → Prop} (h : CallL P f args H fun y H' => y = x ∧ H' = H) (hq : Q x H) : CallL P f args H Q := h.mono fun y H' hh => by obtain ⟨rfl, rfl⟩ := hh; exact hq
end
end Go.Lv
/- Lv, part X: the bridge from a contract to a row: a law's arguments are sealed trees, its result is true, nothing that was there turns. Over any program; no condition. -/
namespace Go.Lv
open Go Go.ChangeShapes Go.WideShapes
set_option linter.unusedVariables false
set_option linter.unusedSimpArgs false

/-- All that stands in the first world is known. -/
def Kof (W : World) : Know := fun b o => W.cell? ⟨b, o, none⟩
def noH : OHeap := fun _ => none
theorem noH_dom (b : Nat) : ¬ dom noH nobox id b := by
  rintro (h | ⟨d, h, _⟩)
  · simp [noH] at h
  · simp [nobox] at h
theorem good0 (W : World) : Good (Kof W) id nobox noH W := {
  know b o v h := h
  own b o h := by simp [noH] at h
  apart b o h := absurd h (noH_dom b)
  box d ver cs h := by simp [nobox] at h
  boxH d h := by simp [nobox] at h
  boxne d d' h := by simp [nobox] at h }

section
variable {H : Type} {enc : TypeId × Value → H} {P : Program} {W W' : World} {base : Nat} {spare : Nat → Bool} {held : Bool}

theorem spot_of_cells {a : Addr} {n : Nat} {cs : List Value} (hn : 0 < n) (h : W.cells? base a n = some cs) : a.spot = none := by
  obtain ⟨_, h5, h6⟩ := World.cells?_some h
  have := h6 0 hn
  rw [List.getElem?_eq_getElem (by omega)] at this
  have e : a.add 0 = a := by simp [Addr.add]
  rw [e] at this
  exact World.cell?_spot this
/-- A slice that is read is a sealed tree. -/
theorem trod_isl {t e : TypeId} {es fuel : Nat} {cs : List Value} {x : DataW H × List MemPlace} (RowT : List LV → Prop) (ht : P.underlying t = some (.slice e)) (he : P.cellsOf e = es)
    (hrow : ∀ n cs x, DataW.trod enc P W base spare held n e cs = some x → cs.length = es → ∃ r, Rs (Kof W) r cs ∧ RowT r)
    (hpos : 0 < es) (hspare : ∀ b, spare b = true) (h : DataW.trod enc P W base spare held fuel t cs = some x) :
    ∃ v f rows, cs = [v] ∧ R (Kof W) (.isl f es rows) v ∧ (∀ r ∈ rows, RowT r) := by
  rcases DataW.trod_slice ht h with ⟨rfl, _⟩ | ⟨a, len, cap, elems, rest, n, _, rfl, _, hb, hl, hm, hlen, hel, hrest, _⟩
  · exact ⟨_, true, [], rfl, .isln _ _, by simp⟩
  by_cases hcap : cap = 0
  · subst hcap
    have : len = 0 := by omega
    subst this
    exact ⟨_, true, [], rfl, .isle _ _ _, by simp⟩
  · obtain ⟨b, o, sp⟩ := a
    have : sp = none := by
      by_cases h0 : 0 < len
      · have h1 := hel 0 h0
        rw [List.getElem?_eq_getElem (by omega), Option.bind_eq_some_iff] at h1
        obtain ⟨cs', h3, _⟩ := h1
        rw [he, Nat.zero_mul] at h3
        have := spot_of_cells hpos h3
        simpa [Addr.add] using this
      · have h0' : len = 0 := by omega
        subst h0'
        obtain ⟨hrl, hr⟩ := hrest (hspare _)
        have h1 := hr 0 (by omega)
        rw [List.getElem?_eq_getElem (by omega), Option.bind_eq_some_iff] at h1
        obtain ⟨cs', h3, _⟩ := h1
        rw [he, Nat.zero_add, Nat.zero_mul] at h3
        have := spot_of_cells hpos h3
        simpa [Addr.add] using this
    subst this
    have one : ∀ i, ∃ r cs', i < len → Rs (Kof W) r cs' ∧ RowT r ∧ cs'.length = es ∧ ∀ j, j < es → W.cell? ⟨b, o + i * es + j, none⟩ = cs'[j]? := fun i => by
      by_cases hi : i < len
      · have h1 := hel i hi
        have h2 : i < elems.length := by omega
        rw [List.getElem?_eq_getElem h2, Option.bind_eq_some_iff] at h1
        obtain ⟨cs', h3, h4⟩ := h1
        rw [he] at h3
        obtain ⟨_, h5, h6⟩ := World.cells?_some h3
        obtain ⟨r, h7, h8⟩ := hrow _ _ _ h4 h5
        refine ⟨r, cs', fun _ => ⟨h7, h8, h5, fun j hj => ?_⟩⟩
        have := h6 j hj
        rw [add_plain, add_plain] at this
        exact this
      · exact ⟨[], [], fun h => absurd h hi⟩
    obtain ⟨rf, hrf'⟩ := Classical.axiomOfChoice one
    obtain ⟨cf, hrf⟩ := Classical.axiomOfChoice hrf'
    have key := R.isl (K := Kof W) (decide (cap = len)) es ((List.range len).map rf) b o cap (fun i j => ((cf i)[j]?).getD (.bool false)) (by simpa using hl) (by simp) (by
      intro x hx
      obtain ⟨i, hi, rfl⟩ := List.mem_map.1 hx
      have := hrf i (List.mem_range.1 hi)
      rw [← this.1.1]; exact this.2.2.1) (by
      intro i j x y hx hy
      simp only [List.getElem?_map, Option.map_eq_some_iff] at hx
      obtain ⟨i', hi', rfl⟩ := hx
      obtain ⟨hi1, rfl⟩ : i < len ∧ i = i' := by
        by_cases hc : i < len
        · rw [List.getElem?_range hc] at hi'; simp at hi'; exact ⟨hc, hi'⟩
        · rw [List.getElem?_eq_none (by simpa using hc)] at hi'; simp at hi'
      obtain ⟨g1, g2, g3, g4⟩ := hrf i hi1
      have hj : j < es := by have := (List.getElem?_eq_some_iff.1 hy).1; rw [← g1.1, g3] at this; exact this
      show W.cell? _ = _
      rw [g4 j hj, List.getElem?_eq_getElem (by omega)]; rfl) (by
      intro i j x y hx hy
      simp only [List.getElem?_map, Option.map_eq_some_iff] at hx
      obtain ⟨i', hi', rfl⟩ := hx
      obtain ⟨hi1, rfl⟩ : i < len ∧ i = i' := by
        by_cases hc : i < len
        · rw [List.getElem?_range hc] at hi'; simp at hi'; exact ⟨hc, hi'⟩
        · rw [List.getElem?_eq_none (by simpa using hc)] at hi'; simp at hi'
      obtain ⟨g1, g2, g3, g4⟩ := hrf i hi1
      have hj : j < es := by have := (List.getElem?_eq_some_iff.1 hy).1; rw [← g1.1, g3] at this; exact this
      refine g1.2 j y _ hy ?_
      rw [List.getElem?_eq_getElem (by omega)]; rfl)
    simp only [List.length_map, List.length_range] at key
    exact ⟨_, _, _, rfl, key, fun r hr => by
      obtain ⟨i, hi, rfl⟩ := List.mem_map.1 hr
      exact (hrf i (List.mem_range.1 hi)).2.1⟩

/-- A slice that is an argument is a sealed tree. -/
theorem open_isl {t e : TypeId} {es : Nat} {v : Value} {d : DataW H} {ps : List MemPlace} {r : Reach} {b0 : Nat} (RowT : List LV → Prop) (ht : P.underlying t = some (.slice e)) (he : P.cellsOf e = es)
    (hrow : ∀ n cs x, DataW.trod enc P W base spare held n e cs = some x → cs.length = es → ∃ r, Rs (Kof W) r cs ∧ RowT r) (hpos : 0 < es) (hspare : ∀ b, spare b = true) (hval : Value.okWide P W r b0 t v) (h : DataW.Trod enc P W base spare held t v d ps) :
    ∃ f rows, R (Kof W) (.isl f es rows) v ∧ (∀ r ∈ rows, RowT r) := by
  obtain ⟨a, len, cap, rfl⟩ := okWide_slice ht hval
  obtain ⟨fuel, hf⟩ := h
  have e1 : (Value.slice a len cap).cells.toList = [.slice a len cap] := by simp [Value.cells]
  rw [e1] at hf
  obtain ⟨v, f, rows, hv, h1, h2⟩ := trod_isl RowT ht he hrow hpos hspare hf
  simp at hv
  subst hv
  exact ⟨f, rows, h1, h2⟩
theorem rows_map {α : Type} (g : α → List LV) (Q : α → Prop) : ∀ {rows : List (List LV)}, (∀ r ∈ rows, ∃ x, r = g x ∧ Q x) → ∃ l : List α, rows = l.map g ∧ ∀ x ∈ l, Q x
  | [], _ => ⟨[], rfl, by simp⟩
  | r :: rows, h => by
    obtain ⟨x, rfl, hx⟩ := h r (by simp)
    obtain ⟨l, rfl, hl⟩ := rows_map g Q (rows := rows) (fun r hr => h r (by simp [hr]))
    exact ⟨x :: l, rfl, by simpa [hx] using hl⟩

theorem trodAll_five {t0 t1 t2 t3 t4 : TypeId} {args : Array Value} {ds : List (DataW H)} {ps : List MemPlace} (h : DataW.TrodAll enc P W base spare held [t0, t1, t2, t3, t4] args.toList ds ps) :
    ∃ v0 v1 v2 v3 v4 d0 d1 d2 d3 d4 p0 p1 p2 p3 p4, args = #[v0, v1, v2, v3, v4] ∧ ds = [d0, d1, d2, d3, d4] ∧ ps = p0 ++ p1 ++ p2 ++ p3 ++ p4 ∧ DataW.Trod enc P W base spare held t0 v0 d0 p0 ∧ DataW.Trod enc P W base spare held t1 v1 d1 p1 ∧ DataW.Trod enc P W base spare held t2 v2 d2 p2 ∧ DataW.Trod enc P W base spare held t3 v3 d3 p3 ∧ DataW.Trod enc P W base spare held t4 v4 d4 p4 := by
  obtain ⟨v0, vs0, d0, e0, p0, q0, hargs, rfl, rfl, h0, r0⟩ := trodAll_cons h
  obtain ⟨v1, vs1, d1, e1, p1, q1, rfl, rfl, rfl, h1, r1⟩ := trodAll_cons r0
  obtain ⟨v2, vs2, d2, e2, p2, q2, rfl, rfl, rfl, h2, r2⟩ := trodAll_cons r1
  obtain ⟨v3, vs3, d3, e3, p3, q3, rfl, rfl, rfl, h3, r3⟩ := trodAll_cons r2
  obtain ⟨v4, vs4, d4, e4, p4, q4, rfl, rfl, rfl, h4, r4⟩ := trodAll_cons r3
  obtain ⟨rfl, rfl, rfl⟩ := trodAll_nil r4
  exact ⟨v0, v1, v2, v3, v4, d0, d1, d2, d3, d4, p0, p1, p2, p3, p4, by cases args; simp_all, rfl, by simp, h0, h1, h2, h3, h4⟩

/-- What a law hands back. -/
theorem trodAll_carry (hl : laidOutB P = true) (hb : RowKit.Below W.heap.size W W') {sp : Nat → Bool} (hsp : ∀ b, b < W.heap.size → sp b = true) : ∀ {ts : List TypeId} {vs : List Value} {ds : List (DataW H)} {ps : List MemPlace},
    ts.all (fun t => P.readableRec t && decide (t < P.types.size)) = true → (∀ p ∈ ps, p.block < W.heap.size) →
    DataW.TrodAll enc P W 0 (fun _ => true) true ts vs ds ps → DataW.TrodAll enc P W' 0 sp true ts vs ds ps
  | [], _, _, _, _, _, h => by
    obtain ⟨rfl, rfl, rfl⟩ := ChangeShapes.trodAll_nil h
    rfl
  | t :: ts, _, _, _, hr, hlt, h => by
    obtain ⟨v, vs, d, ds, p, q, rfl, rfl, rfl, h1, h2⟩ := ChangeShapes.trodAll_cons h
    simp only [List.all_cons, Bool.and_eq_true, decide_eq_true_eq] at hr
    refine ⟨p, q, ?_, trodAll_carry hl hb hsp hr.2 (fun x hx => hlt x (by simp [hx])) h2, rfl⟩
    exact WideElems.Trod_stays hl hr.1.1 hr.1.2 h1 (fun x hx => hb.same (hlt x (by simp [hx]))) (fun x hx => hsp _ (hlt x (by simp [hx])))

theorem trodAll_len : ∀ {ts : List TypeId} {vs : List Value} {ds : List (DataW H)} {ps : List MemPlace}, DataW.TrodAll enc P W base spare held ts vs ds ps → ds.length = ts.length ∧ vs.length = ts.length
  | [], _, _, _, h => by obtain ⟨rfl, rfl, rfl⟩ := ChangeShapes.trodAll_nil h; exact ⟨rfl, rfl⟩
  | t :: ts, _, _, _, h => by
    obtain ⟨v, vs, d, ds, p, q, rfl, rfl, rfl, h1, h2⟩ := ChangeShapes.trodAll_cons h
    have := trodAll_len h2
    simp [this.1, this.2]

theorem post_law {f : Func} {s : ChangeSpec} {args : Array Value} {ds gs : List (DataW H)} {before : List MemPlace} {tb : TypeId} {K K' : Know} {D' : Nat → Prop} (hl : laidOutB P = true)
    (hp : f.params.toList.all (fun t => P.readableRec t && decide (t < P.types.size)) = true) (hv : s.vars = []) (hr : f.resultTypes = #[tb]) (htb : P.underlying tb = some .bool)
    (hs : ∀ ds : List (DataW H), ds.length = f.params.toList.length → s.fn H ds = { results := [.lit (.bool true)], args := ds })
    (hW : DataW.Whole enc P f.params.toList s.vars false W args.toList ds gs before) (fr : Fr (dom noH nobox id) W K D' W' K') : s.post enc P f false true false false W args (.bool true) W' := by
  have hbel : RowKit.Below W.heap.size W W' := ⟨fr.os, fr.tape, fr.output, fr.size, fun k hk => fr.old k hk (noH_dom k)⟩
  obtain ⟨p, q, hA, hV, rfl, hfz, hnd⟩ := hW
  have hlt := DataW.Whole.lt ⟨p, q, hA, hV, rfl, hfz, hnd⟩
  have hV' := hV
  rw [hv] at hV'
  obtain ⟨rfl, rfl⟩ := ChangeShapes.trodVars_none hV'
  have hds := trodAll_len hA
  have e1 := hs (ds ++ []) (by simpa using hds.1)
  refine ⟨ds, [], p ++ [], [], p, [], ⟨p, [], hA, hV, rfl, hfz, hnd⟩, ?_, ?_, ?_, ?_, fun h => by cases h⟩
  · rw [e1, hr]
    exact ChangeShapes.trodAll_mk1 ⟨1, by simp [DataW.trod, Value.cells, htb]⟩
  · rw [e1]
    simp only [List.append_nil]
    exact trodAll_carry hl hbel (fun b hb => by simpa using hb) hp (fun x hx => hlt x (by simp [hx])) hA
  · rw [e1, hv]; rfl
  · exact World.keptBut_mono (fun _ f => f.elim) (hbel.frame (fun _ => False))

theorem law_handed {a : Assume} {C : Checked} {os : Os} {f : FuncId} {fn : Func} {s : ChangeSpec} {tb : TypeId}
    (own : ownKnob C.prog.godebug = none) (started : os.Started) (noInit : C.prog.inits.idxOf? f = none) (hfn : C.prog.funcs[f]? = some fn)
    (witness : ∃ (w : World) (tape : Tape) (i : Input), w.os = os ∧ (w.forCall tape i).Shaped C.prog ∧ i.vars = [] ∧ Input.okWide C.prog (w.forCall tape i) .any w.heap.size f i ∧
      s.pre6 enc C.prog fn [] false (w.forCall tape i).memory i.args ∧ a.holds C.prog (lone (Frame.enter C.prog f i.args .normal) [] (w.forCall tape i)))
    (he : Enters C.prog f) (hl : laidOutB C.prog = true) (hp : fn.params.toList.all (fun t => C.prog.readableRec t && decide (t < C.prog.types.size)) = true) (hv : s.vars = []) (hr : fn.resultTypes = #[tb]) (htb : C.prog.underlying tb = some .bool)
    (hs : ∀ ds : List (DataW H), ds.length = fn.params.toList.length → s.fn H ds = { results := [.lit (.bool true)], args := ds })
    (key : ∀ (W : World) (base : Nat) (args : Array Value) (ds : List (DataW H)) (ps : List MemPlace), (∀ (j : Nat) t v, fn.params[j]? = some t → args[j]? = some v → Value.okWide C.prog W .any base t v) →
      DataW.TrodAll enc C.prog W 0 (fun _ => true) true fn.params.toList args.toList ds ps → ∃ xs, Rs (Kof W) xs args.toList ∧ CallL C.prog f xs noH fun x _ => x = .bool true) :
    ReturnsInHanded a C os f .any (s.pre6 enc C.prog fn [] false) (s.post enc C.prog fn false true false false) := by
  refine returnsInHanded_of_change own started noInit hfn witness ?_
  intro W base args ds gs before hval hW _ _
  obtain ⟨p, q, hA, hV, hpq, hfz, hnd⟩ := hW
  obtain ⟨xs, hxs, hc⟩ := key W base args ds p hval hA
  have := (hc.enter he).2 (Kof W) W args.toList (good0 W) hxs
  rw [Array.toArray_toList] at this
  refine this.mono fun en W' ⟨v, x, K', H', he, _, hR, fr, hx⟩ => ?_
  subst hx
  cases hR
  exact ⟨_, he, post_law hl hp hv hr htb hs ⟨p, q, hA, hV, hpq, hfz, hnd⟩ fr⟩
end
end Go.Lv
/- Lv, part Y: what a call does not own it leaves as it is (the frame); a range over a function. Over any program; no condition. -/
namespace Go.Lv
open Go
set_option linter.unusedVariables false
set_option linter.unusedSimpArgs false

/-! ### The frame -/
def disj (H F : OHeap) : Prop := ∀ b, (H b).isSome = true → F b = none
def uni (H F : OHeap) : OHeap := fun b => match H b with | some o => some o | none => F b
theorem uni_left {H F : OHeap} {b : Nat} {o : LO} (h : H b = some o) : uni H F b = some o := by simp [uni, h]
theorem uni_right {H F : OHeap} {b : Nat} (h : H b = none) : uni H F b = F b := by simp [uni, h]
theorem disj_left {H F : OHeap} (h : disj H F) {b : Nat} {o : LO} (hf : F b = some o) : H b = none := by
  cases hh : H b with
  | none => rfl
  | some x => have := h b (by simp [hh]); rw [this] at hf; cases hf

section
variable {P : Program} {K K' : Know} {H H' F : OHeap} {w w' : World}

theorem frame_in (hd : disj H F) (g : Good K id nobox (uni H F) w) : Good K id nobox H w := {
  know := g.know
  own b o h := g.own b o (uni_left h)
  apart b o h := g.apart b o (.inl (by
    obtain ⟨x, hx⟩ := Option.isSome_iff_exists.1 (dom_nobox.1 h)
    rw [uni_left hx]; rfl))
  box d ver cs h := by simp [nobox] at h
  boxH d h := by simp [nobox] at h
  boxne d d' h := by simp [nobox] at h }

theorem frame_out (hd : disj H F) (g : Good K id nobox (uni H F) w) (g' : Good K' id nobox H' w') (f : Fr (dom H nobox id) w K (dom H' nobox id) w' K') :
    disj H' F ∧ Good K' id nobox (uni H' F) w' ∧ Fr (dom (uni H F) nobox id) w K (dom (uni H' F) nobox id) w' K' := by
  have hF : ∀ b o, F b = some o → b < w.heap.size ∧ ¬ dom H nobox id b := fun b o hb => by
    have hn := disj_left hd hb
    refine ⟨(g.own b o (by rw [uni_right hn]; exact hb)).lt, fun h => ?_⟩
    have := dom_nobox.1 h
    rw [hn] at this; simp at this
  have hdj : disj H' F := fun b hb => by
    cases hf : F b with
    | none => rfl
    | some o =>
      obtain ⟨h1, h2⟩ := hF b o hf
      rcases f.newD b (dom_nobox.2 hb) with h | h
      · exact absurd h h2
      · omega
  refine ⟨hdj, ⟨g'.know, fun b o h => ?_, fun b o h => ?_, fun d ver cs h => by simp [nobox] at h, fun d h => by simp [nobox] at h, fun d d' h => by simp [nobox] at h⟩, ⟨f.os, f.tape, f.output, f.size, fun b hb hn => f.old b hb fun h => hn (dom_nobox.2 ?_), f.le, fun b o h1 h2 => ?_, fun b h => ?_⟩⟩
  · cases hh : H' b with
    | some x => rw [uni_left hh] at h; cases h; exact g'.own b _ hh
    | none =>
      rw [uni_right hh] at h
      obtain ⟨h1, h2⟩ := hF b o h
      exact ((g.own b o (by rw [uni_right (disj_left hd h)]; exact h)).same (f.old b h1 h2)).mono f.le
  · have h := dom_nobox.1 h
    cases hh : H' b with
    | some x => exact g'.apart b o (dom_nobox.2 (by rw [hh]; rfl))
    | none =>
      rw [uni_right hh] at h
      obtain ⟨x, hx⟩ := Option.isSome_iff_exists.1 h
      obtain ⟨h1, h2⟩ := hF b x hx
      have hk := g.apart b o (dom_nobox.2 (by rw [uni_right (disj_left hd hx), hx]; rfl))
      cases hk' : K' b o with
      | none => rfl
      | some v => exact ((f.newK b o hk (by simp [hk'])).elim h2 (fun x => by omega)).elim
  · obtain ⟨x, hx⟩ := Option.isSome_iff_exists.1 (dom_nobox.1 h)
    rw [uni_left hx]; rfl
  · refine (f.newK b o h1 h2).imp (fun h => dom_nobox.2 ?_) id
    obtain ⟨x, hx⟩ := Option.isSome_iff_exists.1 (dom_nobox.1 h)
    rw [uni_left hx]; rfl
  · have h := dom_nobox.1 h
    cases hh : H' b with
    | some x =>
      refine (f.newD b (dom_nobox.2 (by rw [hh]; rfl))).imp (fun h => dom_nobox.2 ?_) id
      obtain ⟨x, hx⟩ := Option.isSome_iff_exists.1 (dom_nobox.1 h)
      rw [uni_left hx]; rfl
    | none =>
      rw [uni_right hh] at h
      obtain ⟨x, hx⟩ := Option.isSome_iff_exists.1 h
      exact .inl (dom_nobox.2 (by rw [uni_right (disj_left hd hx), hx]; rfl))

/-- What is said of a part of the memory is said of the whole. -/
def FrQ (F : OHeap) (Q : LV → OHeap → Prop) : LV → OHeap → Prop := fun x H' => ∃ H1, H' = uni H1 F ∧ disj H1 F ∧ Q x H1
theorem CallL.frame {f : FuncId} {args : List LV} {Q : LV → OHeap → Prop} (F : OHeap) (hd : disj H F) (h : CallL P f args H Q) : CallL P f args (uni H F) (FrQ F Q) :=
  h.imp (fun h => ⟨h.1, fun K w vs g hr => (h.2 K w vs (frame_in hd g) hr).mono fun en w' ⟨v, x, K', H', h1, h2, h3, h4, h5⟩ =>
    let ⟨a, b, c⟩ := frame_out hd g h2 h4
    ⟨v, x, K', uni H' F, h1, b, h3, c, H', rfl, a, h5⟩⟩)
    (fun h K w vs g hr => let ⟨v, x, h1, h2, h3⟩ := h K w vs (frame_in hd g) hr; ⟨v, x, h1, h2, H, rfl, hd, h3⟩)
theorem YieldL.frame {l : Nat} {args : List LV} {Q : LV → OHeap → Prop} (F : OHeap) (hd : disj H F) (h : YieldL P l args H Q) : YieldL P l args (uni H F) (FrQ F Q) := fun n K w vs g hr => by
  obtain ⟨fn, tmps, asg, body, h1, h2⟩ := h n K w vs (frame_in hd g) hr
  refine ⟨fn, tmps, asg, body, h1, h2.mono fun en w' ⟨v, x, K', H', h1, h2, h3, h4, h5⟩ => ?_⟩
  obtain ⟨a, b, c⟩ := frame_out hd g h2 h4
  exact ⟨v, x, K', uni H' F, h1, b, h3, c, H', rfl, a, h5⟩
end

/-! ### A range over a function -/
section
variable {P : Program} {ρ : Option Nat} {N : Nat} {e : Env} {B : Box} {H : OHeap} {K : Know} {jj : Nat → Nat} {w : World}

theorem Good.addH (g : Good K jj B H w) {b : Nat} {o : LO} (hd : ¬ dom H B jj b) (hk : ∀ i, K b i = none) (ho : ownObj K w b o) : Good K jj B (setH H b o) w := {
  know := g.know
  own b' o' h := by
    simp only [setH_apply] at h
    split at h
    · rename_i e; subst e; cases h; exact ho
    · exact g.own b' o' h
  apart b' i h := by
    by_cases e : b' = b
    · subst e; exact hk i
    · refine g.apart b' i ?_
      rcases h with h | h
      · exact .inl (by simpa [e] using h)
      · exact .inr h
  box := g.box
  boxH d h := by
    simp only [setH_apply]
    split
    · rename_i e; exact absurd (.inr ⟨d, h, e⟩) hd
    · exact g.boxH d h
  boxne := g.boxne }

theorem Good.dead (g : Good K id Lv.nobox H w) (hB : ∀ d, (B d).2 = none) : Good K jj B H w := {
  know := g.know
  own := g.own
  apart b o h := g.apart b o (.inl (by rcases h with h | ⟨d, h, _⟩; exact h; rw [hB d] at h; cases h))
  box d ver cs h := by have := hB d; rw [h] at this; cases this
  boxH d h := by rw [hB d] at h; cases h
  boxne d d' h := by rw [hB d] at h; cases h }
theorem dom_dead (hB : ∀ d, (B d).2 = none) {b : Nat} : dom H B jj b ↔ (H b).isSome = true :=
  ⟨fun h => (by rcases h with h | ⟨d, h, _⟩; exact h; rw [hB d] at h; cases h), .inl⟩

/-- Yield's values are laid into slots. -/
def setps (e : Env) : List Tmp → List LV → Env
  | p :: ps, x :: xs => setps (upd e p x) ps xs
  | _, _ => e
@[simp] theorem setps_nil (xs : List LV) : setps e [] xs = e := by cases xs <;> rfl
@[simp] theorem setps_cons (p : Tmp) (ps : List Tmp) (x : LV) (xs : List LV) : setps e (p :: ps) (x :: xs) = setps (upd e p x) ps xs := rfl

theorem TE.setps : ∀ (ps : List Tmp) (xs : List LV) (vs : List Value) (e : Env) (tmps : Array Value), TE K jj B N e tmps → (∀ p ∈ ps, p < N) → Rs K xs vs → xs.length = ps.length →
    TE K jj B N (setps e ps xs) ((ps.zip vs).foldl (fun t pv => t.setIfInBounds pv.1 pv.2) tmps)
  | [], xs, vs, e, tmps, h, _, _, _ => by simpa using h
  | p :: ps, [], vs, e, tmps, h, _, _, hl => by simp at hl
  | p :: ps, x :: xs, [], e, tmps, h, _, hr, _ => by have := hr.1; simp at this
  | p :: ps, x :: xs, v :: vs, e, tmps, h, hp, hr, hl => by
    simp only [List.zip_cons_cons, List.foldl_cons, setps_cons]
    refine TE.setps ps xs vs _ _ ?_ (fun q hq => hp q (List.mem_cons_of_mem _ hq)) hr.tail (by simpa using hl)
    have := h.put (a := { tmps := tmps, defers := [] }) (d := some p) (fun t ht => by cases ht; exact hp p (List.mem_cons_self ..)) hr.head.re
    exact this

/-- How a round ends. -/
def RndQ (T : OHeap → Prop) (X : Ex → OHeap → Prop) : Post := fun z e B H => match z with
  | .norm => T H
  | .ret => X .ret H
  | .exit i => X (.exit i) H
@[simp] theorem RndQ_norm (T : OHeap → Prop) (X : Ex → OHeap → Prop) : RndQ T X .norm e B H = T H := rfl
@[simp] theorem RndQ_ret (T : OHeap → Prop) (X : Ex → OHeap → Prop) : RndQ T X .ret e B H = X .ret H := rfl
@[simp] theorem RndQ_exit (T : OHeap → Prop) (X : Ex → OHeap → Prop) (i : Nat) : RndQ T X (.exit i) e B H = X (.exit i) H := rfl
/-- Behind the assignment to the loop's variables comes the body. -/
def AsgQ (P : Program) (ρ : Option Nat) (N : Nat) (body : Code) (Q : Post) : Post := fun z e B H => match z with
  | .norm => WP P ρ N body Q e B H
  | _ => False
def exCode : Ex → Code
  | .norm => .skip
  | .ret => .ret
  | .exit i => .exit i

theorem Dok.setOb {m : Nat} {D : Nat → Prop} {ds : List Deferred} (d : Dok m D w ds) {l : Nat} {ob : Obj} {r : Loop} (hl : w.heap[l]? = some (.loop r)) : Dok m D (Lv.setOb w l ob) ds := by
  obtain ⟨hm, bs, h1, h2, h3⟩ := d
  refine ⟨by rw [setOb_size]; exact hm, bs, h1, h2, fun b hb => ?_⟩
  obtain ⟨a1, a2, a3⟩ := h3 b hb
  have : b ≠ l := fun e => by subst e; rw [hl] at a3; cases a3
  exact ⟨a1, a2, by rw [setOb_other this]; exact a3⟩

theorem putObj_setOb (w : World) (l : Nat) (o : Obj) : w.putObj l o = Lv.setOb w l o := rfl
theorem noK_of_loop (g : Good K jj B H w) {b : Nat} {r : Loop} (h : w.heap[b]? = some (.loop r)) (o : Nat) : K b o = none := by
  cases hk : K b o with
  | none => rfl
  | some v => have := g.know b o v hk; simp [World.cell?, h] at this

theorem WP.rangeFunc {X : Type} {g : Operand} {ps : Array Tmp} {asg body : Code} {f : FuncId} {lb : List LV} {Q : Post} (hgv : ev e g = .fn f [] lb) (hen : Enters P f) (hB : ∀ d, (B d).2 = none)
    (encs : X → List LV) (hlen : ∀ x, (encs x).length = ps.size) (J : List X → OHeap → Prop) (Jx : Ex → OHeap → Prop) (S : List X → Prop) (Ok : List X → X → Prop) (h0 : J [] H)
    (iter : ∀ (l : Nat) (o : LO) (J' : List X → OHeap → Prop) (Jx' : OHeap → Prop), H l = none →
      (∀ pre x H', Ok pre x → J' pre H' → YieldL P l (encs x) H' fun r H'' => (r = .bool true ∧ J' (pre ++ [x]) H'') ∨ (r = .bool false ∧ Jx' H'')) →
      J' [] (setH H l o) → CallL P f (.yld l :: lb) (setH H l o) fun r H' => (∃ xs, S xs ∧ J' xs H') ∨ Jx' H')
    (round : ∀ (l : Nat) pre x H', Ok pre x → J pre H' → WP P (some l) N asg (AsgQ P (some l) N body (RndQ (J (pre ++ [x])) Jx)) (setps e ps.toList (encs x)) B H')
    (done : ∀ xs H', S xs → J xs H' → Q .norm e B H') (stop : ∀ z H', z ≠ .norm → Jx z H' → Q z e B H') : WP P none N (.rangeFunc g ps asg body) Q e B H := by
  intro hd n m K jj w a g0 t d
  simp only [dstOk, Bool.and_eq_true, List.all_eq_true, decide_eq_true_eq] at hd
  obtain ⟨⟨hps, hda⟩, hdb⟩ := hd
  obtain ⟨ws, hev, hws⟩ : ∃ ws : List Value, a.eval g = .func (.func f) #[] ws.toArray ∧ Rs K lb ws := by
    have r := t.ev g
    rw [hgv] at r
    have r' : R K (.fn f [] lb) (a.eval g) := r
    generalize a.eval g = u at r'
    cases r' with
    | fn _ _ _ us ws hl hm h h' =>
      have : us = [] := List.eq_nil_of_length_eq_zero (by simpa using hl)
      subst this
      exact ⟨ws, rfl, hm, h'⟩
  refine wpIn_rangeFunc ?_
  intro fn hfn
  obtain ⟨rec, hrec⟩ : ∃ rec : LoopState → Option Code → Loop, rec = fun st pe => { state := st, pending := pe, fn, tmps := a.tmps, params := ps, assign := asg, body, defers := w.heap.size } := ⟨_, rfl⟩
  obtain ⟨l, hl⟩ : ∃ l, l = w.heap.size + 1 := ⟨_, rfl⟩
  obtain ⟨W1, hW1⟩ : ∃ W1, (w.alloc (.deferred (some []))).alloc (.loop (rec .ready none)) = W1 := ⟨_, rfl⟩
  have hsz1 : W1.heap.size = w.heap.size + 2 := by rw [← hW1]; simp
  have hold1 : ∀ b, b < w.heap.size → W1.heap[b]? = w.heap[b]? := fun b hb => by
    rw [← hW1]; exact (RowKit.Below.heap_alloc _ _ _ (by simp; omega)).trans (RowKit.Below.heap_alloc _ _ _ hb)
  have hL1 : W1.heap[l]? = some (.loop (rec .ready none)) := by
    rw [← hW1, hl]; have := World.alloc_heap_new (w.alloc (.deferred (some []))) (.loop (rec .ready none)); rwa [World.size_alloc] at this
  have hK1 : W1.heap[w.heap.size]? = some (.deferred (some [])) := by
    rw [← hW1]; exact (RowKit.Below.heap_alloc _ _ _ (by simp)).trans (World.alloc_heap_new w _)
  have hHlt : ∀ b, (H b).isSome = true → b < w.heap.size := fun b hb => g0.lt (.inl hb)
  have hHl : H l = none := by
    cases hh : H l with
    | none => rfl
    | some o => have := hHlt l (by simp [hh]); omega
  have hHD : H w.heap.size = none := by
    cases hh : H w.heap.size with
    | none => rfl
    | some o => have := hHlt w.heap.size (by simp [hh]); omega
  have hKhi : ∀ b i, w.heap.size ≤ b → K b i = none := fun b i hb => by
    cases hk : K b i with
    | none => rfl
    | some v => have := g0.klt hk; omega
  have g1 : Good K id nobox H W1 := by rw [← hW1]; exact (g0.nobox.alloc _).alloc _
  have gs : Good K id nobox (setH H l (.blob (.loop (rec .ready none)) K)) W1 :=
    g1.addH (fun h => by have := dom_nobox.1 h; rw [hHl] at this; cases this) (fun i => hKhi l i (by omega)) ⟨hL1, fun _ _ _ h => h⟩
  -- one round
  have hY : ∀ pre x H', Ok pre x → (∃ H1, H' = setH H1 l (.blob (.loop (rec .ready none)) K) ∧ H1 l = none ∧ J pre H1) → YieldL P l (encs x) H' fun r H'' =>
      (r = .bool true ∧ (∃ H1, H'' = setH H1 l (.blob (.loop (rec .ready none)) K) ∧ H1 l = none ∧ J (pre ++ [x]) H1)) ∨
      (r = .bool false ∧ (∃ H1 z, H'' = setH H1 l (.blob (.loop (rec .done (some (exCode z)))) K) ∧ H1 l = none ∧ z ≠ .norm ∧ Jx z H1)) := by
    rintro pre x H' hok ⟨H1, rfl, hl1, hj⟩ n2 K2 w2 vs g2 hrs
    obtain ⟨hr2, hKK⟩ : w2.heap[l]? = some (.loop (rec .ready none)) ∧ ∀ b' i v, K b' i = some v → K2 b' i = some v := g2.own l (.blob (.loop (rec .ready none)) K) (by simp)
    have hk2 : ∀ i, K2 l i = none := noK_of_loop g2 hr2
    have hlt2 : l < w2.heap.size := (Array.getElem?_eq_some_iff.1 hr2).1
    have g2' : Good K2 jj B H1 w2 := by
      have := (g2.delH l).1
      rw [delH_setH hl1] at this
      exact this.dead hB
    have hvl : vs.length = ps.size := by rw [hrs.1, hlen]
    have hy := run_yield (P := P) (args := vs.toArray) hr2 (by rw [hrec]; simpa using hvl)
    rw [hrec] at hy
    refine ⟨fn, _, asg, body, hy, roundIn_of_wpIn trivial ?_⟩
    clear hy
    have te : TE K2 jj B N (setps e ps.toList (encs x)) ((ps.zip vs.toArray).foldl (fun t pv => t.setIfInBounds pv.1 pv.2) a.tmps) := by
      have := TE.setps ps.toList (encs x) vs e a.tmps (t.mono hKK) hps hrs (by simpa using hlen x)
      rw [← Array.foldl_toList, Array.toList_zip]
      exact this
    refine wpIn_mono (round l pre x H1 hok hj hda n2 w2.heap.size K2 jj w2 { tmps := _, defers := [] } g2' te (Dok.nil _ (Nat.le_refl _))) ?_
    rintro ex a3 wa ⟨z, K3, jj3, e3, B3, H3, rfl, g3, t3, d3, f3, hq3⟩
    cases z with
    | exit i => exact hq3.elim
    | ret => exact hq3.elim
    | norm =>
      have hnd2 : ¬ dom H1 B jj l := fun h => by have := (dom_dead hB).1 h; rw [hl1] at this; cases this
      have hra : wa.heap[l]? = some (.loop (rec .ready none)) := by rw [f3.old l hlt2 hnd2]; exact hr2
      have hlta : l < wa.heap.size := (Array.getElem?_eq_some_iff.1 hra).1
      have hnd3 : ¬ dom H3 B3 jj3 l := fun h => (f3.newD l h).elim hnd2 (fun h => by omega)
      have hk3 : ∀ i, K3 l i = none := noK_of_loop g3 hra
      refine ⟨_, run_beginRound hra (by rw [hrec]), ?_⟩
      rw [putObj_setOb]
      refine wpIn_mono (hq3 hdb n2 w2.heap.size K3 jj3 (Lv.setOb wa l (.loop { rec .ready none with state := .busy })) a3 (g3.setOb hnd3 hk3) t3 (d3.setOb hra)) ?_
      rintro ex a4 wc ⟨z, K4, jj4, e4, B4, H4, rfl, g4, t4, d4, f4, hq4⟩
      have hrc : wc.heap[l]? = some (.loop { rec .ready none with state := .busy }) := by
        rw [f4.old l (by rw [setOb_size]; exact hlta) hnd3]; exact setOb_same hlta
      have hltc : l < wc.heap.size := (Array.getElem?_eq_some_iff.1 hrc).1
      have hnd4 : ¬ dom H4 B4 jj4 l := fun h => (f4.newD l h).elim hnd3 (fun h => by rw [setOb_size] at h; omega)
      have hH4 : H4 l = none := by
        cases hh : H4 l with
        | none => rfl
        | some o => exact absurd (.inl (by simp [hh])) hnd4
      have hk4 : ∀ i, K4 l i = none := noK_of_loop g4 hrc
      have fin : ∀ (o : Obj), Good K4 id nobox (setH H4 l (.blob o K)) (Lv.setOb wc l o) ∧ Fr (dom (setH H1 l (.blob (.loop (rec .ready none)) K)) nobox id) w2 K2 (dom (setH H4 l (.blob o K)) nobox id) (Lv.setOb wc l o) K4 := fun o => by
        have hle : K.le K4 := fun b i v h => f4.le _ _ _ (f3.le _ _ _ (hKK b i v h))
        have hd1 : ∀ b, dom H1 B jj b → dom (setH H1 l (.blob (.loop (rec .ready none)) K)) nobox id b := fun b h => dom_nobox.2 (by
          simp only [setH_apply]; split
          · rfl
          · exact (dom_dead hB).1 h)
        refine ⟨((g4.nobox.setOb (fun h => hnd4 (.inl (dom_nobox.1 h))) hk4).addH (fun h => hnd4 (.inl (dom_nobox.1 h))) hk4 ⟨setOb_same hltc, hle⟩), ?_⟩
        refine ⟨f4.os.trans f3.os, f4.tape.trans f3.tape, f4.output.trans f3.output, ?_, fun b hb hn => ?_, Know.le_trans f3.le f4.le, fun b i h1 h2 => ?_, fun b h => ?_⟩
        · have h1 := f3.size; have h2 := f4.size; rw [setOb_size] at h2 ⊢; omega
        · have hbl : b ≠ l := fun e => by subst e; exact hn (dom_nobox.2 (by simp))
          have hn1 : ¬ dom H1 B jj b := fun h => hn (hd1 b h)
          have hn3 : ¬ dom H3 B3 jj3 b := fun h => (f3.newD b h).elim hn1 (fun h => by omega)
          have hs := f3.size
          rw [setOb_other hbl, f4.old b (by rw [setOb_size]; omega) hn3, setOb_other hbl, f3.old b hb hn1]
        · cases hk : K3 b i with
          | some v => exact (f3.newK b i h1 (by simp [hk])).imp (hd1 b) id
          | none =>
            rcases f4.newK b i hk h2 with h | h
            · exact (f3.newD b h).imp (hd1 b) id
            · right; have := f3.size; rw [setOb_size] at h; omega
        · have h := dom_nobox.1 h
          by_cases hbl : b = l
          · subst hbl; exact .inl (dom_nobox.2 (by simp))
          · simp only [setH_apply, if_neg hbl] at h
            rcases f4.newD b (.inl h) with h | h
            · exact (f3.newD b h).imp (hd1 b) id
            · right; have := f3.size; rw [setOb_size] at h; omega
      cases z with
      | norm =>
        refine ⟨_, _, run_endRound (P := P) none hrc, .bool true, .bool true, K4, setH H4 l (.blob (.loop (rec .ready none)) K), rfl, ?_, .bool true, ?_, .inl ⟨rfl, H4, rfl, hH4, hq4⟩⟩
        · have := (fin (.loop (rec .ready none))).1
          rw [putObj_setOb]; rw [hrec] at this ⊢; exact this
        · have := (fin (.loop (rec .ready none))).2
          rw [putObj_setOb]; rw [hrec] at this ⊢; exact this
      | ret =>
        refine ⟨_, _, run_endRound (P := P) (some .ret) hrc, .bool false, .bool false, K4, setH H4 l (.blob (.loop (rec .done (some .ret))) K), rfl, ?_, .bool false, ?_, .inr ⟨rfl, H4, .ret, rfl, hH4, by simp, hq4⟩⟩
        · have := (fin (.loop (rec .done (some .ret)))).1
          rw [putObj_setOb]; rw [hrec] at this ⊢; exact this
        · have := (fin (.loop (rec .done (some .ret)))).2
          rw [putObj_setOb]; rw [hrec] at this ⊢; exact this
      | exit i =>
        refine ⟨_, _, run_endRound (P := P) (some (.exit i)) hrc, .bool false, .bool false, K4, setH H4 l (.blob (.loop (rec .done (some (.exit i)))) K), rfl, ?_, .bool false, ?_, .inr ⟨rfl, H4, .exit i, rfl, hH4, by simp, hq4⟩⟩
        · have := (fin (.loop (rec .done (some (.exit i))))).1
          rw [putObj_setOb]; rw [hrec] at this ⊢; exact this
        · have := (fin (.loop (rec .done (some (.exit i))))).2
          rw [putObj_setOb]; rw [hrec] at this ⊢; exact this
  have hcall := iter l (.blob (.loop (rec .ready none)) K) (fun pre H' => ∃ H1, H' = setH H1 l (.blob (.loop (rec .ready none)) K) ∧ H1 l = none ∧ J pre H1)
    (fun H' => ∃ H1 z, H' = setH H1 l (.blob (.loop (rec .done (some (exCode z)))) K) ∧ H1 l = none ∧ z ≠ .norm ∧ Jx z H1) hHl hY ⟨H, rfl, hHl, h0⟩
  have hcall := hcall.enter hen
  obtain ⟨fn2, hfn2, hbody2, hname2⟩ := hcall.1
  have hbn : fn2.body.isNone = false := by cases hb : fn2.body with | none => simp [hb] at hbody2 | some _ => rfl
  refine ⟨l, [{ target := .collected w.heap.size, args := #[] }], W1, { target := .fn (.func f) ws.toArray, args := #[.func (.yield l) #[] #[]] }, W1, f, ((.func (.yield l) #[] #[]) :: ws).toArray, W1, ?_, ?_, fun _ _ => trivial, ?_, fun h => by simp at h, ?_⟩
  · rw [← hW1, hrec, hl]; exact run_enterLoop_outer _ _ _ _ _
  · simp only [resolve, hev]
    simp [go_sem]
  · simp only [invoke, callFunc, Sem.run_bind, run_program, Result.andThen_ok, hfn2, hname2, hbn, if_false, Bool.false_eq_true, Sem.run_pure]
    congr 2
    apply Array.ext'; simp
  · refine (callsIn_wide (n := n - 1)).2 ((hcall.2 K W1 _ gs (Rs.cons (.yld l) hws)).mono ?_)
    rintro en W2 ⟨v, x, K', H', rfl, g', _, fr, hq⟩
    -- behind the iterator
    have hDn : ¬ dom (setH H l (.blob (.loop (rec .ready none)) K)) nobox id w.heap.size := fun h => by
      have := dom_nobox.1 h
      simp only [setH_apply, if_neg (show ¬ w.heap.size = l by omega), hHD] at this
      cases this
    have hD2 : W2.heap[w.heap.size]? = some (.deferred (some [])) := by rw [fr.old _ (by omega) hDn]; exact hK1
    have key : ∀ (H1 : OHeap) (r2 : Loop) (o : Obj), H' = setH H1 l (.blob (.loop r2) K) → H1 l = none → W2.heap[l]? = some (.loop r2) ∧
        Good K' jj B H1 (Lv.setOb W2 l o) ∧ TE K' jj B N e a.tmps ∧ Dok m (dom H1 B jj) (Lv.setOb W2 l o) ([{ target := .collected w.heap.size, args := #[] }] ++ a.defers) ∧ Fr (dom H B jj) w K (dom H1 B jj) (Lv.setOb W2 l o) K' := by
      rintro H1 r2 o rfl hl1
      obtain ⟨hr2, hKK⟩ : W2.heap[l]? = some (.loop r2) ∧ ∀ b' i v, K b' i = some v → K' b' i = some v := g'.own l (.blob (.loop r2) K) (by simp)
      have hlt2 : l < W2.heap.size := (Array.getElem?_eq_some_iff.1 hr2).1
      have gd : Good K' id nobox H1 W2 := by have := (g'.delH l).1; rwa [delH_setH hl1] at this
      have hsz := fr.size
      have hnew : ∀ b, (H1 b).isSome = true → (H b).isSome = true ∨ w.heap.size + 2 ≤ b := fun b hb => by
        have hbl : b ≠ l := fun e => by subst e; rw [hl1] at hb; cases hb
        rcases fr.newD b (dom_nobox.2 (by simp only [setH_apply, if_neg hbl]; exact hb)) with h | h
        · left; have := dom_nobox.1 h; simpa only [setH_apply, if_neg hbl] using this
        · right; omega
      have hold : ∀ b, b < w.heap.size → ¬ (H b).isSome = true → (Lv.setOb W2 l o).heap[b]? = w.heap[b]? := fun b hb hn => by
        have hbl : b ≠ l := by omega
        rw [setOb_other hbl, fr.old b (by omega) (fun h => hn (by have := dom_nobox.1 h; simpa only [setH_apply, if_neg hbl] using this)), hold1 b hb]
      refine ⟨hr2, (gd.setOb (fun h => by have := dom_nobox.1 h; rw [hl1] at this; cases this) (noK_of_loop gd hr2)).dead hB, t.mono hKK, ?_, ⟨?_, ?_, ?_, ?_, fun b hb hn => hold b hb (fun h => hn (.inl h)), hKK, fun b i h1 h2 => ?_, fun b h => ?_⟩⟩
      · obtain ⟨hm, bs, h1, h2, h3⟩ := d
        refine ⟨by rw [setOb_size]; omega, w.heap.size :: bs, by rw [h1]; rfl, List.nodup_cons.2 ⟨fun h => ?_, h2⟩, fun b hb => ?_⟩
        · have := (Array.getElem?_eq_some_iff.1 (h3 _ h).2.2).1; omega
        · rcases List.mem_cons.1 hb with rfl | hb
          · refine ⟨hm, fun h => ?_, by rw [setOb_other (by omega)]; exact hD2⟩
            rcases hnew _ ((dom_dead hB).1 h) with h | h
            · rw [hHD] at h; cases h
            · omega
          · obtain ⟨a1, a2, a3⟩ := h3 b hb
            have hblt := (Array.getElem?_eq_some_iff.1 a3).1
            have hbn : ¬ (H b).isSome = true := fun h => a2 (.inl h)
            refine ⟨a1, fun h => ?_, by rw [hold b hblt hbn]; exact a3⟩
            rcases hnew _ ((dom_dead hB).1 h) with h | h
            · exact hbn h
            · omega
      · rw [show (Lv.setOb W2 l o).os = W2.os from rfl, fr.os, ← hW1]; rfl
      · rw [show (Lv.setOb W2 l o).tape = W2.tape from rfl, fr.tape, ← hW1]; rfl
      · rw [show (Lv.setOb W2 l o).output = W2.output from rfl, fr.output, ← hW1]; rfl
      · rw [setOb_size]; omega
      · rcases fr.newK b i h1 h2 with h | h
        · have h := dom_nobox.1 h
          by_cases hbl : b = l
          · right; omega
          · left; left; simpa only [setH_apply, if_neg hbl] using h
        · right; omega
      · rcases hnew _ ((dom_dead hB).1 h) with h | h
        · exact .inl (.inl h)
        · right; omega
    rcases hq with ⟨xs, hS, H1, hH', hl1, hj⟩ | ⟨H1, z, hH', hl1, hz, hj⟩
    · obtain ⟨k1, k2, k3, k4, k5⟩ := key H1 _ (.loop { rec .ready none with state := .exhausted }) hH' hl1
      refine ⟨none, _, by have := run_endLoop (P := P) k1 (by rw [hrec]; simp); rw [hrec] at this; exact this, ?_⟩
      rw [hrec] at k2 k4 k5
      exact ⟨.norm, K', jj, e, B, H1, rfl, k2, k3, k4, k5, done xs H1 hS hj⟩
    · obtain ⟨k1, k2, k3, k4, k5⟩ := key H1 _ (.loop { rec .done (some (exCode z)) with state := .exhausted }) hH' hl1
      refine ⟨some (exCode z), _, by have := run_endLoop (P := P) k1 (by rw [hrec]; simp); rw [hrec] at this; exact this, ?_⟩
      rw [hrec] at k2 k4 k5
      have hs := stop z H1 hz hj
      cases z with
      | norm => exact absurd rfl hz
      | ret => exact wpIn_ret ⟨.ret, K', jj, e, B, H1, rfl, k2, k3, k4, k5, hs⟩
      | exit i => exact wpIn_exit ⟨.exit i, K', jj, e, B, H1, rfl, k2, k3, k4, k5, hs⟩
end
end Go.Lv
/- Lv, part Z: the operations on maps, for simp. Over any program; no condition. -/
namespace Go.Lv
open Go
set_option linter.unusedVariables false
set_option linter.unusedSimpArgs false

section
variable {P : Program} {T : Tab} {ops : Array Oper} {dst : Option Tmp} {ty : TypeId} {pos : String} {af : Array Edge} {r : List Oper} {Q : KPost} {e : Env} {B : Box} {H : OHeap} {R1 : LV → OHeap → Prop}

@[simp] theorem keyish_int (k : IntKind) : (TK.int k).keyish = true := rfl
@[simp] theorem keyish_str : TK.str.keyish = true := rfl
@[simp] theorem keyish_bool : TK.bool.keyish = true := rfl

/-- make. -/
def mmK (H : OHeap) (R1 : LV → OHeap → Prop) : Prop := ∀ b, H b = none → R1 (.mp b) (setH H b (.map [] 0))
@[simp↓] theorem vcO_makeMap (t : TypeId) : vcO P T ops (⟨dst, .makeMap t none, ty, pos, af, none⟩ :: r) Q e B H = mmK H (kont P T ops r dst Q e B) := rfl

/-- m[k] = v. -/
def mu3 (x : Option (Option (Nat × LV))) (es : List (LV × LV × Nat)) (c b : Nat) (k v : LV) (H : OHeap) (R1 : LV → OHeap → Prop) : Prop := match x with
  | some none => R1 .any (setH H b (.map (es ++ [(k, v, c)]) (c + 1)))
  | some (some (i, _)) => R1 .any (setH H b (.map (es.modify i fun x => (x.1, v, x.2.2)) c))
  | none => False
def muO (o : Option LO) (q : TK) (b : Nat) (k v : LV) (H : OHeap) (R1 : LV → OHeap → Prop) : Prop := match o with
  | some (.map es c) => (q.keyish = true ∧ k.glob = true ∧ v.glob = true) ∧ mu3 (findL q k es 0) es c b k v H R1
  | _ => False
def mu2 (ki : Option TI) (m k v : LV) (H : OHeap) (R1 : LV → OHeap → Prop) : Prop := match ki, m with
  | some ki, .mp b => muO (H b) ki.kind b k v H R1
  | _, _ => False
def mu1 (ti : Option TI) (T : Tab) (m k v : LV) (H : OHeap) (R1 : LV → OHeap → Prop) : Prop := match ti with
  | some ti => match ti.kind with
    | .map kt _ => mu2 (T kt) m k v H R1
    | _ => False
  | none => False
@[simp] theorem mu3_none (es : List (LV × LV × Nat)) (c b : Nat) (k v : LV) : mu3 (some none) es c b k v H R1 = R1 .any (setH H b (.map (es ++ [(k, v, c)]) (c + 1))) := rfl
@[simp] theorem mu3_some (es : List (LV × LV × Nat)) (c b i : Nat) (k v x : LV) : mu3 (some (some (i, x))) es c b k v H R1 = R1 .any (setH H b (.map (es.modify i fun x => (x.1, v, x.2.2)) c)) := rfl
@[simp] theorem muO_map (q : TK) (es : List (LV × LV × Nat)) (c b : Nat) (k v : LV) : muO (some (.map es c)) q b k v H R1 = ((q.keyish = true ∧ k.glob = true ∧ v.glob = true) ∧ mu3 (findL q k es 0) es c b k v H R1) := rfl
@[simp] theorem mu2_mp (q : TK) (n y : Nat) (z : List LV) (b : Nat) (k v : LV) : mu2 (some ⟨q, n, y, z⟩) (.mp b) k v H R1 = muO (H b) q b k v H R1 := rfl
@[simp] theorem mu1_map (kt et : TypeId) (n y : Nat) (z : List LV) (m k v : LV) : mu1 (some ⟨.map kt et, n, y, z⟩) T m k v H R1 = mu2 (T kt) m k v H R1 := rfl
@[simp↓] theorem vcO_mapUpdate (t : TypeId) (m k v : Operand) : vcO P T ops (⟨dst, .mapUpdate t m k v, ty, pos, af, none⟩ :: r) Q e B H = mu1 (T t) T (ev e m) (ev e k) (ev e v) H (kont P T ops r dst Q e B) := by
  show mapS T ⟨dst, .mapUpdate t m k v, ty, pos, af, none⟩ e H (fun x H' => vcO P T ops r Q (updo e dst x) B H') = _
  unfold mapS mu1 mu2 muO mu3
  dsimp only
  cases T t with
  | none => rfl
  | some ti =>
    dsimp only
    cases ti.kind <;> rfl

/-- m[k]. -/
def lu3 (x : Option (Option (Nat × LV))) (ei : TI) (ok : Bool) (H : OHeap) (R1 : LV → OHeap → Prop) : Prop := match x with
  | some none => (match zeroOne ei with | some z => R1 (okL ok z false) H | none => False)
  | some (some (_, v)) => R1 (okL ok v true) H
  | none => False
def luE (q : TK) (ei : TI) (o : Option (List (LV × LV × Nat))) (k : LV) (ok : Bool) (H : OHeap) (R1 : LV → OHeap → Prop) : Prop := match o with
  | some es => lu3 (findL q k es 0) ei ok H R1
  | none => False
def lu2 (ki ei : Option TI) (o : Option (List (LV × LV × Nat))) (k : LV) (ok : Bool) (H : OHeap) (R1 : LV → OHeap → Prop) : Prop := match ki, ei with
  | some ki, some ei => (ki.kind.keyish = true ∧ k.glob = true) ∧ luE ki.kind ei o k ok H R1
  | _, _ => False
def entsOf (x : LV) (H : OHeap) : Option (List (LV × LV × Nat)) := match x with | .nilm => some [] | .mp b => (match H b with | some (.map es _) => some es | _ => none) | _ => none
def entO : Option LO → Option (List (LV × LV × Nat)) | some (.map es _) => some es | _ => none
@[simp] theorem entsOf_nilm : entsOf .nilm H = some [] := rfl
@[simp] theorem entsOf_mp (b : Nat) : entsOf (.mp b) H = entO (H b) := by
  cases h : H b with
  | none => simp [entsOf, entO, h]
  | some o => cases o <;> simp [entsOf, entO, h]
@[simp] theorem entO_map (es : List (LV × LV × Nat)) (c : Nat) : entO (some (.map es c)) = some es := rfl
def lu1 (ti : Option TI) (T : Tab) (o : Option (List (LV × LV × Nat))) (k : LV) (ok : Bool) (H : OHeap) (R1 : LV → OHeap → Prop) : Prop := match ti with
  | some ti => match ti.kind with
    | .map kt et => lu2 (T kt) (T et) o k ok H R1
    | _ => False
  | none => False
@[simp] theorem lu3_none (q : TK) (n y : Nat) (z : LV) (ok : Bool) (hq : q.agg = false) : lu3 (some none) ⟨q, n, y, [z]⟩ ok H R1 = R1 (okL ok z false) H := by simp [lu3, zeroOne, hq]
@[simp] theorem lu3_some (ei : TI) (i : Nat) (v : LV) (ok : Bool) : lu3 (some (some (i, v))) ei ok H R1 = R1 (okL ok v true) H := rfl
@[simp] theorem luE_some (q : TK) (ei : TI) (es : List (LV × LV × Nat)) (k : LV) (ok : Bool) : luE q ei (some es) k ok H R1 = lu3 (findL q k es 0) ei ok H R1 := rfl
@[simp] theorem lu2_some (q : TK) (n y : Nat) (z : List LV) (ei : TI) (o : Option (List (LV × LV × Nat))) (k : LV) (ok : Bool) : lu2 (some ⟨q, n, y, z⟩) (some ei) o k ok H R1 = ((q.keyish = true ∧ k.glob = true) ∧ luE q ei o k ok H R1) := rfl
@[simp] theorem lu1_map (kt et : TypeId) (n y : Nat) (z : List LV) (o : Option (List (LV × LV × Nat))) (k : LV) (ok : Bool) : lu1 (some ⟨.map kt et, n, y, z⟩) T o k ok H R1 = lu2 (T kt) (T et) o k ok H R1 := rfl
@[simp↓] theorem vcO_lookup (t : TypeId) (x k : Operand) (ok : Bool) : vcO P T ops (⟨dst, .lookup t x k ok, ty, pos, af, none⟩ :: r) Q e B H = lu1 (T t) T (entsOf (ev e x) H) (ev e k) ok H (kont P T ops r dst Q e B) := by
  show mapS T ⟨dst, .lookup t x k ok, ty, pos, af, none⟩ e H (fun x H' => vcO P T ops r Q (updo e dst x) B H') = _
  unfold mapS lu1 lu2 luE lu3 entsOf
  dsimp only
  cases T t with
  | none => rfl
  | some ti =>
    dsimp only
    cases ti.kind <;> rfl

/-- A range over a map begins. -/
def rg2 (o : Option LO) (b : Nat) (H : OHeap) (R1 : LV → OHeap → Prop) : Prop := match o with
  | some (.map _ c) => ∀ r, H r = none → R1 (.ptr r 0) (setH H r (.iter b c [] c))
  | _ => False
def rg1 (ti : Option TI) (x : LV) (H : OHeap) (R1 : LV → OHeap → Prop) : Prop := match ti with
  | some ti => match ti.kind, x with
    | .map _ _, .mp b => rg2 (H b) b H R1
    | _, _ => False
  | none => False
@[simp] theorem rg1_mp (kt et : TypeId) (n y : Nat) (z : List LV) (b : Nat) : rg1 (some ⟨.map kt et, n, y, z⟩) (.mp b) H R1 = rg2 (H b) b H R1 := rfl
theorem rg2_map (es : List (LV × LV × Nat)) (c b : Nat) : rg2 (some (.map es c)) b H R1 = ∀ r, H r = none → R1 (.ptr r 0) (setH H r (.iter b c [] c)) := rfl
@[simp↓] theorem vcO_range (t : TypeId) (x : Operand) : vcO P T ops (⟨dst, .range t x, ty, pos, af, none⟩ :: r) Q e B H = rg1 (T t) (ev e x) H (kont P T ops r dst Q e B) := by
  show mapS T ⟨dst, .range t x, ty, pos, af, none⟩ e H (fun x H' => vcO P T ops r Q (updo e dst x) B H') = _
  unfold mapS rg1 rg2
  dsimp only
  cases T t with
  | none => rfl
  | some ti =>
    dsimp only
    cases ti.kind <;> rfl

/-- The next entry. -/
def nx1 (x : LV) (H : OHeap) (R1 : LV → OHeap → Prop) : Prop := match x with
  | .ptr r 0 => match H r with
    | some (.iter m since seen last) => match H m with
      | some (.map es c) => (seen = [] ∨ es = [] ∨ ∃ x ∈ es, x.2.2 < last) ∧
        ((∀ x ∈ es, x.2.2 ∉ seen → ¬ x.2.2 < since) → R1 (.tup [.bool false]) H) ∧
        ∀ x ∈ es, x.2.2 ∉ seen → R1 (.tup [.bool true, x.1, x.2.1]) (setH H r (.iter m since (seen ++ [x.2.2]) c))
      | _ => False
    | _ => False
  | _ => False
theorem nx1_intro {q m since last c : Nat} {seen : List Nat} {es : List (LV × LV × Nat)} (hq : H q = some (.iter m since seen last)) (hm : H m = some (.map es c)) (hns : seen = [] ∨ es = [] ∨ ∃ x ∈ es, x.2.2 < last)
    (h0 : (∀ x ∈ es, x.2.2 ∉ seen → ¬ x.2.2 < since) → R1 (.tup [.bool false]) H) (h1 : ∀ x ∈ es, x.2.2 ∉ seen → R1 (.tup [.bool true, x.1, x.2.1]) (setH H q (.iter m since (seen ++ [x.2.2]) c))) : nx1 (.ptr q 0) H R1 := by
  unfold nx1; simp only [hq, hm]; exact ⟨hns, h0, h1⟩
@[simp↓] theorem vcO_next (it : Operand) : vcO P T ops (⟨dst, .next it false, ty, pos, af, none⟩ :: r) Q e B H = nx1 (ev e it) H (kont P T ops r dst Q e B) := rfl
def en1 (x : LV) (H : OHeap) (R1 : LV → OHeap → Prop) : Prop := match x with
  | .ptr r 0 => match H r with
    | some (.iter m _ seen last) => match H m, seen.getLast? with
      | some (.map es c), some st => c = last ∧ match es.find? (fun x => x.2.2 == st) with
        | some x => R1 (.tup [x.1, x.2.1]) H
        | none => False
      | _, _ => False
    | _ => False
  | _ => False
theorem en1_intro {q m since c st : Nat} {seen : List Nat} {es : List (LV × LV × Nat)} {y : LV × LV × Nat} (hq : H q = some (.iter m since seen c)) (hm : H m = some (.map es c)) (hl : seen.getLast? = some st) (hy : es.find? (fun x => x.2.2 == st) = some y)
    (h : R1 (.tup [y.1, y.2.1]) H) : en1 (.ptr q 0) H R1 := by
  unfold en1; simp only [hq, hm, hl, hy]; exact ⟨trivial, h⟩
@[simp↓] theorem vcO_entry (it : Operand) : vcO P T ops (⟨dst, .entry it, ty, pos, af, none⟩ :: r) Q e B H = en1 (ev e it) H (kont P T ops r dst Q e B) := rfl
end
end Go.Lv
