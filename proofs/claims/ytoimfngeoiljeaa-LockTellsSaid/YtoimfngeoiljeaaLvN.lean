/- Lv, part N: what is owned is sealed, forgotten, named. Over any program; no condition. -/
import Derived.Test.YtoimfngeoiljeaaLvM
namespace Go.Lv
open Go
set_option linter.unusedVariables false
set_option linter.unusedSimpArgs false

section
variable {P : Program} {ρ : Option Nat} {N : Nat} {T : Tab} {e : Env} {B : Box} {H : OHeap} {K : Know} {jj : Nat → Nat} {w : World}

/-- A value in which a row of the call's own is read as sealed. -/
def sealV (b es : Nat) (cs : List LV) : LV → LV
  | .sl b' off l c => if b' = b ∧ off + l * es ≤ cs.length ∧ l ≤ c then .isl (decide (c = l)) es (chunks es l ((cs.drop off).take (l * es))) else .sl b' off l c
  | .ptr b' off => if b' = b ∧ off ≤ cs.length then .iptr (cs.drop off) else .ptr b' off
  | x => x
/-- .. and in a tuple. -/
def sealT (b es : Nat) (cs : List LV) : LV → LV
  | .tup vs => .tup (vs.map (sealV b es cs))
  | .agg vs => .agg (vs.map (sealV b es cs))
  | x => sealV b es cs x

theorem sealK (g : Good K jj B H w) {b n : Nat} {cs : List LV} (hH : H b = some (.cells cs n)) : ∃ K', K.le K' ∧ Good K' jj B (delH H b) w ∧ Fr (dom H B jj) w K (dom (delH H b) B jj) w K' ∧
    ∃ vs : List Value, Rs K' cs vs ∧ ∀ (i : Nat) v, vs[i]? = some v → K' b i = some v := by
  obtain ⟨arr, T, fz, hb, hsz, hle, hcs, hfz⟩ := g.own b _ hH
  obtain ⟨g1, f1⟩ := g.delH b
  have hKb : ∀ o, K b o = none := fun o => g.apart b o (.inl (by rw [hH]; rfl))
  have hle' : K.le (fun b' o => if b' = b then arr[o]? else K b' o) := fun b' o v hv => by
    have : b' ≠ b := fun x => by subst x; rw [hKb] at hv; simp at hv
    simp [this, hv]
  refine ⟨fun b' o => if b' = b then arr[o]? else K b' o, hle', ⟨fun b' o v hv => ?_, fun b' o h => (g1.own b' o h).mono hle', fun b' o h => ?_, fun d ver cs' h => (g1.box d ver cs' h).mono hle', g1.boxH, g1.boxne⟩, ⟨f1.os, f1.tape, f1.output, f1.size, f1.old, hle', fun b' o h h' => ?_, f1.newD⟩, arr.toList.take cs.length, ⟨?_, fun i x v hx hv => ?_⟩, fun i v hv => ?_⟩
  · by_cases hx : b' = b
    · subst hx; simp at hv
      unfold World.cell?
      rw [hb]; simpa using hv
    · simp [hx] at hv; exact g.know b' o v hv
  · have hne : b' ≠ b := fun x => by
      subst x
      rcases h with h | ⟨d, h, h'⟩
      · simp at h
      · have := g.boxH d h; rw [h', hH] at this; simp at this
    simp [hne, g1.apart b' o h]
  · by_cases hx : b' = b
    · subst hx; exact .inl (.inl (by rw [hH]; rfl))
    · simp [hx, h] at h'
  · simp; omega
  · obtain ⟨v', h1, _, h3⟩ := hcs i x hx
    rw [List.getElem?_take] at hv
    split at hv
    · have : v' = v := by simp at hv; rw [h1] at hv; simpa using hv
      subst this; exact h3.mono hle'
    · simp at hv
  · rw [List.getElem?_take] at hv
    split at hv
    · simpa using hv
    · simp at hv

theorem R.sealB {b es : Nat} {cs : List LV} {vs : List Value} (hr : Rs K cs vs) (hK : ∀ (i : Nat) v, vs[i]? = some v → K b i = some v) {x : LV} {v : Value} (h : R K x v) : R K (sealV b es cs x) v := by
  cases h <;> try (simp only [sealV]; constructor <;> assumption)
  · rename_i b' o
    simp only [sealV]
    split
    · rename_i hc
      obtain ⟨rfl, hc⟩ := hc
      have hd := hr.drop o
      refine .iptr _ b' o (fun j => (vs[o + j]?).getD undef) (fun j y hy => ?_) (fun j y hy => ?_)
      · obtain ⟨u, h1, h2⟩ := hd.get hy
        rw [List.getElem?_drop] at h1
        rw [h1]; exact hK _ _ h1
      · obtain ⟨u, h1, h2⟩ := hd.get hy
        rw [List.getElem?_drop] at h1
        rw [h1]; exact h2
    · exact .ptr _ _
  · rename_i b' o l c
    simp only [sealV]
    split
    · rename_i hc
      obtain ⟨rfl, hc, hlc⟩ := hc
      have hd := (hr.drop o).take (l * es)
      refine R.chunks (by simp; omega) hd (fun i v hv => ?_) _ hlc (fun h => by simpa using h)
      rw [List.getElem?_take] at hv
      split at hv
      · rw [List.getElem?_drop] at hv; exact hK _ _ hv
      · simp at hv
    · exact .sl _ _ _ _

theorem Rs.sealB {b es : Nat} {cs : List LV} {vs : List Value} (hr : Rs K cs vs) (hK : ∀ (i : Nat) v, vs[i]? = some v → K b i = some v) {xs : List LV} {us : List Value} (h : Rs K xs us) : Rs K (xs.map (sealV b es cs)) us := by
  refine ⟨by rw [h.1, List.length_map], fun i x v hx hv => ?_⟩
  rw [List.getElem?_map] at hx
  obtain ⟨y, hy, rfl⟩ := Option.map_eq_some_iff.1 hx
  exact (h.2 i y v hy hv).sealB hr hK

theorem R.sealT {b es : Nat} {cs : List LV} {vs : List Value} (hr : Rs K cs vs) (hK : ∀ (i : Nat) v, vs[i]? = some v → K b i = some v) {x : LV} {v : Value} (h : R K x v) : R K (Lv.sealT b es cs x) v := by
  cases x with
  | tup xs =>
    cases h with | tup _ us hl hh =>
      have := Rs.sealB (es := es) hr hK (xs := xs) (us := us) ⟨hl, hh⟩
      exact .tup _ _ this.1 this.2
  | agg xs =>
    cases h with | agg _ us hl hh =>
      have := Rs.sealB (es := es) hr hK (xs := xs) (us := us) ⟨hl, hh⟩
      exact .agg _ _ this.1 this.2
  | _ => exact R.sealB (es := es) hr hK h

theorem Wk.sealB {b n : Nat} {cs : List LV} (es : Nat) (hH : H b = some (.cells cs n)) (r : LV) : Wk r H (Lv.sealT b es cs r) (delH H b) := fun K w v g hr => by
  obtain ⟨K', hle, g', f, vs, h1, h2⟩ := sealK g hH
  exact ⟨K', g', (hr.mono hle).sealT h1 h2, f⟩

theorem Wk.del (b : Nat) (r : LV) : Wk r H r (delH H b) := fun K w v g hr => ⟨K, (g.delH b).1, hr, (g.delH b).2⟩

theorem Ends.wk {Q : LV → OHeap → Prop} {r r' : LV} {H' : OHeap} (h : Wk r H r' H') (h' : Ends Q r' H') : Ends Q r H := by
  obtain ⟨r'', H'', h1, h2⟩ := h'
  exact ⟨r'', H'', h.trans h1, h2⟩
theorem Ends.mono {Q Q' : LV → OHeap → Prop} {r : LV} (h : Ends Q r H) (hq : ∀ r H, Q r H → Q' r H) : Ends Q' r H := by
  obtain ⟨r', H', h1, h2⟩ := h
  exact ⟨r', H', h1, hq _ _ h2⟩

theorem delH_setH {b : Nat} {o : LO} (h : H b = none) : delH (setH H b o) b = H := by
  funext i; simp only [delH_apply, setH_apply]; split
  · rename_i hi; rw [hi, h]
  · rfl
theorem delH_none {b : Nat} (h : H b = none) : delH H b = H := by
  funext i; simp only [delH_apply]; split
  · rename_i hi; rw [hi, h]
  · rfl
theorem setH_setH {b : Nat} {o o' : LO} : setH (setH H b o) b o' = setH H b o' := by
  funext i; simp only [setH_apply]; split <;> rfl
theorem delH_setH_ne {b b' : Nat} {o : LO} (h : b ≠ b') : delH (setH H b o) b' = setH (delH H b') b o := by
  funext i; simp only [delH_apply, setH_apply]; split
  · rename_i hi; rw [if_neg (fun x => h (by rw [← x, hi]))]
  · rfl

theorem chunks_flatten {es : Nat} : ∀ (xs : List (List LV)), (∀ x ∈ xs, x.length = es) → chunks es xs.length xs.flatten = xs
  | [], _ => rfl
  | x :: xs, h => by
    have hx : x.length = es := h x (List.mem_cons_self ..)
    simp only [List.length_cons, chunks_succ, List.flatten_cons]
    rw [List.take_left' hx, List.drop_left' hx, chunks_flatten xs (fun y hy => h y (List.mem_cons_of_mem _ hy))]

/-- A row of whole elements is sealed as it stands. -/
theorem sealV_whole {b es c : Nat} {xs : List (List LV)} {rest : List LV} (he : ∀ x ∈ xs, x.length = es) (hc : xs.length ≤ c) :
    sealV b es (xs.flatten ++ rest) (.sl b 0 xs.length c) = .isl (decide (c = xs.length)) es xs := by
  have hl := flatten_length xs he
  simp only [sealV, true_and, Nat.zero_add, List.drop_zero, List.length_append, hl]
  rw [if_pos ⟨by omega, hc⟩, List.take_left' hl, chunks_flatten xs he]

/-! ### In the midst of a body -/

def sealE (b es : Nat) (cs : List LV) (e : Env) : Env := fun i => sealT b es cs (e i)
@[simp] theorem sealE_upd (b es : Nat) (cs : List LV) (d : Nat) (x : LV) : sealE b es cs (upd e d x) = upd (sealE b es cs e) d (sealT b es cs x) := by
  funext i; simp only [sealE, upd_apply]; split <;> rfl
@[simp] theorem sealE_apply (b es : Nat) (cs : List LV) (i : Nat) : sealE b es cs e i = sealT b es cs (e i) := rfl

theorem Below.sealB {b n : Nat} {cs : List LV} (es : Nat) (hH : H b = some (.cells cs n)) : Below (N := N) e (sealE b es cs e) B B H (delH H b) := fun K jj w tmps g t => by
  obtain ⟨K', hle, g', f, vs, h1, h2⟩ := sealK g hH
  refine ⟨K', jj, g', ⟨t.size, fun i => ?_⟩, f⟩
  have h := (t.get i).mono hle
  simp only [sealE]
  cases he : e i with
  | bp d ver off => rw [he] at h; exact h
  | _ => rw [he] at h; exact (R.sealT h1 h2 (h.r (by simp))).re

theorem Below.del (b : Nat) : Below (N := N) e e B B H (delH H b) := fun K jj w tmps g t => ⟨K, jj, (g.delH b).1, t, (g.delH b).2⟩

/-- Less is known of a slot. -/
theorem Below.any (i : Nat) : Below (N := N) e (upd e i .any) B B H H := fun K jj w tmps g t => ⟨K, jj, g, ⟨t.size, fun j => by
  simp only [upd_apply]; split
  · exact (R.any _).re
  · exact t.get j⟩, Fr.refl _ _ _⟩

/-- A private box is sealed: nobody writes it any more. -/
def iboxV (d ver : Nat) (cs : List LV) : LV → LV
  | .bp d' ver' off => if d' = d ∧ ver' = ver ∧ off ≤ cs.length then .iptr (cs.drop off) else .bp d' ver' off
  | x => x
def iboxE (d ver : Nat) (cs : List LV) (e : Env) : Env := fun i => iboxV d ver cs (e i)
@[simp] theorem iboxE_upd (d ver : Nat) (cs : List LV) (i : Nat) (x : LV) : iboxE d ver cs (upd e i x) = upd (iboxE d ver cs e) i (iboxV d ver cs x) := by
  funext j; simp only [iboxE, upd_apply]; split <;> rfl
@[simp] theorem iboxE_apply (d ver : Nat) (cs : List LV) (i : Nat) : iboxE d ver cs e i = iboxV d ver cs (e i) := rfl

theorem delB_dom (g : Good K jj B H w) (d : Nat) : ∀ x, dom H (delB B d) jj x → dom H B jj x := fun x h => by
  rcases h with h | ⟨d', h, h'⟩
  · exact .inl h
  · by_cases hx : d' = d
    · simp [hx] at h
    · exact .inr ⟨d', by simpa [hx] using h, h'⟩

theorem Good.delB (g : Good K jj B H w) (d : Nat) : Good K jj (Lv.delB B d) H w := {
  know := g.know
  own := g.own
  apart b o h := g.apart b o (delB_dom g d b h)
  box d' ver cs h := by
    by_cases hx : d' = d
    · simp [hx] at h
    · exact g.box d' ver cs (by simpa [hx] using h)
  boxH d' h := g.boxH d' (by by_cases hx : d' = d; simp [hx] at h; simpa [hx] using h)
  boxne d1 d2 h1 h2 := g.boxne d1 d2 (by by_cases hx : d1 = d; simp [hx] at h1; simpa [hx] using h1) (by by_cases hx : d2 = d; simp [hx] at h2; simpa [hx] using h2) }

theorem RE.delB {x : LV} {v : Value} {d : Nat} (h : RE K jj B x v) : RE K jj (Lv.delB B d) x v := by
  cases x <;> try exact h
  rename_i d' ver off
  obtain ⟨h1, h2⟩ := h
  by_cases hx : d' = d
  · subst hx; exact ⟨by simpa using h1, fun _ hs => by simp at hs⟩
  · exact ⟨by simpa [hx] using h1, fun hv hs => h2 (by simpa [hx] using hv) (by simpa [hx] using hs)⟩

theorem Below.ibox {d ver : Nat} {cs : List LV} (hB : B d = (ver, some cs)) : Below (N := N) e (iboxE d ver cs e) B (delB B d) H H := fun K jj w tmps g t => by
  obtain ⟨arr, T, fz, hb, hsz, hle, hcs, hfz⟩ := g.box d ver cs hB
  have hsome : (B d).2.isSome = true := by rw [hB]; rfl
  have hKb : ∀ o, K (jj d) o = none := fun o => g.apart (jj d) o (.inr ⟨d, hsome, rfl⟩)
  have g1 := g.delB d
  have hle' : K.le (fun b' o => if b' = jj d then arr[o]? else K b' o) := fun b' o v hv => by
    have : b' ≠ jj d := fun x => by subst x; rw [hKb] at hv; simp at hv
    simp [this, hv]
  refine ⟨fun b' o => if b' = jj d then arr[o]? else K b' o, jj, ⟨fun b' o v hv => ?_, fun b' o h => (g1.own b' o h).mono hle', fun b' o h => ?_, fun d ver cs' h => (g1.box d ver cs' h).mono hle', g1.boxH, g1.boxne⟩, ⟨t.size, fun i => ?_⟩,
    ⟨rfl, rfl, rfl, Nat.le_refl _, fun _ _ _ => rfl, hle', fun b' o h h' => ?_, fun b h => .inl (delB_dom g d b h)⟩⟩
  · by_cases hx : b' = jj d
    · subst hx; simp at hv
      unfold World.cell?
      rw [hb]; simpa using hv
    · simp [hx] at hv; exact g.know b' o v hv
  · have hne : b' ≠ jj d := fun x => by
      subst x
      rcases h with h | ⟨d', h, h'⟩
      · have := g.boxH d hsome; rw [this] at h; simp at h
      · by_cases hx : d' = d
        · simp [hx] at h
        · exact hx (g.boxne d' d (by simpa [hx] using h) hsome h')
    simp [hne, g1.apart b' o h]
  · have h := t.get i
    simp only [iboxE]
    cases he : e i with
    | bp d' ver' off =>
      rw [he] at h
      simp only [iboxV]
      split
      · rename_i hc
        obtain ⟨rfl, rfl, hc⟩ := hc
        have hv := h.2 (by rw [hB]) hsome
        rw [hv]
        refine R.re (.iptr _ (jj d') off (fun j => (arr[off + j]?).getD undef) (fun j y hy => ?_) (fun j y hy => ?_))
        · rw [List.getElem?_drop] at hy
          obtain ⟨v, h1, _, h3⟩ := hcs _ y hy
          simp [h1]
        · rw [List.getElem?_drop] at hy
          obtain ⟨v, h1, _, h3⟩ := hcs _ y hy
          simp only [h1]; exact h3.mono hle'
      · exact (RE.delB h).mono hle'
    | _ => rw [he] at h; exact ((h.r (by simp)).mono hle').re
  · by_cases hx : b' = jj d
    · subst hx; exact .inl (.inr ⟨d, hsome, rfl⟩)
    · simp [hx, h] at h'

/-- A private box gets a name. -/
def nboxV (d ver b : Nat) : LV → LV
  | .bp d' ver' off => if d' = d ∧ ver' = ver then .ptr b off else .bp d' ver' off
  | x => x
def nboxE (d ver b : Nat) (e : Env) : Env := fun i => nboxV d ver b (e i)
@[simp] theorem nboxE_upd (d ver b : Nat) (i : Nat) (x : LV) : nboxE d ver b (upd e i x) = upd (nboxE d ver b e) i (nboxV d ver b x) := by
  funext j; simp only [nboxE, upd_apply]; split <;> rfl
@[simp] theorem nboxE_apply (d ver b : Nat) (i : Nat) : nboxE d ver b e i = nboxV d ver b (e i) := rfl

theorem Good.nbox (g : Good K jj B H w) {d ver : Nat} {cs : List LV} (hB : B d = (ver, some cs)) : Good K jj (Lv.delB B d) (setH H (jj d) (.cells cs cs.length)) w ∧ H (jj d) = none ∧
    Fr (dom H B jj) w K (dom (setH H (jj d) (.cells cs cs.length)) (Lv.delB B d) jj) w K := by
  have hsome : (B d).2.isSome = true := by rw [hB]; rfl
  have hd : ∀ x, dom (setH H (jj d) (.cells cs cs.length)) (Lv.delB B d) jj x → dom H B jj x := fun x h => by
    rcases h with h | h
    · by_cases hx : x = jj d
      · exact .inr ⟨d, hsome, hx.symm⟩
      · exact .inl (by simpa [hx] using h)
    · exact delB_dom g d x (.inr h)
  refine ⟨⟨g.know, fun b o h => ?_, fun b o h => g.apart b o (hd b h), (g.delB d).box, fun d' h => ?_, (g.delB d).boxne⟩, g.boxH d hsome, (Fr.refl _ w K).weak hd⟩
  · by_cases hx : b = jj d
    · subst hx; simp at h; subst h; exact g.box d ver cs hB
    · simp [hx] at h; exact g.own b o h
  · have h1 := (g.delB d).boxH d' h
    have hne : d' ≠ d := fun x => by subst x; simp at h
    have : jj d' ≠ jj d := fun x => hne (g.boxne d' d (by simpa [hne] using h) hsome x)
    simp [this, h1]

theorem WP.nbox {c : Code} {Q : Post} {d ver : Nat} {cs : List LV} (hB : B d = (ver, some cs)) (h : ∀ b, H b = none → WP P ρ N c Q (nboxE d ver b e) (delB B d) (setH H b (.cells cs cs.length))) : WP P ρ N c Q e B H := by
  intro hd n m K jj w a g t dk
  obtain ⟨g', hn, f⟩ := g.nbox hB
  have hsome : (B d).2.isSome = true := by rw [hB]; rfl
  refine wpIn_mono (h (jj d) hn hd n m K jj w a g' ⟨t.size, fun i => ?_⟩ (dk.fr f)) fun _ _ _ hl => hl.fr f
  have h1 := t.get i
  simp only [nboxE]
  cases he : e i with
  | bp d' ver' off =>
    rw [he] at h1
    simp only [nboxV]
    split
    · rename_i hc
      obtain ⟨rfl, rfl⟩ := hc
      rw [h1.2 (by rw [hB]) hsome]
      exact (R.ptr _ _).re
    · exact RE.delB h1
  | _ => rw [he] at h1; exact (h1.r (by simp)).re

end
end Go.Lv
