/- Texts of this proof, put together: XeS. No condition. -/
import Derived.Test.YtllfbhmggfldoaaGreatDoorM7
/- Xe, part S: a body in chunks, with states between from which what is not reached is left out. Over any program; no condition. -/
namespace Go.Xv
open Go Go.Lv
set_option linter.unusedVariables false
set_option linter.unusedSimpArgs false
def takeS : Nat → Code → List Code
  | k + 1, .seq a b => a :: takeS k b
  | _, _ => []
def dropS : Nat → Code → Code
  | k + 1, .seq a b => dropS k b
  | _, c => c
def exL (T : Tab) (call : Cl) (dt : Nat → Option DR) : List Code → ET → XS → Option (ET × XS)
  | [], e, s => some (e, s)
  | c :: r, e, s => match exC T call dt (fun _ => none) true c e s with
    | some (.norm, e, s) => exL T call dt r e s
    | _ => none
/-- Less of the blocks, less of the slots. -/
def gcT (t : Tr XO) : List Nat → Tr XO
  | [] => .em
  | k :: r => Tr.set (k + 1) (gcT t r) k (t.get k)
def gcE (e : ET) : List Nat → ET
  | [] => .em
  | k :: r => eset (gcE e r) k (eget e k)
def gcR (slots keys : List Nat) : Option (ET × XS) → Option (ET × XS)
  | some (e, s) => some (gcE e slots, { s with t := gcT s.t keys })
  | none => none
section
variable {T : Tab} {P : Program} {N : Nat} {bs : LP} {m : VM} {s s' : XS} {B : Box} {H : OHeap} {e e' : ET} {E : Env} {ρ : Option Nat}
theorem gcT_get (t : Tr XO) : ∀ (l : List Nat) (v : Nat) (o : XO), (gcT t l).get v = some o → t.get v = some o
  | [], v, o, h => by rw [gcT, Tr.get_em] at h; cases h
  | k :: r, v, o, h => by
    rw [gcT, Tr.get_set _ _ _ _ _ (Nat.lt_succ_self k)] at h
    split at h
    · rename_i e; rw [e]; exact h
    · exact gcT_get t r v o h
theorem gcE_get (e : ET) (i : Nat) : ∀ (l : List Nat), eget (gcE e l) i = eget e i ∨ eget (gcE e l) i = .any
  | [] => .inr (by simp [gcE, eget, Tr.get_em])
  | k :: r => by
    rw [gcE, eget_eset]
    split
    · rename_i h; rw [h]; exact .inl rfl
    · exact gcE_get e i r
theorem EnvR.gc (he : EnvR m B e E) (l : List Nat) : EnvR m B (gcE e l) E := fun i => by
  rcases gcE_get e i l with h | h
  · rw [h]; exact he i
  · rw [h]; exact .inr (.inl rfl)
theorem Rel.gc (r : Rel bs m s B H) (l : List Nat) : Rel bs m { s with t := gcT s.t l } B H := by
  have up : ∀ v, ((gcT s.t l).get v).isSome = true → (s.t.get v).isSome = true := fun v h => by
    obtain ⟨o, ho⟩ := Option.isSome_iff_exists.1 h
    rw [gcT_get s.t l v o ho]; rfl
  refine ⟨fun v o h => r.obj v o (gcT_get s.t l v o h), r.lt, fun u v i j hu hv => r.inj u v i j (hu.imp (up u) id) (hv.imp (up v) id), fun v o od h => ?_, r.box0, r.box1, r.glob⟩
  obtain ⟨h1, h2⟩ := r.loop v o od h
  refine ⟨?_, h2⟩
  cases hg : (gcT s.t l).get v with
  | none => rfl
  | some o => rw [gcT_get s.t l v o hg] at h1; cases h1
/-- A chunk of a body, and what is still to come. -/
theorem chunk (hT : TOK P T) (hmo : P.follows .mixedOrders = true) {call : Cl} (hc : CallOK P call) (hen : ∀ yh f args s r, call yh f args s = some r → Enters P f) {dt : Nat → Option DR} {Q : Post} :
    ∀ (k : Nat) (c : Code) (m : VM) (e : ET) (E : Env) (s : XS) (B : Box) (H : OHeap), dokC T N dt c = true → exL T call dt (takeS k c) e s = some (e', s') → EnvR m B e E → Rel bs m s B H → s.bx = [] →
      (∀ m' E' B' H', Mle m m' → dokC T N dt (dropS k c) = true → EnvR m' B' e' E' → Rel bs m' s' B' H' → s'.bx = [] → WP P none N (dropS k c) Q E' B' H') → WP P none N c Q E B H
  | 0, c, m, e, E, s, B, H, hd, hx, he, r, hb, h => by
    simp only [takeS, exL, Option.some.injEq, Prod.mk.injEq] at hx
    obtain ⟨rfl, rfl⟩ := hx
    exact h m E B H (Mle.refl m) hd he r hb
  | k + 1, .seq a b, m, e, E, s, B, H, hd, hx, he, r, hb, h => by
    simp only [takeS, exL] at hx
    simp only [dokC, Bool.and_eq_true] at hd
    split at hx <;> try cases hx
    rename_i e1 s1 h1
    refine WP.seq ((exC_ok hT hmo hc hen a true none bs m e E s B H _ _ _ (fun _ => rfl) hd.1 (fun i g h => by cases h) h1 he r hb).mono ?_)
    rintro x E1 B1 H1 ⟨rfl, m1, g1, g2, g3, g4⟩
    exact chunk hT hmo hc hen k b m1 e1 E1 s1 B1 H1 hd.2 hx g2 g3 g4 fun m' E' B' H' hle => h m' E' B' H' (g1.trans hle)
  | k + 1, .skip, m, e, E, s, B, H, hd, hx, he, r, hb, h | k + 1, .label _, m, e, E, s, B, H, hd, hx, he, r, hb, h | k + 1, .exit _, m, e, E, s, B, H, hd, hx, he, r, hb, h | k + 1, .ret, m, e, E, s, B, H, hd, hx, he, r, hb, h
  | k + 1, .region .., m, e, E, s, B, H, hd, hx, he, r, hb, h | k + 1, .cond .., m, e, E, s, B, H, hd, hx, he, r, hb, h | k + 1, .block .., m, e, E, s, B, H, hd, hx, he, r, hb, h | k + 1, .loop _, m, e, E, s, B, H, hd, hx, he, r, hb, h
  | k + 1, .scope _, m, e, E, s, B, H, hd, hx, he, r, hb, h | k + 1, .rangeFunc .., m, e, E, s, B, H, hd, hx, he, r, hb, h | k + 1, .goto _, m, e, E, s, B, H, hd, hx, he, r, hb, h | k + 1, .refuse _, m, e, E, s, B, H, hd, hx, he, r, hb, h => by
    simp only [takeS, exL, Option.some.injEq, Prod.mk.injEq] at hx
    obtain ⟨rfl, rfl⟩ := hx
    exact h m E B H (Mle.refl m) hd he r hb
/-- The same, where the state has been swept. -/
theorem chunkG (hT : TOK P T) (hmo : P.follows .mixedOrders = true) {call : Cl} (hc : CallOK P call) (hen : ∀ yh f args s r, call yh f args s = some r → Enters P f) {dt : Nat → Option DR} {Q : Post} {slots keys : List Nat}
    (k : Nat) {c : Code} (hx : gcR slots keys (exL T call dt (takeS k c) e s) = some (e', s')) (hd : dokC T N dt c = true) (he : EnvR m B e E) (r : Rel bs m s B H) (hb : s.bx = [])
      (h : ∀ m' E' B' H', Mle m m' → dokC T N dt (dropS k c) = true → EnvR m' B' e' E' → Rel bs m' s' B' H' → s'.bx = [] → WP P none N (dropS k c) Q E' B' H') : WP P none N c Q E B H := by
  cases h1 : exL T call dt (takeS k c) e s with
  | none => rw [h1] at hx; cases hx
  | some p =>
    obtain ⟨e1, s1⟩ := p
    rw [h1] at hx
    simp only [gcR, Option.some.injEq, Prod.mk.injEq] at hx
    obtain ⟨rfl, rfl⟩ := hx
    exact chunk hT hmo hc hen k c m e E s B H hd h1 he r hb fun m' E' B' H' h2 h3 h4 h5 h6 => h m' E' B' H' h2 h3 (h4.gc slots) (h5.gc keys) h6
/-- The last chunk: what the call hands back. -/
theorem chunkZ (hT : TOK P T) (hmo : P.follows .mixedOrders = true) {call : Cl} (hc : CallOK P call) (hen : ∀ yh f args s r, call yh f args s = some r → Enters P f) {dt : Nat → Option DR} {fn : Func} {Q : LV → OHeap → Prop} {c : Code} {v : LV} {keys : List Nat}
    (hx : (match exC T call dt (fun _ => none) true c e s with | some (.exit _, _, _) => none | some (_, e', s') => (xres T s' e' fn.results.toList).map fun v => (v, { s' with t := gcT s'.t keys }) | none => none) = some (v, s'))
    (hd : dokC T N dt c = true) (he : EnvR m B e E) (r : Rel bs m s B H) (hb : s.bx = []) (h : ∀ m' x H', Mle m m' → Tv m' v x → Rel bs m' s' nobox H' → Q x H') : WP P none N c (RetQ T fn Q) E B H := by
  split at hx
  · cases hx
  · rename_i z e1 s1 hne h1
    obtain ⟨w, h2, h3⟩ := Option.map_eq_some_iff.1 hx
    cases h3
    refine (exC_ok hT hmo hc hen c true none bs m e E s B H _ _ _ (fun _ => rfl) hd (fun i g h => by cases h) h1 he r hb).mono ?_
    rintro x E1 B1 H1 ⟨rfl, m1, g1, g2, g3, g4⟩
    obtain ⟨y, j1, j2⟩ := resR g3 g2 h2
    have fin : ∃ r, resL T fn.results.toList E1 B1 H1 = some r ∧ Lv.Ends Q r H1 := ⟨y, j1, Lv.Ends.of (h m1 y H1 g1 j2 ((g3.toB g4 fun _ => rfl).gc keys))⟩
    cases x with
    | exit i => first | exact (hne _ rfl).elim | exact (hne i _ _ rfl).elim | exact absurd rfl (hne i)
    | norm => exact fin
    | ret => exact fin
  · cases hx
end
end Go.Xv
