/- Contracts of bobbinref12: Blockers. -/
import Derived.Test.YtoimfngeoiljeaaLd5
import Derived.Test.YtoimfngeoiljeaaLe3
namespace Go.Lv
open Go Go.Proofs
set_option maxRecDepth 10000
set_option linter.unusedSimpArgs false
set_option linter.unusedVariables false

/-- Of those that block the ones behind the n-th. -/
def Cnd (bl : List Int) (tx res mode : Int) (n : Nat) (h : Held) : Prop := h.tx ≠ tx ∧ h.res = res ∧ gClash h.mode mode = true ∧ ∀ y ∈ bl.take n, y < h.tx
def Mn (bl : List Int) (l : List Held) (tx res mode : Int) (n k : Nat) (found : Bool) (m : Int) : Prop :=
  (found = false ∧ ∀ h ∈ l.take k, ¬ Cnd bl tx res mode n h) ∨ (found = true ∧ (∃ h ∈ l.take k, Cnd bl tx res mode n h ∧ h.tx = m) ∧ ∀ h ∈ l.take k, Cnd bl tx res mode n h → m ≤ h.tx)

theorem Mn.skip {bl : List Int} {l : List Held} {tx res mode : Int} {n k : Nat} {found : Bool} {m : Int} (hm : Mn bl l tx res mode n k found m) (hk : k < l.length) (h : ¬ Cnd bl tx res mode n l[k] ∨ (found = true ∧ m ≤ l[k].tx)) : Mn bl l tx res mode n (k + 1) found m := by
  have mem : ∀ h, h ∈ l.take (k + 1) ↔ h ∈ l.take k ∨ h = l[k] := fun h => by rw [List.take_add_one, List.getElem?_eq_getElem hk, Option.toList_some, List.mem_append, List.mem_singleton]
  rcases hm with ⟨h1, h2⟩ | ⟨h1, ⟨q, hq, q1, q2⟩, h2⟩
  · refine .inl ⟨h1, fun x hx => ?_⟩
    rcases (mem x).1 hx with hx | rfl
    · exact h2 x hx
    · rcases h with h | ⟨h, _⟩
      · exact h
      · rw [h1] at h; cases h
  · refine .inr ⟨h1, ⟨q, (mem q).2 (.inl hq), q1, q2⟩, fun x hx hc => ?_⟩
    rcases (mem x).1 hx with hx | rfl
    · exact h2 x hx hc
    · rcases h with h | ⟨_, h⟩
      · exact absurd hc h
      · exact h
theorem Mn.take {bl : List Int} {l : List Held} {tx res mode : Int} {n k : Nat} {found : Bool} {m : Int} (hm : Mn bl l tx res mode n k found m) (hk : k < l.length) (h : Cnd bl tx res mode n l[k]) (h' : found = false ∨ l[k].tx < m) : Mn bl l tx res mode n (k + 1) true l[k].tx := by
  have mem : ∀ h, h ∈ l.take (k + 1) ↔ h ∈ l.take k ∨ h = l[k] := fun h => by rw [List.take_add_one, List.getElem?_eq_getElem hk, Option.toList_some, List.mem_append, List.mem_singleton]
  refine .inr ⟨rfl, ⟨l[k], (mem _).2 (.inr rfl), h, rfl⟩, fun x hx hc => ?_⟩
  rcases (mem x).1 hx with hx | rfl
  · rcases hm with ⟨h1, h2⟩ | ⟨h1, _, h2⟩
    · exact absurd hc (h2 x hx)
    · rcases h' with h' | h'
      · rw [h1] at h'; cases h'
      · have := h2 x hx hc; omega
  · omega

/-- Where none is behind the n-th, n are all. -/
theorem mn_none {l : List Held} {tx res mode : Int} {n : Nat} {m : Int} (hn : n ≤ (gBlockers l tx res mode).length) (h : Mn (gBlockers l tx res mode) l tx res mode n l.length false m) : (gBlockers l tx res mode).take n = gBlockers l tx res mode := by
  rcases h with ⟨_, h⟩ | ⟨h, _⟩
  · rcases Nat.lt_or_ge n (gBlockers l tx res mode).length with hlt | hge
    · exfalso
      obtain ⟨q, hq, q1, q2, q3, q4⟩ := mem_gBlockers.1 (List.getElem_mem hlt)
      refine h q (by simpa using hq) ⟨q1, q2, q3, fun y hy => ?_⟩
      obtain ⟨i, hi, rfl⟩ := List.mem_iff_getElem.1 hy
      rw [List.length_take] at hi
      rw [q4, List.getElem_take]
      exact List.pairwise_iff_getElem.1 (gBlockers_rise l tx res mode) i n (by omega) hlt (by omega)
    · exact List.take_of_length_le hge
  · cases h
/-- Where one is, the least of them is the next. -/
theorem mn_some {l : List Held} {tx res mode : Int} {n : Nat} {m : Int} (h : Mn (gBlockers l tx res mode) l tx res mode n l.length true m) : n < (gBlockers l tx res mode).length ∧ (gBlockers l tx res mode).take (n + 1) = (gBlockers l tx res mode).take n ++ [m] := by
  rcases h with ⟨h, _⟩ | ⟨_, ⟨q, hq, ⟨q1, q2, q3, q4⟩, q5⟩, h2⟩
  · cases h
  · rw [List.take_length] at hq h2
    have hmem : m ∈ gBlockers l tx res mode := mem_gBlockers.2 ⟨q, hq, q1, q2, q3, q5⟩
    obtain ⟨j, hj, hjm⟩ := List.mem_iff_getElem.1 hmem
    have hr := List.pairwise_iff_getElem.1 (gBlockers_rise l tx res mode)
    have hnj : n ≤ j := by
      apply Decidable.byContradiction
      intro hc
      have := q4 m (by rw [← hjm]; exact List.mem_take_iff_getElem.2 ⟨j, by omega, rfl⟩)
      omega
    have hn : n < (gBlockers l tx res mode).length := by omega
    refine ⟨hn, ?_⟩
    have e : (gBlockers l tx res mode)[n] = m := by
      obtain ⟨p, hp, p1, p2, p3, p4⟩ := mem_gBlockers.1 (List.getElem_mem hn)
      have h3 := h2 p hp ⟨p1, p2, p3, fun y hy => by
        obtain ⟨i, hi, rfl⟩ := List.mem_iff_getElem.1 hy
        rw [List.length_take] at hi
        rw [p4, List.getElem_take]
        exact hr i n (by omega) hn (by omega)⟩
      rcases Nat.lt_or_ge n j with hlt | hge
      · have := hr n j hn hj hlt
        omega
      · have : n = j := by omega
        subst this; exact hjm
    rw [List.take_add_one, List.getElem?_eq_getElem hn, e]; rfl

theorem rblockers_lv (f : Bool) (l : List Held) (tx res mode : Int) (H : OHeap) (hl : l.length < 2 ^ 38) (hok : ∀ h ∈ l, Hok h) (hmo : inI mode) : CallL Try.prog 17 [heldsL f l, i64 tx, i64 res, i64 mode] H (SealI (gBlockers l tx res mode) H) := by
  refine CallL.of_vc (n := 4) tok Try.func17 (c := _) rfl (by kernel_rfl) rfl ?_
  simp -implicitDefEqProofs
  have hlen := gBlockers_len l tx res mode
  have hrise := List.pairwise_iff_getElem.1 (gBlockers_rise l tx res mode)
  have hnone := @mn_none l tx res mode
  have hsome := @mn_some l tx res mode
  generalize gBlockers l tx res mode = bl at hlen hnone hsome hrise
  refine WP.loopG (σ := Nat) (fun n e B H' => OutI (bl.take n) H (e 9) H' ∧ n ≤ bl.length ∧ e 0 = heldsL f l ∧ e 1 = i64 tx ∧ e 2 = i64 res ∧ e 3 = i64 mode) (fun n => bl.length - n) 0 ?_ ?_
  · simp [OutI]
  · rintro n e B H' ⟨ho, hn, h0, h1, h2, h3⟩
    have hon : (bl.take n).length = n := by rw [List.length_take]; omega
    refine vc_sound tok _ _ _ _ _ ?_
    simp -implicitDefEqProofs [h0, h1, h2, h3]
    generalize hz : e 9 = z at ho
    refine WP.loopG (σ := Nat × Bool × Int) (fun s e B H'' => H'' = H' ∧ s.1 ≤ l.length ∧ e 0 = heldsL f l ∧ e 1 = i64 tx ∧ e 2 = i64 res ∧ e 3 = i64 mode ∧ e 9 = z ∧ e 10 = .bool s.2.1 ∧ e 11 = i64 s.2.2 ∧ e 12 = i64 s.1 ∧ Mn bl l tx res mode n s.1 s.2.1 s.2.2) (fun s => l.length - s.1) (0, false, 0) ?_ ?_
    · simp [h0, h1, h2, h3, hz, Mn]
    · clear h0 h1 h2 h3 hz
      rintro ⟨k, found, m⟩ e B H'' ⟨rfl, hk, h0, h1, h2, h3, h9, h10, h11, h12, hm⟩
      simp only [] at hk h10 h11 h12 hm
      refine vc_sound tok _ _ _ _ _ ?_
      rcases Nat.lt_or_ge k l.length with hlt | hge
      · have hw : IntKind.i64.wrap ((k : Int) + 1) = ((k + 1 : Nat) : Int) := by rw [wrap64 (by omega) (by omega)]; omega
        have mk := hok l[k] (List.getElem_mem hlt)
        simp -implicitDefEqProofs [h0, h1, h2, h3, h9, h10, h11, h12, heldsL, hlt, Held.lv, seg]
        refine CallL.ret (rclash_lv l[k].mode mode mk.2.2 hmo H'') ?_
        rw [← clash_eq _ _ mk.2.2 hmo]
        simp -implicitDefEqProofs [h0, h1, h2, h3, h9, h10, h11, h12, heldsL, hlt, Held.lv, seg]
        refine WP.draws tok mixed [(0, []), (1, []), (2, []), (3, []), (4, []), (5, []), (6, []), (7, []), (8, []), (9, []), (10, []), (11, []), (12, []), (13, []), (14, []), (15, []), (16, []), (17, []), (18, []), (19, []), (20, []), (21, []), (22, []), (23, []), (24, []), (25, []), (26, []), (27, []), (28, []), (29, []), (30, []), (31, []), (32, []), (33, []), (34, []), (35, []), (36, []), (37, []), (38, [])] [0, 1, 0, 7, 15, 31, 63, 31, 255, 511, 1023, 2047, 4095, 8191, 16383, 32767, 65535, 131071, 262143, 524287, 262143, 262143, 2359295, 6553599, 15990783, 32767999, 67108863, 134217727, 268435455, 536870911, 1073741823, 2147483647, 4294967295, 8589934591, 17179869183, 8589934591, 68719476735, 137438953471, 274877906943] 549755813887 [] (by kernel_rfl) ?_
        have skip : ∀ {e' : Env} {B' : Box} {Q : Post}, (¬ Cnd bl tx res mode n l[k] ∨ (found = true ∧ m ≤ l[k].tx)) → True := fun _ => trivial
        by_cases c1 : l[k].tx = tx
        · simp -implicitDefEqProofs [h0, h1, h2, h3, h9, h10, h11, h12, heldsL, hlt, Held.lv, seg, c1]
          have := hm.skip hlt (.inl fun h => h.1 c1)
          refine Next.of (k + 1, found, m) (by simp only []; omega) ?_
          simp [h0, h1, h2, h3, h9, h10, h11, heldsL, hw, this]
          omega
        by_cases c2 : l[k].res = res
        case neg =>
          simp -implicitDefEqProofs [h0, h1, h2, h3, h9, h10, h11, h12, heldsL, hlt, Held.lv, seg, c1, c2]
          have := hm.skip hlt (.inl fun h => c2 h.2.1)
          refine Next.of (k + 1, found, m) (by simp only []; omega) ?_
          simp [h0, h1, h2, h3, h9, h10, h11, heldsL, hw, this]
          omega
        cases c3 : gClash l[k].mode mode with
        | false =>
          simp -implicitDefEqProofs [h0, h1, h2, h3, h9, h10, h11, h12, heldsL, hlt, Held.lv, seg, c1, c2]
          have := hm.skip hlt (.inl fun h => by have := h.2.2.1; rw [c3] at this; cases this)
          refine Next.of (k + 1, found, m) (by simp only []; omega) ?_
          simp [h0, h1, h2, h3, h9, h10, h11, heldsL, hw, this]
          omega
        | true =>
          rcases ho with ⟨hn0, rfl, rfl⟩ | ⟨hne, b, c, rest, hb, hc, rfl, rfl⟩
          · have hcn : Cnd bl tx res mode n l[k] := ⟨c1, c2, c3, by rw [hn0]; simp⟩
            cases found with
            | false =>
              have := hm.take hlt hcn (.inl rfl)
              simp -implicitDefEqProofs [h0, h1, h2, h3, h9, h10, h11, h12, heldsL, hlt, Held.lv, seg, c1, c2, c3]
              refine Next.of (k + 1, true, l[k].tx) (by simp only []; omega) ?_
              simp [h0, h1, h2, h3, h9, h10, h11, heldsL, hw, this]
              omega
            | true =>
              by_cases c4 : l[k].tx < m
              · have := hm.take hlt hcn (.inr c4)
                simp -implicitDefEqProofs [h0, h1, h2, h3, h9, h10, h11, h12, heldsL, hlt, Held.lv, seg, c1, c2, c3, c4]
                refine Next.of (k + 1, true, l[k].tx) (by simp only []; omega) ?_
                simp [h0, h1, h2, h3, h9, h10, h11, heldsL, hw, this]
                omega
              · have := hm.skip hlt (.inr ⟨rfl, by omega⟩)
                simp -implicitDefEqProofs [h0, h1, h2, h3, h9, h10, h11, h12, heldsL, hlt, Held.lv, seg, c1, c2, c3, c4]
                refine Next.of (k + 1, true, m) (by simp only []; omega) ?_
                simp [h0, h1, h2, h3, h9, h10, h11, heldsL, hw, this]
                omega
          · have hn0 : n ≠ 0 := fun e => by subst e; simp at hne
            have hn0' : ¬ (n : Int) = 0 := by omega
            have hmin : min n bl.length = n := Nat.min_eq_left hn
            have hn1 : n - 1 < n := by omega
            have hq : IntKind.i64.wrap ((n : Int) - 1) = ((n - 1 : Nat) : Int) := by rw [wrap64 (by omega) (by omega)]; omega
            have hget : ((bl.map i64).take n ++ rest)[n - 1]? = some (i64 bl[n - 1]) := by
              rw [List.getElem?_append_left (by simp; omega), List.getElem?_take_of_lt hn1, List.getElem?_map, List.getElem?_eq_getElem (by omega)]; rfl
            have hcn : Cnd bl tx res mode n l[k] ↔ bl[n - 1] < l[k].tx := by
              constructor
              · intro h
                exact h.2.2.2 _ (List.mem_take_iff_getElem.2 ⟨n - 1, by omega, rfl⟩)
              · intro h
                refine ⟨c1, c2, c3, fun y hy => ?_⟩
                obtain ⟨i, hi, rfl⟩ := List.mem_iff_getElem.1 hy
                rw [List.length_take] at hi
                rw [List.getElem_take]
                by_cases e : i = n - 1
                · subst e; exact h
                · have := hrise i (n - 1) (by omega) (by omega) (by omega); omega
            rw [hon] at h9
            simp -implicitDefEqProofs [h0, h1, h2, h3, h9, h10, h11, h12, heldsL, hlt, Held.lv, seg, c1, c2, c3, hmin, hn0, hn0', hn1, hq, hget]
            by_cases c5 : bl[n - 1] < l[k].tx
            case neg =>
              have := hm.skip hlt (.inl fun h => c5 (hcn.1 h))
              simp -implicitDefEqProofs [h0, h1, h2, h3, h9, h10, h11, h12, heldsL, hlt, Held.lv, seg, c1, c2, c3, c5]
              refine Next.of (k + 1, found, m) (by simp only []; omega) ?_
              simp [h0, h1, h2, h3, h9, h10, h11, heldsL, hw, this]
              omega
            cases found with
            | false =>
              have := hm.take hlt (hcn.2 c5) (.inl rfl)
              simp -implicitDefEqProofs [h0, h1, h2, h3, h9, h10, h11, h12, heldsL, hlt, Held.lv, seg, c1, c2, c3, c5]
              refine Next.of (k + 1, true, l[k].tx) (by simp only []; omega) ?_
              simp [h0, h1, h2, h3, h9, h10, h11, heldsL, hw, this]
              omega
            | true =>
              by_cases c4 : l[k].tx < m
              · have := hm.take hlt (hcn.2 c5) (.inr c4)
                simp -implicitDefEqProofs [h0, h1, h2, h3, h9, h10, h11, h12, heldsL, hlt, Held.lv, seg, c1, c2, c3, c4, c5]
                refine Next.of (k + 1, true, l[k].tx) (by simp only []; omega) ?_
                simp [h0, h1, h2, h3, h9, h10, h11, heldsL, hw, this]
                omega
              · have := hm.skip hlt (.inr ⟨rfl, by omega⟩)
                simp -implicitDefEqProofs [h0, h1, h2, h3, h9, h10, h11, h12, heldsL, hlt, Held.lv, seg, c1, c2, c3, c4, c5]
                refine Next.of (k + 1, true, m) (by simp only []; omega) ?_
                simp [h0, h1, h2, h3, h9, h10, h11, heldsL, hw, this]
                omega
      · have hnl : ¬ k < l.length := by omega
        have hkl : k = l.length := by omega
        subst hkl
        cases found with
        | true =>
          obtain ⟨s1, s2⟩ := hsome hm
          simp -implicitDefEqProofs [h0, h1, h2, h3, h9, h10, h11, h12, heldsL]
          refine OutI.append (h := ho) _ (by omega) fun y H3 hy => ?_
          rw [← s2] at hy
          simp -implicitDefEqProofs [h0, h1, h2, h3, h9, h10, h11, h12, heldsL]
          refine Next.of (n + 1) (by omega) ?_
          simp [h0, h1, h2, h3, heldsL, hy]
          omega
        | false =>
          have s2 := hnone hn hm
          rw [s2] at ho
          have hg := ho.glob
          simp -implicitDefEqProofs [h0, h1, h2, h3, h9, h10, h11, h12, heldsL, hg]
          rcases ho with ⟨rfl, rfl, rfl⟩ | ⟨hne, b, c, rest, hb, hc, rfl, rfl⟩
          · exact Ends.wk (Wk.nilsl true 1) (Ends.of ⟨⟨true, rfl⟩, rfl⟩)
          · exact Ends.seal_ints hb hc
end Go.Lv
