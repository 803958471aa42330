/- Lv, part S: a drawn region by one order: the theorem. Over any program; no condition. -/
import Derived.Test.YtoimfngeoiljeaaLvR
namespace Go.Lv
open Go
set_option linter.unusedVariables false
set_option linter.unusedSimpArgs false

section
variable {P : Program} {ρ : Option Nat} {N : Nat} {T : Tab} {ops : Array Oper} {D : List Nat} {pm : Nat}
variable {Q : KPost} {plan : Plan} {listed : Array Bool} {pref post : Plan} {e ep : Env} {Bp : Box} {E : Nat → Option (List LV)} {H : OHeap}

theorem lst_set {i j : Nat} (hi : i < listed.size) : lst (listed.setIfInBounds i true) j = if j = i then true else lst listed j := by
  unfold lst
  simp only [Array.getD_eq_getD_getElem?, Array.getElem?_setIfInBounds]
  by_cases h : i = j
  · subst h; simp [hi]
  · rw [if_neg h, if_neg (fun x => h x.symm)]

theorem Down.set (hd : Down ops listed) {i : Nat} {o : Oper} (hi : ops[i]? = some o) (hs : i < listed.size) (hr : ∀ ed ∈ o.after.toList, bindsA ed = true → lst listed ed.on = true) : Down ops (listed.setIfInBounds i true) := by
  intro j o' hj hl ed he hb
  rw [lst_set hs] at hl ⊢
  split
  · rfl
  · split at hl
    · rename_i h; subst h
      rw [hi] at hj; simp at hj; subst hj
      exact hr ed he hb
    · exact hd j o' hj hl ed he hb

/-- The world's side. -/
structure Wd (N m : Nat) (D0 : Nat → Prop) (w0 : World) (K0 : Know) (e : Env) (B : Box) (H : OHeap) (K : Know) (jj : Nat → Nat) (a : Act) (w : World) : Prop where
  g : Good K jj B H w
  t : TE K jj B N e a.tmps
  d : Dok m (dom H B jj) w a.defers
  f : Fr D0 w0 K0 (dom H B jj) w K

section
variable {m n : Nat} {D0 : Nat → Prop} {w0 w : World} {K0 K : Know} {jj : Nat → Nat} {a : Act} {Qx : Exit → Act → World → Prop} {K' : Act → World → Prop}

theorem updo_other {o : Oper} {x : LV} {t : Nat} (ht : o.dst ≠ some t) : updo e o.dst x t = e t := by
  cases hd : o.dst with
  | none => rfl
  | some d => simp only [updo, upd]; rw [if_neg (fun h => ht (by rw [hd, h]))]
theorem updo_here {o : Oper} {x : LV} {t : Nat} (ht : o.dst = some t) : updo e o.dst x t = x := by rw [ht]; simp [updo, upd]

theorem St.execPend (hT : TOK P T) (s : St P T ops D pm Q plan listed pref post e ep Bp E H) (hok : ∀ i o, ops[i]? = some o → Chk T N ops D pm i o) (hpw : pwB (relP ops D pm) plan = true) (hall : ∀ i, i < ops.size → ∃ a ∈ plan, a.1 = i)
    {k : Nat × List Nat} (hk : k ∈ pref) {o : Oper} (ho : ops[k.1]? = some o) (hdN : opDst N o = true) (hun : lst listed k.1 = false) (hr : ∀ ed ∈ o.after.toList, bindsA ed = true → lst listed ed.on = true)
    (W : Wd N m D0 w0 K0 e (addB Bp E) H K jj a w)
    (hK : ∀ a' w' e' K1 jj', St P T ops D pm Q plan (listed.setIfInBounds k.1 true) pref post e' ep Bp E H → Wd N m D0 w0 K0 e' (addB Bp E) H K1 jj' a' w' → K' a' w') :
    wpOpIn (Fw ρ) n P ops Qx k.1 K' a w := by
  obtain ⟨hx, hpost⟩ := s.pair hpw
  have hdep := down_dep hok s.down k.1 o ho hr
  have hrd := s.reads hok hpw hall ho hun hdep (.inl hk)
  obtain ⟨hp, o', x, ho', hpv, hdst⟩ := s.pend k hk hun
  rw [ho] at ho'; simp at ho'; subst ho'
  have hpv' : pvG T ops o e (addB Bp E) H = some x := pvG_add s.ff.free' (by rw [pvG_congr hrd]; exact hpv)
  have hone : oneG P T ops o e (addB Bp E) H (fun y B'' H'' => y = x ∧ B'' = addB Bp E ∧ H'' = H) := by
    rw [oneG_pure ((hok k.1 o ho).pure hp), hpv']; exact ⟨rfl, rfl, rfl⟩
  have hs : k.1 < listed.size := by rw [s.size]; exact lt_of_some ho
  refine oneG_wp hT ho hdN hone W.g W.t W.d ?_
  rintro a' w' y K1 jj' B'' H'' g' tw dk f' ⟨rfl, rfl, rfl⟩
  refine hK a' w' _ K1 jj' ⟨s.split, s.down.set ho hs hr, by simp [s.size], s.ff, s.go, fun b hb hl => ?_, fun b hb hl => ?_, fun t ht => ?_, fun d hd => ?_⟩ ⟨g', tw, dk, W.f.trans f'⟩
  · rw [lst_set hs] at hl
    split at hl
    · simp at hl
    · exact s.pend b hb hl
  · rw [lst_set hs] at hl
    have hne : b.1 ≠ k.1 := (relP_ne (hx k hk b hb)).2.1
    rw [if_neg hne] at hl
    obtain ⟨o', d, t, ti, h1, h2, h3, h4, h5, h6, h7, h8, h9⟩ := s.early b hb hl
    refine ⟨o', d, t, ti, h1, h2, h3, h4, h5, h6, h7, h8, ?_⟩
    rw [updo_other (fun hd => hne ((hok k.1 o ho).dst d hd b.1 o' h1 h4))]
    exact h9
  · by_cases hd : o.dst = some t
    · rw [updo_here hd, hdst t hd]
    · rw [updo_other hd]
      refine s.env t fun j o' hj hd' => ?_
      have hjk : j ≠ k.1 := fun h => by subst h; rw [ho] at hj; simp at hj; subst hj; exact hd hd'
      rcases ht j o' hj hd' with ⟨h1, h2⟩ | ⟨h1, h2⟩
      · rw [lst_set hs, if_neg hjk] at h2; exact .inl ⟨h1, h2⟩
      · rw [lst_set hs, if_neg hjk] at h2; exact .inr ⟨h1, h2⟩
  · obtain ⟨b, hb, hl, h⟩ := s.sup d hd
    refine ⟨b, hb, ?_, h⟩
    rw [lst_set hs]; split
    · rfl
    · exact hl

theorem St.execAlloc (hT : TOK P T) (s : St P T ops D pm Q plan listed pref post e ep Bp E H) (hok : ∀ i o, ops[i]? = some o → Chk T N ops D pm i o) (hpw : pwB (relP ops D pm) plan = true)
    {k : Nat × List Nat} (hk : k ∈ post) {o : Oper} (ho : ops[k.1]? = some o) (hal : isAlloc o = true) (hpm : pm.testBit k.1 = false) (hdN : opDst N o = true) (hun : lst listed k.1 = false) (hr : ∀ ed ∈ o.after.toList, bindsA ed = true → lst listed ed.on = true)
    (W : Wd N m D0 w0 K0 e (addB Bp E) H K jj a w)
    (hK : ∀ a' w' e' E' K1 jj', St P T ops D pm Q plan (listed.setIfInBounds k.1 true) pref post e' ep Bp E' H → Wd N m D0 w0 K0 e' (addB Bp E') H K1 jj' a' w' → K' a' w') :
    wpOpIn (Fw ρ) n P ops Qx k.1 K' a w := by
  obtain ⟨hx, hpost⟩ := s.pair hpw
  obtain ⟨hg, d, t, ti, hd, hop, hti⟩ := (hok k.1 o ho).alloc hpm hal
  have hs : k.1 < listed.size := by rw [s.size]; exact lt_of_some ho
  have hEd : E d = none := by
    cases hE : E d with
    | none => rfl
    | some z =>
      obtain ⟨b, hb, hl, o', h1, h2⟩ := s.sup d (by rw [hE]; rfl)
      have := (hok k.1 o ho).dst d hd b.1 o' h1 h2
      rw [this, hun] at hl; simp at hl
  have hBd : addB Bp E d = Bp d := addB_none hEd
  have hnew : newB (addB Bp E) d ti.zero = addB Bp (fun x => if x = d then some ti.zero else E x) := by
    funext i
    by_cases hi : i = d
    · subst hi; simp [addB, hEd]
    · simp [addB, hi]
  have hone : oneG P T ops o e (addB Bp E) H (fun y B'' H'' => y = .bp d ((Bp d).1 + 1) 0 ∧ B'' = addB Bp (fun x => if x = d then some ti.zero else E x) ∧ H'' = H) := by
    rw [oneG_alloc hg hop hd hti, hBd, hnew]; exact ⟨rfl, rfl, rfl⟩
  refine oneG_wp hT ho hdN hone W.g W.t W.d ?_
  rintro a' w' y K1 jj' B'' H'' g' tw dk f' ⟨rfl, rfl, rfl⟩
  have hwa : willAlloc ops post d := ⟨k, hk, o, ho, by simp [aslot, hop, hd]⟩
  have hkp : ∀ b ∈ pref, b.1 ≠ k.1 := fun b hb h => (relP_ne (hx b hb k hk)).2.1 h.symm
  refine hK a' w' _ (fun x => if x = d then some ti.zero else E x) K1 jj' ⟨s.split, s.down.set ho hs hr, by simp [s.size], ⟨fun d' hd' => ?_, s.ff.free⟩, s.go, fun b hb hl => ?_, fun b hb hl => ?_, fun t' ht => ?_, fun d' hd' => ?_⟩ ⟨g', tw, dk, W.f.trans f'⟩
  · by_cases hdd : d' = d
    · rw [hdd]; exact hwa
    · simp only [hdd, if_false] at hd'; exact s.ff.sub d' hd'
  · rw [lst_set hs] at hl
    split at hl
    · simp at hl
    · exact s.pend b hb hl
  · by_cases hbk : b.1 = k.1
    · refine ⟨o, d, t, ti, by rw [hbk]; exact ho, by rw [hbk]; exact hpm, hal, hd, hop, hg, hti, by simp, ?_⟩
      rw [updo_here hd]
    · rw [lst_set hs, if_neg hbk] at hl
      obtain ⟨o', d', t', ti', h1, h2, h3, h4, h5, h6, h7, h8, h9⟩ := s.early b hb hl
      have hne : d' ≠ d := fun h => by subst h; exact hbk ((hok k.1 o ho).dst d' hd b.1 o' h1 h4)
      refine ⟨o', d', t', ti', h1, h2, h3, h4, h5, h6, h7, by simp [hne, h8], ?_⟩
      rw [updo_other (fun h => hne (by rw [hd] at h; simpa using h.symm))]
      exact h9
  · by_cases hdt : o.dst = some t'
    · exfalso
      rcases ht k.1 o ho hdt with ⟨⟨b, hb, hbk⟩, _⟩ | ⟨_, h⟩
      · exact hkp b hb hbk
      · rw [lst_set hs, if_pos rfl] at h; simp at h
    · rw [updo_other hdt]
      refine s.env t' fun j o' hj hd' => ?_
      have hjk : j ≠ k.1 := fun h => by subst h; rw [ho] at hj; simp at hj; subst hj; exact hdt hd'
      rcases ht j o' hj hd' with ⟨h1, h2⟩ | ⟨h1, h2⟩
      · rw [lst_set hs, if_neg hjk] at h2; exact .inl ⟨h1, h2⟩
      · rw [lst_set hs, if_neg hjk] at h2; exact .inr ⟨h1, h2⟩
  · by_cases hdd : d' = d
    · refine ⟨k, hk, ?_, o, ho, by rw [hdd]; exact hd⟩
      rw [lst_set hs, if_pos rfl]
    · simp only [hdd, if_false] at hd'
      obtain ⟨b, hb, hl, h⟩ := s.sup d' hd'
      refine ⟨b, hb, ?_, h⟩
      rw [lst_set hs]; split
      · rfl
      · exact hl

theorem St.execAnchor (hT : TOK P T) {k : Nat × List Nat} {post' : Plan} (s : St P T ops D pm Q plan listed pref (k :: post') e ep Bp E H) (hok : ∀ i o, ops[i]? = some o → Chk T N ops D pm i o) (hpw : pwB (relP ops D pm) plan = true) (hall : ∀ i, i < ops.size → ∃ a ∈ plan, a.1 = i)
    {o : Oper} (ho : ops[k.1]? = some o) (hal : isAlloc o = false) (hpm : pm.testBit k.1 = false) (hdN : opDst N o = true) (hun : lst listed k.1 = false) (hr : ∀ ed ∈ o.after.toList, bindsA ed = true → lst listed ed.on = true)
    (W : Wd N m D0 w0 K0 e (addB Bp E) H K jj a w)
    (hK : ∀ a' w' e' ep' Bp' H' K1 jj', St P T ops D pm Q plan (listed.setIfInBounds k.1 true) (pref ++ [k]) post' e' ep' Bp' E H' → Wd N m D0 w0 K0 e' (addB Bp' E) H' K1 jj' a' w' → K' a' w') :
    wpOpIn (Fw ρ) n P ops Qx k.1 K' a w := by
  obtain ⟨hx, hpost⟩ := s.pair hpw
  simp only [pwB, Bool.and_eq_true, List.all_eq_true] at hpost
  have hdep := down_dep hok s.down k.1 o ho hr
  have hrd := s.reads hok hpw hall ho hun hdep (.inr ⟨post', rfl⟩)
  have hs : k.1 < listed.size := by rw [s.size]; exact lt_of_some ho
  have hkL : kL ops k.1 = false := by simp [kL, ho, hal]
  have hgo := s.go
  unfold vcD at hgo
  rw [ho] at hgo
  simp only [] at hgo
  rw [← oneG_congr hrd] at hgo
  have hgo := oneG_add s.ff ((hok k.1 o ho).box hpm hal) hgo
  refine oneG_wp hT ho hdN hgo W.g W.t W.d ?_
  rintro a' w' x K1 jj' B'' H'' g' tw dk f' ⟨B0, rfl, hB0, hst, hgo'⟩
  have hun' : ∀ b ∈ post', lst (listed.setIfInBounds k.1 true) b.1 = lst listed b.1 := fun b hb => by
    rw [lst_set hs, if_neg (relP_ne (hpost.1 b hb)).2.1]
  refine hK a' w' _ (updo ep o.dst x) B0 H'' K1 jj' ⟨by rw [s.split]; simp, s.down.set ho hs hr, by simp [s.size], ⟨fun d hd => ?_, fun d ⟨b, hb, h⟩ => ?_⟩, hgo', fun b hb hl => ?_, fun b hb hl => ?_, fun t ht => ?_, fun d hd => ?_⟩ ⟨g', tw, dk, W.f.trans f'⟩
  · obtain ⟨b, hb, hl, o', h1, h2⟩ := s.sup d hd
    rcases List.mem_cons.1 hb with rfl | hb'
    · rw [hun] at hl; simp at hl
    · obtain ⟨o2, d2, t2, ti2, h3, h4, h5, h6, h7, _⟩ := s.early b hb hl
      rw [h1] at h3; simp at h3; subst h3
      rw [h2] at h6; simp at h6; subst h6
      exact ⟨b, hb', o', h1, by simp [aslot, h7, h2]⟩
  · have hw : willAlloc ops (k :: post') d := ⟨b, List.mem_cons_of_mem _ hb, h⟩
    rw [hB0 d hw]; exact s.ff.free d hw
  · rcases List.mem_append.1 hb with hb | hb
    · rw [lst_set hs] at hl
      split at hl
      · simp at hl
      · obtain ⟨h1, o', y, h2, h3, h4⟩ := s.pend b hb hl
        have hrel := relP_ne (hx b hb k (List.mem_cons_self ..))
        have hnd : isDep D b.1 k.1 = false := by
          cases hh : isDep D b.1 k.1 with
          | false => rfl
          | true => rw [hdep b.1 hh] at hl; simp at hl
        refine ⟨h1, o', y, h2, ?_, fun t ht => ?_⟩
        · rcases hrel.2.2 with h | h | ⟨_, h | ⟨o2, ho2, hm⟩ | h⟩
          · rw [hnd] at h; simp at h
          · rw [hkL] at h; simp at h
          · rw [hpm] at h; simp at h
          · rw [h2] at ho2; simp at ho2; subst ho2
            rw [pvG_memless (B' := Bp) (H' := H) hm, ← h3]
            refine pvG_congr fun t ht => updo_other fun hd => ?_
            rcases (hok b.1 o' h2).reads t ht k.1 o ho hd with h | ⟨h, _, _⟩
            · rw [hrel.1] at h; simp at h
            · rw [hnd] at h; simp at h
          · have hst' := stab_mem hst b.1 h o' h2
            rw [hst', ← h3]
        · rw [updo_other fun hd => hrel.2.1 ((hok b.1 o' h2).dst t ht k.1 o ho hd)]
          exact h4 t ht
    · simp at hb; subst hb
      rw [lst_set hs, if_pos rfl] at hl; simp at hl
  · rw [hun' b hb] at hl
    obtain ⟨o', d', t', ti', h1, h2, h3, h4, h5, h6, h7, h8, h9⟩ := s.early b (List.mem_cons_of_mem _ hb) hl
    have hw : willAlloc ops (k :: post') d' := ⟨b, List.mem_cons_of_mem _ hb, o', h1, by simp [aslot, h5, h4]⟩
    refine ⟨o', d', t', ti', h1, h2, h3, h4, h5, h6, h7, h8, ?_⟩
    rw [hB0 d' hw, updo_other fun hd => (relP_ne (hpost.1 b hb)).2.1 ((hok k.1 o ho).dst d' hd b.1 o' h1 h4)]
    exact h9
  · by_cases hd : o.dst = some t
    · rw [updo_here hd, updo_here hd]
    · rw [updo_other hd, updo_other hd]
      refine s.env t fun j o' hj hd' => ?_
      have hjk : j ≠ k.1 := fun h => by subst h; rw [ho] at hj; simp at hj; subst hj; exact hd hd'
      rcases ht j o' hj hd' with ⟨⟨b, hb, hbj⟩, h2⟩ | ⟨⟨b, hb, hbj⟩, h2⟩
      · rw [lst_set hs, if_neg hjk] at h2
        rcases List.mem_append.1 hb with hb | hb
        · exact .inl ⟨⟨b, hb, hbj⟩, h2⟩
        · simp at hb; subst hb; exact absurd hbj.symm hjk
      · rw [lst_set hs, if_neg hjk] at h2
        exact .inr ⟨⟨b, List.mem_cons_of_mem _ hb, hbj⟩, h2⟩
  · obtain ⟨b, hb, hl, h⟩ := s.sup d hd
    rcases List.mem_cons.1 hb with rfl | hb
    · rw [hun] at hl; simp at hl
    · exact ⟨b, hb, by rw [hun' b hb]; exact hl, h⟩

end
end
end Go.Lv
