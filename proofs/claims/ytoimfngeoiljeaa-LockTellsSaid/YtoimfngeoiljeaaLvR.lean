/- Lv, part R: a drawn region by one order: the proof. Over any program; no condition. -/
import Derived.Test.YtoimfngeoiljeaaLvQ
namespace Go.Lv
open Go
set_option linter.unusedVariables false
set_option linter.unusedSimpArgs false

section
variable {P : Program} {ρ : Option Nat} {N : Nat} {T : Tab} {ops : Array Oper} {D : List Nat} {pm : Nat}

theorem isDep_lt (hok : ∀ i o, ops[i]? = some o → Chk T N ops D pm i o) : ∀ (i : Nat) (o : Oper), ops[i]? = some o → ∀ k, isDep D k i = true → k < i := by
  intro i
  induction i using Nat.strongRecOn with
  | ind i ih =>
    intro o hi k hk
    obtain ⟨ed, he, hb, h⟩ := (hok i o hi).dep k hk
    have hlt := (hok i o hi).low ed he hb
    rcases h with rfl | h
    · exact hlt
    · have hsz : ed.on < ops.size := Nat.lt_trans hlt (lt_of_some hi)
      exact Nat.lt_trans (ih ed.on hlt _ (Array.getElem?_eq_getElem hsz) k h) hlt

abbrev Plan := List (Nat × List Nat)
def willAlloc (ops : Array Oper) (post : Plan) (d : Nat) : Prop := ∃ a ∈ post, ∃ o, ops[a.1]? = some o ∧ aslot o = some d

/-- How far the walk and the chosen order are. -/
structure St (P : Program) (T : Tab) (ops : Array Oper) (D : List Nat) (pm : Nat) (Q : KPost) (plan : Plan) (listed : Array Bool) (pref post : Plan) (e ep : Env) (Bp : Box) (E : Nat → Option (List LV)) (H : OHeap) : Prop where
  split : plan = pref ++ post
  down : Down ops listed
  size : listed.size = ops.size
  ff : FF Bp E (willAlloc ops post)
  go : vcD P T ops post Q ep Bp H
  pend : ∀ a ∈ pref, lst listed a.1 = false → pm.testBit a.1 = true ∧ ∃ o x, ops[a.1]? = some o ∧ pvG T ops o ep Bp H = some x ∧ ∀ t, o.dst = some t → ep t = x
  early : ∀ a ∈ post, lst listed a.1 = true → ∃ o d t ti, ops[a.1]? = some o ∧ pm.testBit a.1 = false ∧ isAlloc o = true ∧ o.dst = some d ∧ o.op = .alloc t ∧ o.guard = none ∧ T t = some ti ∧ E d = some ti.zero ∧ e d = .bp d ((Bp d).1 + 1) 0
  env : ∀ t, (∀ j o, ops[j]? = some o → o.dst = some t → ((∃ a ∈ pref, a.1 = j) ∧ lst listed j = true) ∨ ((∃ a ∈ post, a.1 = j) ∧ lst listed j = false)) → e t = ep t
  sup : ∀ d, (E d).isSome = true → ∃ a ∈ post, lst listed a.1 = true ∧ ∃ o, ops[a.1]? = some o ∧ o.dst = some d

section
variable {Q : KPost} {plan : Plan} {listed : Array Bool} {pref post : Plan} {e ep : Env} {Bp : Box} {E : Nat → Option (List LV)} {H : OHeap}

theorem relP_ne {a b : Nat × List Nat} (h : relP ops D pm a b = true) : isDep D b.1 a.1 = false ∧ b.1 ≠ a.1 ∧ (isDep D a.1 b.1 = true ∨ kL ops b.1 = true ∨ (pm.testBit a.1 = true ∧ (pm.testBit b.1 = true ∨ (∃ o, ops[a.1]? = some o ∧ memless o = true) ∨ a.1 ∈ b.2))) := by
  unfold relP at h
  simp only [Bool.and_eq_true, Bool.not_eq_true', beq_eq_false_iff_ne, Bool.or_eq_true, ne_eq] at h
  obtain ⟨⟨h1, h2⟩, h3⟩ := h
  refine ⟨h1, h2, ?_⟩
  rcases h3 with (h3 | h3) | ⟨h3, h4⟩
  · exact .inl h3
  · exact .inr (.inl h3)
  · refine .inr (.inr ⟨h3, ?_⟩)
    rcases h4 with (h4 | h4) | h4
    · exact .inl h4
    · refine .inr (.inl ?_)
      split at h4
      · rename_i o ho; exact ⟨o, ho, h4⟩
      · simp at h4
    · exact .inr (.inr (by simpa using h4))

theorem St.pair (s : St P T ops D pm Q plan listed pref post e ep Bp E H) (hpw : pwB (relP ops D pm) plan = true) : (∀ a ∈ pref, ∀ b ∈ post, relP ops D pm a b = true) ∧ pwB (relP ops D pm) post = true := by
  rw [s.split] at hpw; exact pwB_append hpw

/-- What an operation reads is there. -/
theorem St.reads (s : St P T ops D pm Q plan listed pref post e ep Bp E H) (hok : ∀ i o, ops[i]? = some o → Chk T N ops D pm i o) (hpw : pwB (relP ops D pm) plan = true) (hall : ∀ i, i < ops.size → ∃ a ∈ plan, a.1 = i)
    {a : Nat × List Nat} {o : Oper} (hi : ops[a.1]? = some o) (hun : lst listed a.1 = false) (hdep : ∀ k, isDep D k a.1 = true → lst listed k = true)
    (hpos : a ∈ pref ∨ ∃ r, post = a :: r) : ∀ t ∈ readsG ops o, e t = ep t := by
  obtain ⟨hx, hpost⟩ := s.pair hpw
  intro t ht
  refine s.env t fun j o' hj hd => ?_
  have hin : (∃ b ∈ pref, b.1 = j) ∨ ∃ b ∈ post, b.1 = j := by
    obtain ⟨b, hb, hbj⟩ := hall j (lt_of_some hj)
    rw [s.split, List.mem_append] at hb
    exact hb.imp (fun h => ⟨b, h, hbj⟩) (fun h => ⟨b, h, hbj⟩)
  rcases (hok a.1 o hi).reads t ht j o' hj hd with h | ⟨h, hp, hl⟩
  · refine .inl ⟨?_, hdep j h⟩
    rcases hin with h1 | ⟨b, hb, hbj⟩
    · exact h1
    · exfalso
      rcases hpos with hpos | ⟨r, hr⟩
      · have := (relP_ne (hx a hpos b hb)).1
        rw [hbj, h] at this; simp at this
      · rw [hr] at hb
        rcases List.mem_cons.1 hb with rfl | hb
        · have := hdep j h; rw [← hbj, hun] at this; simp at this
        · rw [hr] at hpost
          simp only [pwB, Bool.and_eq_true, List.all_eq_true] at hpost
          have := (relP_ne (hpost.1 b hb)).1
          rw [hbj, h] at this; simp at this
  · have hjun : lst listed j = false := by
      cases hlj : lst listed j with
      | false => rfl
      | true =>
        have := down_dep hok s.down j o' hj (fun ed he hb => s.down j o' hj hlj ed he hb) a.1 h
        rw [hun] at this; simp at this
    refine .inr ⟨?_, hjun⟩
    rcases hin with ⟨b, hb, hbj⟩ | h1
    · exfalso
      have := (s.pend b hb (by rw [hbj]; exact hjun)).1
      rw [hbj, hp] at this; simp at this
    · exact h1

theorem St.advPure {k : Nat × List Nat} {post' : Plan} (s : St P T ops D pm Q plan listed pref (k :: post') e ep Bp E H) (hok : ∀ i o, ops[i]? = some o → Chk T N ops D pm i o) (hpw : pwB (relP ops D pm) plan = true)
    (hk : pm.testBit k.1 = true) (hun : lst listed k.1 = false) : ∃ ep', St P T ops D pm Q plan listed (pref ++ [k]) post' e ep' Bp E H := by
  obtain ⟨hx, hpost⟩ := s.pair hpw
  simp only [pwB, Bool.and_eq_true, List.all_eq_true] at hpost
  have hgo := s.go
  unfold vcD at hgo
  cases ho : ops[k.1]? with
  | none => rw [ho] at hgo; exact hgo.elim
  | some o =>
    rw [ho] at hgo
    simp only [] at hgo
    have hc := hok k.1 o ho
    rw [oneG_pure (hc.pure hk)] at hgo
    obtain ⟨x, hpv, _, hgo⟩ := ob_elim hgo
    have hself : ∀ t, o.dst = some t → t ∉ readsG ops o := fun t ht hr => by
      have := (hc.reads t hr k.1 o ho ht).elim id (fun h => h.1)
      exact Nat.lt_irrefl _ (isDep_lt hok k.1 o ho k.1 this)
    have hupd : ∀ t, o.dst ≠ some t → updo ep o.dst x t = ep t := fun t ht => by
      cases hd : o.dst with
      | none => rfl
      | some d => simp only [updo, upd]; rw [if_neg (fun h => ht (by rw [hd, h]))]
    have hupd' : ∀ t, o.dst = some t → updo ep o.dst x t = x := fun t ht => by rw [ht]; simp [updo, upd]
    have keep : ∀ o', (∀ t, o.dst = some t → t ∉ readsG ops o') → pvG T ops o' (updo ep o.dst x) Bp H = pvG T ops o' ep Bp H := fun o' h => by
      refine pvG_congr fun t ht => hupd t fun hd => h t hd ht
    refine ⟨updo ep o.dst x, ⟨by rw [s.split]; simp, s.down, s.size, ⟨fun d hd => ?_, fun d ⟨a, ha, h⟩ => s.ff.free d ⟨a, List.mem_cons_of_mem _ ha, h⟩⟩, hgo, fun a ha hl => ?_, fun a ha hl => s.early a (List.mem_cons_of_mem _ ha) hl, fun t ht => ?_, fun d hd => ?_⟩⟩
    · obtain ⟨a, ha, hl, _⟩ := s.sup d hd
      rcases List.mem_cons.1 ha with rfl | ha'
      · rw [hun] at hl; simp at hl
      · obtain ⟨o', d', t', ti', h1, h2, h3, h4, h5, _⟩ := s.early a ha hl
        obtain ⟨a2, ha2, hl2, o2, ho2, hd2⟩ := s.sup d hd
        rcases List.mem_cons.1 ha2 with rfl | ha2'
        · rw [hun] at hl2; simp at hl2
        · obtain ⟨o', d', t', ti', h1, h2, h3, h4, h5, _⟩ := s.early a2 ha2 hl2
          rw [ho2] at h1; simp at h1; subst h1
          refine ⟨a2, ha2', o2, ho2, ?_⟩
          simp [aslot, h5, hd2]
    · rcases List.mem_append.1 ha with ha | ha
      · obtain ⟨h1, o', y, h2, h3, h4⟩ := s.pend a ha hl
        have hrel := relP_ne (hx a ha k (List.mem_cons_self ..))
        refine ⟨h1, o', y, h2, ?_, fun t ht => ?_⟩
        · rw [keep o' (fun t hd hr => ?_)]
          · exact h3
          · rcases (hok a.1 o' h2).reads t hr k.1 o ho hd with h | ⟨_, h, _⟩
            · rw [hrel.1] at h; simp at h
            · rw [hk] at h; simp at h
        · rw [hupd t (fun hd => hrel.2.1 (((hok a.1 o' h2).dst t ht k.1 o ho hd)))]
          exact h4 t ht
      · simp at ha; subst ha
        exact ⟨hk, o, x, ho, by rw [keep o hself]; exact hpv, hupd'⟩
    · by_cases hd : o.dst = some t
      · exfalso
        rcases ht k.1 o ho hd with ⟨_, h⟩ | ⟨⟨a, ha, hak⟩, _⟩
        · rw [hun] at h; simp at h
        · exact (relP_ne (hpost.1 a ha)).2.1 hak
      · rw [hupd t hd]
        refine s.env t fun j o' hj hd' => ?_
        rcases ht j o' hj hd' with ⟨⟨a, ha, haj⟩, h⟩ | ⟨⟨a, ha, haj⟩, h⟩
        · rcases List.mem_append.1 ha with ha | ha
          · exact .inl ⟨⟨a, ha, haj⟩, h⟩
          · simp at ha; subst ha
            rw [haj] at hun; rw [hun] at h; simp at h
        · exact .inr ⟨⟨a, List.mem_cons_of_mem _ ha, haj⟩, h⟩
    · obtain ⟨a, ha, hl, h⟩ := s.sup d hd
      rcases List.mem_cons.1 ha with rfl | ha
      · rw [hun] at hl; simp at hl
      · exact ⟨a, ha, hl, h⟩

theorem oneG_alloc {o : Oper} {t : TypeId} {d : Nat} {ti : TI} {B : Box} (hg : o.guard = none) (ho : o.op = .alloc t) (hd : o.dst = some d) (hti : T t = some ti) (Q : LV → Box → OHeap → Prop) :
    oneG P T ops o e B H Q = Q (.bp d ((B d).1 + 1) 0) (newB B d ti.zero) H := by
  unfold oneG gWant
  simp only [hg]
  unfold oneS
  simp only [ho]
  unfold opS
  simp only [ho, hd, hti]

theorem newB_add {B : Box} {d : Nat} {z : List LV} : newB B d z = addB B (fun x => if x = d then some z else none) := by
  funext i
  by_cases hi : i = d
  · subst hi; simp [addB]
  · simp [addB, hi]

theorem St.advLate {k : Nat × List Nat} {post' : Plan} (s : St P T ops D pm Q plan listed pref (k :: post') e ep Bp E H) (hok : ∀ i o, ops[i]? = some o → Chk T N ops D pm i o) (hpw : pwB (relP ops D pm) plan = true)
    (hl : lst listed k.1 = true) : ∃ ep' Bp' E', addB Bp' E' = addB Bp E ∧ St P T ops D pm Q plan listed (pref ++ [k]) post' e ep' Bp' E' H := by
  obtain ⟨hx, hpost⟩ := s.pair hpw
  simp only [pwB, Bool.and_eq_true, List.all_eq_true] at hpost
  obtain ⟨o, d, t, ti, ho, hpm, hal, hd, hop, hg, hti, hE, he⟩ := s.early k (List.mem_cons_self ..) hl
  have hkL : kL ops k.1 = true := by simp [kL, ho, hal]
  have hgo := s.go
  unfold vcD at hgo
  rw [ho] at hgo
  simp only [] at hgo
  rw [oneG_alloc hg hop hd hti] at hgo
  obtain ⟨_, hgo⟩ := hgo
  rw [hd] at hgo
  simp only [updo] at hgo
  have hfree : (Bp d).2 = none := s.ff.free d ⟨k, List.mem_cons_self .., o, ho, by simp [aslot, hop, hd]⟩
  have hdk : ∀ a ∈ post', ∀ o' d', ops[a.1]? = some o' → o'.dst = some d' → d' ≠ d := fun a ha o' d' h1 h2 h3 => by
    subst h3
    exact (relP_ne (hpost.1 a ha)).2.1 ((hok k.1 o ho).dst d' hd a.1 o' h1 h2)
  refine ⟨upd ep d (.bp d ((Bp d).1 + 1) 0), newB Bp d ti.zero, fun x => if x = d then none else E x, ?_, ⟨by rw [s.split]; simp, s.down, s.size, ⟨fun d' hd' => ?_, fun d' ⟨a, ha, o', h1, h2⟩ => ?_⟩, hgo, fun a ha hl' => ?_, fun a ha hl' => ?_, fun t' ht => ?_, fun d' hd' => ?_⟩⟩
  · funext i
    by_cases hi : i = d
    · subst hi; simp [addB, hE]
    · simp [addB, hi]
  · by_cases hdd : d' = d
    · simp [hdd] at hd'
    · simp only [hdd, if_false] at hd'
      obtain ⟨a, ha, o', h1, h2⟩ := s.ff.sub d' hd'
      rcases List.mem_cons.1 ha with rfl | ha
      · rw [ho] at h1; simp at h1; subst h1
        simp [aslot, hop, hd] at h2
        exact absurd h2.symm hdd
      · exact ⟨a, ha, o', h1, h2⟩
  · have hne : d' ≠ d := by
      refine hdk a ha o' d' h1 ?_
      unfold aslot at h2
      split at h2
      · exact h2
      · simp at h2
    simp only [newB_apply, hne, if_false]
    exact s.ff.free d' ⟨a, List.mem_cons_of_mem _ ha, o', h1, h2⟩
  · rcases List.mem_append.1 ha with ha | ha
    · obtain ⟨h1, o', y, h2, h3, h4⟩ := s.pend a ha hl'
      have hrel := relP_ne (hx a ha k (List.mem_cons_self ..))
      refine ⟨h1, o', y, h2, ?_, fun t' ht => ?_⟩
      · rw [newB_add]
        refine pvG_add (fun d' hd' => ?_) ?_
        · by_cases hdd : d' = d
          · rw [hdd]; exact hfree
          · simp [hdd] at hd'
        · rw [← h3]
          refine pvG_congr fun t' ht => ?_
          simp only [upd]
          rw [if_neg]
          intro h; subst h
          rcases (hok a.1 o' h2).reads _ ht k.1 o ho hd with h | ⟨_, _, h⟩
          · rw [hrel.1] at h; simp at h
          · rw [hkL] at h; simp at h
      · simp only [upd]
        rw [if_neg]
        · exact h4 t' ht
        · intro h; subst h
          exact hrel.2.1 ((hok a.1 o' h2).dst _ ht k.1 o ho hd)
    · simp at ha; subst ha
      rw [hl] at hl'; simp at hl'
  · obtain ⟨o', d', t', ti', h1, h2, h3, h4, h5, h6, h7, h8, h9⟩ := s.early a (List.mem_cons_of_mem _ ha) hl'
    have hne := hdk a ha o' d' h1 h4
    exact ⟨o', d', t', ti', h1, h2, h3, h4, h5, h6, h7, by simp [hne, h8], by simp [hne, h9]⟩
  · by_cases hdd : t' = d
    · subst hdd; simp only [upd, if_true]; exact he
    · simp only [upd]; rw [if_neg hdd]
      refine s.env t' fun j o' hj hd' => ?_
      rcases ht j o' hj hd' with ⟨⟨a, ha, haj⟩, h⟩ | ⟨⟨a, ha, haj⟩, h⟩
      · rcases List.mem_append.1 ha with ha | ha
        · exact .inl ⟨⟨a, ha, haj⟩, h⟩
        · simp at ha; subst ha
          rw [← haj, ho] at hj; simp at hj; subst hj
          rw [hd] at hd'; simp at hd'; exact absurd hd'.symm hdd
      · exact .inr ⟨⟨a, List.mem_cons_of_mem _ ha, haj⟩, h⟩
  · by_cases hdd : d' = d
    · simp [hdd] at hd'
    · simp only [hdd, if_false] at hd'
      obtain ⟨a, ha, hla, o', h1, h2⟩ := s.sup d' hd'
      rcases List.mem_cons.1 ha with rfl | ha
      · rw [ho] at h1; simp at h1; subst h1
        rw [hd] at h2; simp at h2; exact absurd h2.symm hdd
      · exact ⟨a, ha, hla, o', h1, h2⟩

end
end
end Go.Lv
