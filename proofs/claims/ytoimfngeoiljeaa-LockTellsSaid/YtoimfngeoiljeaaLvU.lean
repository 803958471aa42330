/- Lv, part U: WP.draw: a drawn region by one order. Over any program; no condition. -/
import Derived.Test.YtoimfngeoiljeaaLvS
namespace Go.Lv
open Go
set_option linter.unusedVariables false
set_option linter.unusedSimpArgs false

section
variable {P : Program} {ρ : Option Nat} {N : Nat} {T : Tab} {ops : Array Oper} {D : List Nat} {pm : Nat}
variable {Q : KPost} {plan : Plan}

def cntU (listed : Array Bool) : Nat → Nat
  | 0 => 0
  | k + 1 => cntU listed k + (if lst listed k = true then 0 else 1)

theorem cntU_set {listed : Array Bool} {i : Nat} (hs : i < listed.size) (hu : lst listed i = false) : ∀ n, i < n → cntU (listed.setIfInBounds i true) n + 1 = cntU listed n := by
  have same : ∀ n, n ≤ i → cntU (listed.setIfInBounds i true) n = cntU listed n := by
    intro n
    induction n with
    | zero => intro _; rfl
    | succ n ih => intro h; simp only [cntU]; rw [ih (by omega), lst_set hs, if_neg (by omega : n ≠ i)]
  intro n
  induction n with
  | zero => intro h; omega
  | succ n ih =>
    intro h
    simp only [cntU]
    by_cases hn : n = i
    · subst hn
      rw [same n (Nat.le_refl _), lst_set hs, if_pos rfl, hu]; simp
    · have := ih (by omega)
      rw [lst_set hs, if_neg hn]
      omega

theorem mem_ready {listed : Array Bool} (hs : listed.size = ops.size) {i : Nat} (h : i ∈ Region.ready .any ops listed) : ∃ o, ops[i]? = some o ∧ lst listed i = false ∧ ∀ ed ∈ o.after.toList, bindsA ed = true → lst listed ed.on = true := by
  simp only [Region.ready, List.mem_filter, List.mem_range, Bool.and_eq_true, Bool.not_eq_true'] at h
  obtain ⟨hi, hl, hr⟩ := h
  refine ⟨ops[i], Array.getElem?_eq_getElem hi, ?_, fun ed he hb => ?_⟩
  · unfold lst
    have hi' : i < listed.size := by omega
    simp only [Array.getD_eq_getD_getElem?, Array.getElem?_eq_getElem hi', Option.getD_some] at hl ⊢
    exact hl
  · simp only [Array.getElem?_eq_getElem hi, Option.map_some, Option.getD_some] at hr
    rw [Array.all_eq_true'] at hr
    have := hr ed (by simpa using he)
    unfold bindsA at hb
    simp only [hb, Bool.not_true, Bool.false_or] at this
    exact this

theorem none_ready {listed : Array Bool} (hok : ∀ i o, ops[i]? = some o → Chk T N ops D pm i o) (hs : listed.size = ops.size) (h : Region.ready .any ops listed = []) : ∀ i, i < ops.size → lst listed i = true := by
  intro i
  induction i using Nat.strongRecOn with
  | ind i ih =>
    intro hi
    cases hl : lst listed i with
    | true => rfl
    | false =>
      exfalso
      have hm : i ∈ Region.ready .any ops listed := by
        simp only [Region.ready, List.mem_filter, List.mem_range, Bool.and_eq_true, Bool.not_eq_true']
        refine ⟨hi, ?_, ?_⟩
        · have hi' : i < listed.size := by omega
          unfold lst at hl
          simp only [Array.getD_eq_getD_getElem?, Array.getElem?_eq_getElem hi', Option.getD_some] at hl ⊢
          exact hl
        · simp only [Array.getElem?_eq_getElem hi, Option.map_some, Option.getD_some]
          rw [Array.all_eq_true']
          intro ed he
          cases hb : Region.binds .any ed with
          | false => rfl
          | true =>
            have hlt := (hok i _ (Array.getElem?_eq_getElem hi)).low ed (by simpa using he) hb
            have := ih ed.on hlt (by omega)
            unfold lst at this
            simpa using this
      rw [h] at hm; simp at hm

section
variable {listed : Array Bool} {pref post : Plan} {e ep : Env} {Bp : Box} {E : Nat → Option (List LV)} {H : OHeap}

theorem St.finish (hok : ∀ i o, ops[i]? = some o → Chk T N ops D pm i o) (hpw : pwB (relP ops D pm) plan = true) (hall : ∀ i, i < ops.size → ∃ a ∈ plan, a.1 = i) (hin : ∀ a ∈ plan, a.1 < ops.size)
    (hl : ∀ i, i < ops.size → lst listed i = true) : ∀ (post pref : Plan) (ep : Env) (Bp : Box) (E : Nat → Option (List LV)), St P T ops D pm Q plan listed pref post e ep Bp E H → Q e (addB Bp E) H
  | [], pref, ep, Bp, E, s => by
    have hE : addB Bp E = Bp := by
      funext d
      cases hE : E d with
      | none => exact addB_none hE
      | some z => obtain ⟨a, ha, _⟩ := s.sup d (by rw [hE]; rfl); cases ha
    have he : e = ep := by
      funext t
      refine s.env t fun j o hj hd => ?_
      have hlt := lt_of_some hj
      obtain ⟨a, ha, haj⟩ := hall j hlt
      rw [s.split, List.append_nil] at ha
      exact .inl ⟨⟨a, ha, haj⟩, hl j hlt⟩
    rw [hE, he]
    exact s.go
  | k :: post, pref, ep, Bp, E, s => by
    have hk : k.1 < ops.size := hin k (by rw [s.split]; simp)
    obtain ⟨ep', Bp', E', h1, s'⟩ := s.advLate hok hpw (hl k.1 hk)
    rw [← h1]
    exact St.finish hok hpw hall hin hl post _ ep' Bp' E' s'

theorem St.advTo (hok : ∀ i o, ops[i]? = some o → Chk T N ops D pm i o) (hpw : pwB (relP ops D pm) plan = true) {k : Nat × List Nat} {p2 : Plan} (hkL : kL ops k.1 = false) (hdep : ∀ i, isDep D i k.1 = true → lst listed i = true) :
    ∀ (p1 pref : Plan) (ep : Env) (Bp : Box) (E : Nat → Option (List LV)), St P T ops D pm Q plan listed pref (p1 ++ k :: p2) e ep Bp E H →
    ∃ pref' ep' Bp' E', addB Bp' E' = addB Bp E ∧ St P T ops D pm Q plan listed pref' (k :: p2) e ep' Bp' E' H
  | [], pref, ep, Bp, E, s => ⟨pref, ep, Bp, E, rfl, s⟩
  | x :: p1, pref, ep, Bp, E, s => by
    have hpost := (s.pair hpw).2
    simp only [List.cons_append, pwB, Bool.and_eq_true, List.all_eq_true] at hpost
    cases hlx : lst listed x.1 with
    | true =>
      obtain ⟨ep', Bp', E', h1, s'⟩ := s.advLate hok hpw hlx
      obtain ⟨pref'', ep'', Bp'', E'', h2, s''⟩ := St.advTo hok hpw hkL hdep p1 _ ep' Bp' E' s'
      exact ⟨pref'', ep'', Bp'', E'', h2.trans h1, s''⟩
    | false =>
      have hp : pm.testBit x.1 = true := by
        rcases (relP_ne (hpost.1 k (by simp))).2.2 with h | h | h
        · have := hdep x.1 h; rw [hlx] at this; simp at this
        · rw [hkL] at h; simp at h
        · exact h.1
      obtain ⟨ep', s'⟩ := s.advPure hok hpw hp hlx
      exact St.advTo hok hpw hkL hdep p1 _ ep' Bp E s'
end

theorem draw_any (hT : TOK P T) {n m : Nat} {D0 : Nat → Prop} {w0 : World} {K0 : Know} {Qx : Exit → Act → World → Prop} (hok : ∀ i o, ops[i]? = some o → Chk T N ops D pm i o) (hpw : pwB (relP ops D pm) plan = true) (hall : ∀ i, i < ops.size → ∃ a ∈ plan, a.1 = i) (hin : ∀ a ∈ plan, a.1 < ops.size)
    (hdN : ∀ (i : Nat) (o : Oper), ops[i]? = some o → opDst N o = true) (hQ : ∀ e B H K jj a w, Q e B H → Wd N m D0 w0 K0 e B H K jj a w → Qx .normal a w) :
    ∀ (fuel : Nat) (listed : Array Bool) (pref post : Plan) (e ep : Env) (Bp : Box) (E : Nat → Option (List LV)) (H : OHeap) (K : Know) (jj : Nat → Nat) (a : Act) (w : World),
      St P T ops D pm Q plan listed pref post e ep Bp E H → Wd N m D0 w0 K0 e (addB Bp E) H K jj a w → cntU listed ops.size ≤ fuel → wpAnyIn (Fw ρ) n P .any ops Qx fuel listed a w := by
  intro fuel
  induction fuel with
  | zero =>
    intro listed pref post e ep Bp E H K jj a w s W hc
    have hl : Region.ready .any ops listed = [] := by
      cases hr : Region.ready .any ops listed with
      | nil => rfl
      | cons i l =>
        obtain ⟨o, ho, hu, _⟩ := mem_ready s.size (i := i) (by rw [hr]; simp)
        have := cntU_set (by rw [s.size]; exact lt_of_some ho) hu ops.size (lt_of_some ho)
        omega
    exact ⟨hl, hQ _ _ _ _ _ _ _ (St.finish hok hpw hall hin (none_ready hok s.size hl) post pref ep Bp E s) W⟩
  | succ fuel ih =>
    intro listed pref post e ep Bp E H K jj a w s W hc
    refine ⟨fun hl => hQ _ _ _ _ _ _ _ (St.finish hok hpw hall hin (none_ready hok s.size hl) post pref ep Bp E s) W, fun i hi => ?_⟩
    obtain ⟨o, ho, hu, hr⟩ := mem_ready s.size hi
    have hcs := cntU_set (by rw [s.size]; exact lt_of_some ho) hu ops.size (lt_of_some ho)
    have hdep := down_dep hok s.down i o ho hr
    obtain ⟨b, hb, hbi⟩ := hall i (lt_of_some ho)
    subst hbi
    have hdo := hdN _ o ho
    rw [s.split, List.mem_append] at hb
    have pend : ∀ {pref post : Plan} {ep : Env} {Bp : Box} {E : Nat → Option (List LV)}, St P T ops D pm Q plan listed pref post e ep Bp E H → Wd N m D0 w0 K0 e (addB Bp E) H K jj a w → b ∈ pref →
        wpOpIn (Fw ρ) n P ops Qx b.1 (wpAnyIn (Fw ρ) n P .any ops Qx fuel (listed.setIfInBounds b.1 true)) a w := fun s W hb =>
      s.execPend hT hok hpw hall hb ho hdo hu hr W fun a' w' e' K1 jj' s' W' => ih _ _ _ _ _ _ _ _ _ _ _ _ s' W' (by omega)
    rcases hb with hb | hb
    · exact pend s W hb
    · cases hal : isAlloc o with
      | true =>
        have hpm : pm.testBit b.1 = false := by
          cases hh : pm.testBit b.1 with
          | false => rfl
          | true =>
            have := (hok b.1 o ho).pure hh
            unfold isAlloc at hal
            unfold pureOp at this
            split at hal
            · rename_i t hop; simp [hop] at this
            · simp at hal
        exact s.execAlloc hT hok hpw hb ho hal hpm hdo hu hr W fun a' w' e' E' K1 jj' s' W' => ih _ _ _ _ _ _ _ _ _ _ _ _ s' W' (by omega)
      | false =>
        have hkL : kL ops b.1 = false := by simp [kL, ho, hal]
        obtain ⟨p1, p2, hsp⟩ := List.append_of_mem hb
        subst hsp
        obtain ⟨pref', ep', Bp', E', h1, s'⟩ := St.advTo hok hpw hkL hdep p1 pref ep Bp E s
        rw [← h1] at W
        cases hpm : pm.testBit b.1 with
        | true =>
          obtain ⟨ep'', s''⟩ := s'.advPure hok hpw hpm hu
          exact pend s'' W (by simp)
        | false =>
          exact s'.execAnchor hT hok hpw hall ho hal hpm hdo hu hr W fun a' w' e' ep'' Bp'' H'' K1 jj' s'' W' => ih _ _ _ _ _ _ _ _ _ _ _ _ s'' W' (by omega)

/-- A DRAWN REGION BY ONE ORDER. -/
theorem WP.draw (hT : TOK P T) (hm : P.follows .mixedOrders = true) {id : Nat} {Q : Post} {e : Env} {B : Box} {H : OHeap} (plan : Plan) (D : List Nat) (pm : Nat) (hok : drawOk T N ops plan D pm = true)
    (h : vcD P T ops plan (Q .norm) e (delBs B ops.toList) H) : WP P ρ N (.region id ops true) Q e B H := by
  intro hd n m K jj w a g t d
  simp only [drawOk, Bool.and_eq_true, List.all_eq_true, List.mem_range, decide_eq_true_eq] at hok
  obtain ⟨⟨h1, h2⟩, h3⟩ := hok
  have hchk : ∀ (i : Nat) (o : Oper), ops[i]? = some o → Chk T N ops D pm i o := fun i o hi => Chk.of hi (h1 i (lt_of_some hi)).1
  have hall : ∀ i, i < ops.size → ∃ a ∈ plan, a.1 = i := fun i hi => by
    have := (h1 i hi).2
    simp only [List.any_eq_true, beq_iff_eq] at this
    exact this
  have hdN : ∀ (i : Nat) (o : Oper), ops[i]? = some o → opDst N o = true := fun i o hi => by
    have : ops.toList.all (opDst N) = true := hd
    rw [List.all_eq_true] at this
    exact this o (by obtain ⟨h1, rfl⟩ := Array.getElem?_eq_some_iff.1 hi; simp)
  obtain ⟨g1, hdm, ht1⟩ := delBs_good (N := N) ops.toList B g
  have g2 : Good K jj (delBs B ops.toList) H w.drew := g1.drew
  refine wpIn_region_any hm ?_
  show wpAnyIn (Fw ρ) n P .any ops _ ops.size (Array.replicate ops.size false) a w.drew
  have hlst : ∀ i, lst (Array.replicate ops.size false) i = false := fun i => by
    unfold lst
    simp only [Array.getD_eq_getD_getElem?, Array.getElem?_replicate]
    split <;> rfl
  have hcnt : ∀ n, cntU (Array.replicate ops.size false) n = n := fun n => by
    induction n with
    | zero => rfl
    | succ n ih => simp only [cntU]; rw [ih, hlst]; simp
  have hadd : addB (delBs B ops.toList) (fun _ => none) = delBs B ops.toList := by funext d; rfl
  have fr : Fr (dom H B jj) w K (dom H (delBs B ops.toList) jj) w.drew K := ((Fr.refl (dom H B jj) w K).weak hdm).drew
  refine draw_any (Q := Q .norm) (plan := plan) (D0 := dom H B jj) (w0 := w) (K0 := K) (m := m) hT hchk h3 hall h2 hdN ?_ ops.size (Array.replicate ops.size false) [] plan e e (delBs B ops.toList) (fun _ => none) H K jj a w.drew
    ⟨rfl, fun i o hi hl => by rw [hlst] at hl; simp at hl, by simp, ⟨fun d hd => by simp at hd, fun d ⟨b, hb, o, ho, hs⟩ => ?_⟩, h, fun a ha => (by cases ha), fun a ha hl => (by rw [hlst] at hl; simp at hl), fun t _ => rfl, fun d hd => by simp at hd⟩
    ⟨by rw [hadd]; exact g2, by rw [hadd]; exact ht1 e a.tmps t, by rw [hadd]; exact d.fr fr, by rw [hadd]; exact fr⟩ (by rw [hcnt]; exact Nat.le_refl _)
  · intro e' B' H' K' jj' a' w' hq W
    exact ⟨.norm, K', jj', e', B', H', rfl, W.g, W.t, W.d, W.f, hq⟩
  · exact delBs_alloc ops.toList B o d (by obtain ⟨h1, rfl⟩ := Array.getElem?_eq_some_iff.1 ho; simp) hs

end
end Go.Lv
