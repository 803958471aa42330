/- Texts of this proof, put together: Jd2, Jd3, Jd4, Jd5, Jd6, Jp1, Jd7, Jr0, Jp2, Jd8. No condition. -/
import Derived.Test.YtnmgjclaegpnoaaM4
import Derived.Test.YtnmgjclaegpnoaaRows
/- wait.reached. -/
namespace Go.Lv
open Go Go.Proofs
set_option maxRecDepth 10000
set_option linter.unusedSimpArgs false
set_option linter.unusedVariables false

/-- What a search yields. -/
def ReachQ (t : List (Int × List Int)) (from_ : Int) (J : List Int → OHeap → Prop) (Jx : OHeap → Prop) (y : LV) (H' : OHeap) : Prop := (∃ xs, (∀ b, b ∈ xs ↔ RPath t from_ b) ∧ J xs H') ∨ Jx H'

theorem OutV.sub {ys : List LV} {G H : OHeap} {x : LV} (h : OutV ys G x H) : subH G H := fun b o hb => h.toSome hb
theorem OutV.pop {ys : List LV} {z : LV} {G H : OHeap} {b n c : Nat} (h : OutV (ys ++ [z]) G (.sl b 0 n c) H) : OutV ys G (.sl b 0 (n - 1) c) H := by
  rcases h with ⟨h1, h2, rfl⟩ | ⟨b', c', rest, h1, h2, h3, rfl⟩
  · simp at h1
  · cases h3
    simp at h2 ⊢
    exact .inr ⟨b, c, z :: rest, h1, by omega, by simp, by simp⟩

/-- In the midst of a search. -/
structure RchI (ws : List Wt) (from_ : Int) (mb : Nat) (J : List Int → OHeap → Prop) (cur : Option Int) (td pre : List Int) (m : MB) (c : Nat) (y : LV) (H' : OHeap) : Prop where
  heap : ∃ Hj, J pre Hj ∧ Hj mb = none ∧ OutV (td.map i64) (setH Hj mb (.map m.lo c)) y H'
  srch : Srch (wtell ws) from_ cur td pre
  at_ : ∀ z, cur = some z → z = from_ ∨ z ∈ pre
  get : ∀ j, MB.get m j = decide (j ∈ pre)
  len : td.length ≤ pre.length + 1
theorem RchI.bound {ws : List Wt} {from_ : Int} {mb : Nat} {J : List Int → OHeap → Prop} {cur : Option Int} {td pre : List Int} {m : MB} {c : Nat} {y : LV} {H' : OHeap} (h : RchI ws from_ mb J cur td pre m c y H') : pre.length ≤ (targets (wtell ws)).length :=
  nodup_sub_len h.srch.nodup fun a ha => (h.srch.reach a ha).target

theorem reached1_lv (f : Bool) (ws : List Wt) (from_ : Int) (hl : ws.length < 2 ^ 38) (hfl : ∀ w ∈ ws, w.fr.length < 2 ^ 38) (ht : (targets (wtell ws)).length < 2 ^ 38) (yl : Nat) (J : List Int → OHeap → Prop) (Jx : OHeap → Prop)
    (hy : ∀ pre x H', x ∉ pre → RPath (wtell ws) from_ x → J pre H' → YieldL Try.prog yl [i64 x] H' fun r H'' => (r = .bool true ∧ J (pre ++ [x]) H'') ∨ (r = .bool false ∧ Jx H'')) (H : OHeap) (h0 : J [] H) :
    CallL Try.prog 101 [.yld yl, .iptr [i64 from_], .iptr [waitsL f ws]] H (ReachQ (wtell ws) from_ J Jx) := by
  refine CallL.of_wp (n := 3) tok Try.func101 (c := _) rfl (by kernel_rfl) rfl ?_
  refine WP.cut tok ?_
  simp -implicitDefEqProofs [nobox]
  intro mb hmb
  simp -implicitDefEqProofs [nobox]
  refine WP.seq (WP.region ?_)
  refine WPO.step_op (by intro c hc; cases hc) rfl ((pf_sound tok (x := i64 from_) ?_).step ?_)
  · rfl
  refine WPO.step_op (by intro c hc; cases hc) rfl (step_buildOwn tok (t := 38) (el := 3) (n := 1) (ps := #[(0, .tmp 13)]) (ti := ⟨.slice 3, 1, 24, [.nilsl]⟩) (ei := ⟨.int .i64, 1, 8, [.int .i64 0]⟩) (cells := [i64 from_]) rfl rfl rfl rfl (by simp) ?_ fun tb htb => ?_)
  · rfl
  refine WPO.step_op (by intro c hc; cases hc) rfl ((pf_sound tok (x := .sl tb 0 1 1) ?_).step (WPO.nil ?_))
  · rfl
  refine Then.go tok ?_
  simp -implicitDefEqProofs [nobox]
  refine WP.loopG (σ := List Int × List Int × MB × Nat) (fun s e B H' => RchI ws from_ mb J none s.1 s.2.1 s.2.2.1 s.2.2.2 (e 5) H' ∧ e 0 = .yld yl ∧ e 1 = .iptr [i64 from_] ∧ e 2 = .iptr [waitsL f ws] ∧ e 4 = .mp mb) (fun s => 2 * ((targets (wtell ws)).length - s.2.1.length) + s.1.length) ([from_], [], [], 0) ?_ ?_
  · refine ⟨⟨⟨H, h0, hmb, .inr ⟨tb, 1, [], htb, by simp, by simp, by simp [MB.lo]⟩⟩, Srch.start _ _, (fun z hz => by cases hz), by simp [MB.get, MB.find], by simp⟩, by simp, by simp, by simp, by simp⟩
  · rintro ⟨td, pre, m, c⟩ e B H' ⟨hI, e0, e1, e2, e4⟩
    simp only [] at hI
    generalize e5 : e 5 = y at hI
    refine vc_sound tok _ _ _ _ _ ?_
    have hb1 := hI.bound
    have hb2 := hI.len
    obtain ⟨Hj, hJ, hmbj, hout⟩ := hI.heap
    by_cases h0 : td = []
    · subst h0
      have hno : ∃ s, (fun x : LV => y = .nilsl ∨ ∃ b c, y = .sl b 0 0 c) s := ⟨.nilsl, by
        rcases hout with ⟨_, h2, _⟩ | ⟨b, c, rest, h1, h2, h3, h4⟩
        · exact .inl h2
        · exact .inr ⟨b, c, by simpa using h3⟩⟩
      obtain ⟨_, hno⟩ := hno
      have hend : Ends (ReachQ (wtell ws) from_ J Jx) (.tup []) H' := by
        have hs : subH Hj H' := (subH.set hmbj).trans hout.sub
        exact Ends.wk (Wk.sub hs _) (Ends.of (.inl ⟨pre, fun b => hI.srch.done b, hJ⟩))
      rcases hno with rfl | ⟨b, c', rfl⟩ <;> simp -implicitDefEqProofs [e0, e1, e2, e4, e5] <;> exact hend
    · obtain ⟨ini, x, rfl⟩ : ∃ ini x, td = ini ++ [x] := ⟨td.dropLast, td.getLast h0, (List.dropLast_concat_getLast h0).symm⟩
      rcases hout with ⟨h1, _, _⟩ | ⟨b, cc, rest, hbn, hlc, rfl, rfl⟩
      · simp at h1
      have hlen : (List.map i64 (ini ++ [x])).length = ini.length + 1 := by simp
      rw [hlen] at e5 hlc
      have hsx := hI.srch.pop
      simp at hb2
      have hwi : IntKind.i64.wrap (ini.length : Int) = (ini.length : Int) := wrap64 (by omega) (by omega)
      have hrow : (List.map i64 ini ++ i64 x :: rest)[ini.length]? = some (i64 x) := by simp
      have hle : ini.length ≤ cc := by omega
      simp -implicitDefEqProofs [e0, e1, e2, e4, e5, hwi, hrow, hle, waitsL]
      have hout1 : OutV (ini.map i64) (setH Hj mb (.map m.lo c)) (.sl b 0 ini.length cc) (setH (setH Hj mb (.map m.lo c)) b (.cells (List.map i64 ini ++ i64 x :: rest) cc)) :=
        .inr ⟨b, cc, i64 x :: rest, hbn, by simpa using hle, by simp, rfl⟩
      refine ⟨by omega, by omega, ?_⟩
      refine WP.loopG (σ := Nat × List Int × List Int × MB × Nat) (fun s e B H' => RchI ws from_ mb J (some x) s.2.1 s.2.2.1 s.2.2.2.1 s.2.2.2.2 (e 5) H' ∧ e 0 = .yld yl ∧ e 1 = .iptr [i64 from_] ∧ e 2 = .iptr [waitsL f ws] ∧ e 4 = .mp mb ∧ e 7 = i64 x ∧ e 28 = waitsL f ws ∧ e 29 = i64 ws.length ∧ e 30 = i64 s.1 ∧ s.1 ≤ ws.length ∧
          s.2.2.1.length + ini.length = s.2.1.length + pre.length ∧ pre.length ≤ s.2.2.1.length ∧ (∀ w ∈ ws.take s.1, w.tx = x → ∀ b ∈ w.fr, b ∈ s.2.2.1)) (fun s => ws.length - s.1) (0, ini, pre, m, c) ?_ ?_
      · refine ⟨⟨⟨Hj, hJ, hmbj, by simpa using hout1⟩, hsx, (fun z hz => by cases hz; exact hI.srch.here x (by simp)), hI.get, by simp only []; omega⟩, ?_⟩
        simp [e0, e1, e2, e4, e5, waitsL]; omega
      · rintro ⟨i, td', pre', m', c'⟩ e B H' ⟨hI', e0, e1, e2, e4, e7, e28, e29, e30, hi, hcnt, hgrow, hdone⟩
        simp only [] at hI' e30 hi hcnt hgrow hdone
        generalize e5 : e 5 = y at hI'
        refine vc_sound tok _ _ _ _ _ ?_
        rcases Nat.lt_or_ge i ws.length with hlt | hge
        · have hw := wnext hlt (by omega)
          have hfr := hfl ws[i] (List.getElem_mem hlt)
          simp -implicitDefEqProofs [e0, e1, e2, e4, e5, e7, e28, e29, e30, hlt, waitsL, Wt.lv, seg, intsL, rowL]
          have hskip : ∀ (pre'' : List Int), ws[i].tx ≠ x → (∀ w ∈ ws.take i, w.tx = x → ∀ b ∈ w.fr, b ∈ pre'') → ∀ w ∈ ws.take (i + 1), w.tx = x → ∀ b ∈ w.fr, b ∈ pre'' := fun pre'' hne hd w hw hx => by
            rw [List.take_add_one, List.getElem?_eq_getElem hlt] at hw
            rcases List.mem_append.1 hw with h | h
            · exact hd w h hx
            · simp at h; subst h; exact absurd hx hne
          refine ⟨fun heq => ?_, fun hne => ?_⟩
          · have heq : ws[i].tx = x := by simpa using heq
            refine WP.loopG (σ := Nat × List Int × List Int × MB × Nat) (fun s e B H' => RchI ws from_ mb J (some x) s.2.1 s.2.2.1 s.2.2.2.1 s.2.2.2.2 (e 5) H' ∧ e 0 = .yld yl ∧ e 1 = .iptr [i64 from_] ∧ e 2 = .iptr [waitsL f ws] ∧ e 4 = .mp mb ∧ e 7 = i64 x ∧ e 28 = waitsL f ws ∧ e 29 = i64 ws.length ∧ e 30 = i64 i ∧
                e 39 = intsL ws[i].f ws[i].fr ∧ e 40 = i64 ws[i].fr.length ∧ e 41 = i64 s.1 ∧ s.1 ≤ ws[i].fr.length ∧
                s.2.2.1.length + ini.length = s.2.1.length + pre.length ∧ pre.length ≤ s.2.2.1.length ∧ (∀ w ∈ ws.take i, w.tx = x → ∀ b ∈ w.fr, b ∈ s.2.2.1) ∧ (∀ b ∈ ws[i].fr.take s.1, b ∈ s.2.2.1)) (fun s => ws[i].fr.length - s.1) (0, td', pre', m', c') ?_ ?_
            · refine ⟨by simpa [e5] using hI', ?_⟩
              simp [e0, e1, e2, e4, e7, e28, e29, e30, waitsL, intsL, rowL, hcnt, hgrow]
              exact hdone
            · clear hcnt hgrow hdone hskip hI' e5 e4 e7 e2 e1 e0 e28 e29 e30
              rintro ⟨j, td', pre', m', c'⟩ e B H' ⟨hI', e0, e1, e2, e4, e7, e28, e29, e30, e39, e40, e41, hj, hcnt, hgrow, hdone, hdj⟩
              simp only [] at hI' e41 hj hcnt hgrow hdone hdj
              generalize e5 : e 5 = y at hI'
              refine vc_sound tok _ _ _ _ _ ?_
              rcases Nat.lt_or_ge j ws[i].fr.length with hjt | hjg
              · have hwj := wnext hjt (by omega)
                obtain ⟨Hj, hJ, hmbj, hout⟩ := hI'.heap
                have hHm : H' mb = some (.map m'.lo c') := hout.toSome (by simp)
                have hyg := hout.glob
                have hbd := hI'.bound
                have hln := hI'.len
                have hgm : MB.get m' ws[i].fr[j] = decide (ws[i].fr[j] ∈ pre') := hI'.get _
                have htake : ∀ pre'' : List Int, (∀ b ∈ ws[i].fr.take j, b ∈ pre'') → ws[i].fr[j] ∈ pre'' → ∀ b ∈ ws[i].fr.take (j + 1), b ∈ pre'' := fun pre'' h1 h2 b hb => by
                  rw [List.take_add_one, List.getElem?_eq_getElem hjt] at hb
                  rcases List.mem_append.1 hb with h | h
                  · exact h1 b h
                  · simp at h; subst h; exact h2
                simp -implicitDefEqProofs [e0, e1, e2, e4, e5, e7, e28, e29, e30, e39, e40, e41, hlt, hjt, waitsL, Wt.lv, seg, intsL, rowL, hHm, MB.findL, lu3_get, hgm]
                refine ⟨fun hin => ?_, fun hnin => ?_⟩
                · refine Next.of (j + 1, td', pre', m', c') (by simp only []; omega) ?_
                  refine ⟨by simpa [e5] using hI', ?_⟩
                  simp [e0, e1, e2, e4, e7, e28, e29, e30, e39, e40, waitsL, intsL, rowL, hwj, hcnt, hgrow]
                  exact ⟨by omega, hdone, htake pre' hdj (by simpa using hin)⟩
                · have hnin : ws[i].fr[j] ∉ pre' := by simpa using hnin
                  rw [mu3_put]
                  have hup := hout.upd (b := mb) (.map (MB.put m' c' ws[i].fr[j] true).lo (MB.clk m' c' ws[i].fr[j])) (by simp)
                  rw [setH_setH] at hup
                  have hxin : x = from_ ∨ x ∈ pre' := hI'.at_ x rfl
                  have hpush := hI'.srch.push (b := ws[i].fr[j]) (r := ws[i].fr) hxin (List.mem_map.2 ⟨ws[i], List.getElem_mem hlt, by rw [heq]⟩) (List.getElem_mem hjt) hnin
                  simp -implicitDefEqProofs [e0, e1, e2, e4, e5, e7, e28, e29, e30, e39, e40, e41, hlt, hjt, waitsL, Wt.lv, seg, intsL, rowL]
                  refine (OutV.yield hup hmbj (hy pre' ws[i].fr[j] Hj hnin (hpush.reach _ (by simp)) hJ)).mono fun r H'' hr => ?_
                  obtain ⟨H1, hr, hm1, hout2⟩ := hr
                  rcases hr with ⟨rfl, hr⟩ | ⟨rfl, hr⟩
                  · simp -implicitDefEqProofs [e0, e1, e2, e4, e5, e7, e28, e29, e30, e39, e40, e41, hlt, hjt, waitsL, Wt.lv, seg, intsL, rowL, hyg]
                    refine OutV.append (z := i64 ws[i].fr[j]) hout2 (by simp; omega) (by simp) rfl fun y' H3 hy' => ?_
                    have hy1 := hy'.one
                    simp -implicitDefEqProofs [e0, e1, e2, e4, e5, e7, e28, e29, e30, e39, e40, e41, hy1, lcells_one hy1, hy'.glob]
                    refine Next.of (j + 1, td' ++ [ws[i].fr[j]], pre' ++ [ws[i].fr[j]], MB.put m' c' ws[i].fr[j] true, MB.clk m' c' ws[i].fr[j]) (by simp only []; omega) ?_
                    refine ⟨⟨⟨H1, hr, hm1, by simpa using hy'⟩, hpush, fun z hz => (hI'.at_ z hz).imp id fun h => by simp [h], fun k => ?_, by simp; omega⟩, ?_⟩
                    · simp only []
                      rw [MB.get_put, hI'.get]
                      by_cases hk : k = ws[i].fr[j] <;> simp [hk]
                    · simp [e0, e1, e2, e4, e7, e28, e29, e30, e39, e40, waitsL, intsL, rowL, hwj]
                      refine ⟨by omega, by omega, by omega, fun w hw hx b hb => .inl (hdone w hw hx b hb), fun b hb => ?_⟩
                      have := htake (pre' ++ [ws[i].fr[j]]) (fun b hb => by simp [hdj b hb]) (by simp) b hb
                      simpa using this
                  · simp -implicitDefEqProofs [e0, e1, e2, e4, e5, e7, e28, e29, e30, e39, e40, e41]
                    have hs : subH H1 H'' := (subH.set hm1).trans hout2.sub
                    exact Ends.wk (Wk.sub hs _) (Ends.of (.inr hr))
              · have hno : ¬ j < ws[i].fr.length := by omega
                simp -implicitDefEqProofs [e0, e1, e2, e4, e5, e7, e28, e29, e30, e39, e40, e41, hno, waitsL]
                refine Next.of (i + 1, td', pre', m', c') (by simp only []; omega) ?_
                refine ⟨by simpa [e5] using hI', ?_⟩
                simp [e0, e1, e2, e4, e7, e28, e29, waitsL, hw, hcnt, hgrow]
                rw [List.take_of_length_le hjg] at hdj
                refine ⟨by omega, fun w hw hx b hb => ?_⟩
                rw [List.take_add_one, List.getElem?_eq_getElem hlt] at hw
                rcases List.mem_append.1 hw with h | h
                · exact hdone w h hx b hb
                · simp at h; subst h; exact hdj b hb
          · have hne : ¬ ws[i].tx = x := by simpa using hne
            refine Next.of (i + 1, td', pre', m', c') (by simp only []; omega) ?_
            refine ⟨by simpa [e5] using hI', ?_⟩
            simp [e0, e1, e2, e4, e7, e28, e29, waitsL, hw, hcnt, hgrow]
            exact ⟨by omega, hskip pre' hne hdone⟩
        · have hno : ¬ i < ws.length := by omega
          simp -implicitDefEqProofs [e0, e1, e2, e4, e5, e7, e28, e29, e30, hno, waitsL]
          rw [List.take_of_length_le hge] at hdone
          have hbd := hI'.bound
          refine Next.of (td', pre', m', c') (by simp; omega) ?_
          refine ⟨⟨?_, hI'.srch.finish ?_, (fun z hz => by cases hz), hI'.get, hI'.len⟩, ?_⟩
          · simpa [e5] using hI'.heap
          · intro r hr b hb
            obtain ⟨w, hw, he⟩ := List.mem_map.1 hr
            simp at he
            exact hdone w hw he.1 b (by rw [he.2]; exact hb)
          · simp [e0, e1, e2, e4, waitsL]
end Go.Lv
/- wait.Reach, wait.Circle, wait.Still, judge.Serial. -/
namespace Go.Lv
open Go Go.Proofs
set_option maxRecDepth 10000
set_option linter.unusedSimpArgs false
set_option linter.unusedVariables false

open Classical in
/-- Does one reach another one? -/
noncomputable def gReach (t : List (Int × List Int)) (a b : Int) : Bool := decide (RPath t a b)
theorem gReach_iff (t : List (Int × List Int)) (a b : Int) : gReach t a b = true ↔ RPath t a b := by unfold gReach; simp

/-- How great waits are at most. -/
structure WtOk (ws : List Wt) : Prop where
  len : ws.length < 2 ^ 38
  fr : ∀ w ∈ ws, w.fr.length < 2 ^ 38
  all : (targets (wtell ws)).length < 2 ^ 38

theorem reached_lv (f : Bool) (ws : List Wt) (from_ : Int) (H : OHeap) :
    CallL Try.prog 96 [waitsL f ws, i64 from_] H (FnIs 101 [.iptr [i64 from_], .iptr [waitsL f ws]] H) := by
  refine CallL.of_wp (n := 2) tok Try.func96 (c := _) rfl (by kernel_rfl) rfl ?_
  refine WP.cut tok ?_
  simp -implicitDefEqProofs [nobox]
  refine Then.below (Below.ibox (d := 2) (ver := 1) (cs := [waitsL f ws]) (by simp [nobox])) ?_
  refine Then.below (Below.ibox (d := 3) (ver := 1) (cs := [i64 from_]) (by simp [nobox, iboxV])) ?_
  refine Then.go tok ?_
  simp -implicitDefEqProofs [nobox, iboxV]
  exact Ends.of ⟨rfl, rfl⟩

theorem enters101 : Enters Try.prog 101 := ⟨_, Try.func101, by kernel_rfl, by kernel_rfl⟩
theorem reach_lv (f : Bool) (ws : List Wt) (from_ to_ : Int) (hok : WtOk ws) (H : OHeap) :
    CallL Try.prog 79 [waitsL f ws, i64 from_, i64 to_] H fun y H' => y = .bool (gReach (wtell ws) from_ to_) ∧ H' = H := by
  refine CallL.of_wp (n := 3) tok Try.func79 (c := _) rfl (by kernel_rfl) rfl ?_
  refine WP.cut tok ?_
  simp -implicitDefEqProofs [nobox]
  refine Then.below (Below.ibox (d := 5) (ver := 1) (cs := [i64 to_]) (by simp [nobox])) ?_
  refine WP.nbox (d := 6) (ver := 1) (cs := [.bool false]) (by simp [nobox]) fun b hb => ?_
  refine WP.cut tok ?_
  simp -implicitDefEqProofs [nobox, nboxV, iboxV, waitsL]
  refine (reached_lv f ws from_ _).mono fun y H' hy => ?_
  obtain ⟨rfl, rfl⟩ := hy
  simp -implicitDefEqProofs [nobox, nboxV, iboxV]
  refine WP.rangeFunc (X := Int) (f := 101) (lb := [.iptr [i64 from_], .iptr [waitsL f ws]]) (by simp) enters101 (fun d => by by_cases h1 : d = 5 <;> by_cases h2 : d = 6 <;> simp [nobox, h1, h2]) (fun p => [i64 p]) (fun p => rfl)
    (fun pre H' => H' = setH H b (.cells [.bool false] 1) ∧ to_ ∉ pre) (fun z H' => z = .ret ∧ H' = setH H b (.cells [.bool true] 1) ∧ RPath (wtell ws) from_ to_) (fun xs => ∀ b, b ∈ xs ↔ RPath (wtell ws) from_ b) (fun pre p => p ∉ pre ∧ RPath (wtell ws) from_ p) ?_ ?_ ?_ ?_ ?_
  · exact ⟨rfl, by simp⟩
  · intro yl o J' Jx' hyl hy h0
    refine (reached1_lv f ws from_ hok.len hok.fr hok.all yl J' Jx' (fun pre p H' h1 h2 hJ => hy pre p H' ⟨h1, h2⟩ hJ) _ h0).mono fun y H' hq => ?_
    exact hq
  · rintro yl pre p H' ⟨hp1, hp2⟩ ⟨rfl, hpre⟩
    refine vc_sound tok _ _ _ _ _ ?_
    simp -implicitDefEqProofs [nobox, nboxV, iboxV]
    refine (vc_sound tok _ _ _ _ _ ?_ : WP _ _ _ _ _ _ _ _)
    simp -implicitDefEqProofs [nobox, nboxV, iboxV, seg]
    refine ⟨fun h => ?_, fun h => ?_⟩
    · have h : p = to_ := by simpa using h
      subst h
      refine ⟨?_, hp2⟩
      first | rw [setH_setH] | rfl
    · have h : ¬ to_ = p := fun hh => by subst hh; simp at h
      exact ⟨hpre, h⟩
  · rintro xs H' hxs ⟨rfl, hpre⟩
    have hgs : gReach (wtell ws) from_ to_ = false := by
      rw [← Bool.not_eq_true, gReach_iff, ← hxs]; exact hpre
    simp
    refine (vc_sound tok _ _ _ _ _ ?_ : WP _ _ _ _ _ _ _ _)
    simp -implicitDefEqProofs [nobox, nboxV, iboxV, seg]
    refine Ends.wk (Wk.del b _) (Ends.of ⟨by rw [hgs], ?_⟩)
    rw [setH_setH, delH_setH hb]
  · rintro z H' hz ⟨rfl, rfl, hgs⟩
    simp -implicitDefEqProofs [nobox, nboxV, iboxV]
    exact Ends.wk (Wk.del b _) (Ends.of ⟨by rw [(gReach_iff _ _ _).2 hgs], delH_setH hb⟩)

theorem circle_lv (f : Bool) (ws : List Wt) (tx : Int) (hok : WtOk ws) (H : OHeap) :
    CallL Try.prog 49 [waitsL f ws, i64 tx] H fun y H' => y = .bool (gReach (wtell ws) tx tx) ∧ H' = H := by
  refine CallL.of_vc (n := 2) tok Try.func49 (c := _) rfl (by kernel_rfl) rfl ?_
  simp -implicitDefEqProofs
  refine CallL.ret (reach_lv f ws tx tx hok H) ?_
  simp -implicitDefEqProofs
  exact Ends.of ⟨rfl, rfl⟩

theorem still1_lv (f : Bool) (ws : List Wt) (w : Wt) (hok : WtOk ws) (H : OHeap) :
    CallL Try.prog 48 [.agg w.lv, .iptr [waitsL f ws]] H fun y H' => y = .bool (gReach (wtell ws) w.tx w.tx) ∧ H' = H := by
  refine CallL.of_vc (n := 2) tok Try.func48 (c := _) rfl (by kernel_rfl) rfl ?_
  simp -implicitDefEqProofs [Wt.lv, nobox]
  refine CallL.ret (circle_lv f ws w.tx hok H) ?_
  simp -implicitDefEqProofs [nobox]
  exact Ends.of ⟨rfl, rfl⟩

/-- What is known of a predicate on waits that is handed to the library. -/
def PredW (v : LV) (p : Wt → Bool) : Prop := ∃ g caps, v = .fn g [] caps ∧ caps.all LV.glob = true ∧ ∀ (h : Wt) (H : OHeap), CallL Try.prog g (.agg h.lv :: caps) H fun x H' => x = .bool (p h) ∧ H' = H
theorem indexW_lv (v : LV) (p : Wt → Bool) (hp : PredW v p) (f : Bool) (l : List Wt) (H : OHeap) (hl : l.length < 2 ^ 40) :
    CallL Try.prog 78 [waitsL f l, v] H fun x H' => x = i64 (gIdx p 0 l) ∧ H' = H := by
  obtain ⟨g, caps, rfl, hgl, hcall⟩ := hp
  refine CallL.of_vc (n := 2) tok Try.func78 (c := _) rfl (by kernel_rfl) rfl ?_
  simp -implicitDefEqProofs [waitsL]
  refine WP.loopG (σ := Nat) (fun k e B H' => H' = H ∧ k ≤ l.length ∧ e 0 = waitsL f l ∧ e 1 = .fn g [] caps ∧ e 7 = i64 l.length ∧ e 8 = i64 k ∧ gIdx p 0 l = gIdx p k (l.drop k)) (fun k => l.length - k) 0 ?_ ?_
  · simp [waitsL]
  · rintro k e B H' ⟨rfl, hk, h0, h1, h7, h8, hs⟩
    refine vc_sound tok _ _ _ _ _ ?_
    rcases Nat.lt_or_ge k l.length with hlt | hge
    · have hw := wnext hlt (by omega)
      have hdrop : l.drop k = l[k] :: l.drop (k + 1) := List.drop_eq_getElem_cons hlt
      rw [hdrop, gIdx] at hs
      simp -implicitDefEqProofs [h0, h1, h7, h8, waitsL, hlt, Wt.lv]
      refine ⟨by simpa using hgl, CallL.ret (hcall l[k] H') ?_⟩
      cases hpk : p l[k] with
      | true =>
        rw [if_pos hpk] at hs
        simp -implicitDefEqProofs
        exact Ends.of ⟨by rw [hs], rfl⟩
      | false =>
        rw [if_neg (by simp [hpk])] at hs
        simp -implicitDefEqProofs [h8]
        refine Next.of (k + 1) (by omega) ?_
        simp [h0, h1, h7, waitsL, hw, hs]
        omega
    · have : ¬ k < l.length := by omega
      have hd : l.drop k = [] := by simp; omega
      rw [hd, gIdx] at hs
      simp -implicitDefEqProofs [h0, h1, h7, h8, waitsL, this]
      exact Ends.of ⟨by rw [← hs], rfl⟩
theorem containsW_lv (v : LV) (p : Wt → Bool) (hp : PredW v p) (f : Bool) (l : List Wt) (H : OHeap) (hl : l.length < 2 ^ 40) :
    CallL Try.prog 47 [waitsL f l, v] H fun x H' => x = .bool (l.any p) ∧ H' = H := by
  have hp' := hp
  obtain ⟨g, caps, rfl, hgl, _⟩ := hp'
  refine CallL.of_vc (n := 2) tok Try.func47 (c := _) rfl (by kernel_rfl) rfl ?_
  simp -implicitDefEqProofs
  refine CallL.ret (indexW_lv _ p hp f l H hl) ?_
  simp -implicitDefEqProofs
  have := gIdx_any p l 0
  exact Ends.of ⟨by rw [← this]; rfl, rfl⟩
/-- wait.Still -/
noncomputable def gStill (t : List (Int × List Int)) : Bool := !(t.any fun w => gReach t w.1 w.1)
theorem still_lv (f : Bool) (ws : List Wt) (hok : WtOk ws) (H : OHeap) : CallL Try.prog 27 [waitsL f ws] H fun y H' => y = .bool (gStill (wtell ws)) ∧ H' = H := by
  refine CallL.of_wp (n := 1) tok Try.func27 (c := _) rfl (by kernel_rfl) rfl ?_
  refine WP.cut tok ?_
  simp -implicitDefEqProofs [nobox]
  refine Then.below (Below.ibox (d := 1) (ver := 1) (cs := [waitsL f ws]) (by simp [nobox])) ?_
  refine Then.go tok ?_
  simp -implicitDefEqProofs [nobox, iboxV]
  refine CallL.ret (containsW_lv _ (fun w => gReach (wtell ws) w.tx w.tx) ⟨_, _, rfl, by simp, fun w H => still1_lv f ws w hok H⟩ f ws H (by have := hok.len; omega)) ?_
  simp -implicitDefEqProofs
  refine Ends.of ⟨?_, rfl⟩
  unfold gStill wtell
  rw [List.any_map]; rfl
end Go.Lv
/- judge.Serial; bobbinref23.Waits. -/
namespace Go.Lv
open Go Go.Proofs
set_option maxRecDepth 10000
set_option linter.unusedSimpArgs false
set_option linter.unusedVariables false

theorem wtell_len (ws : List Wt) : (wtell ws).length = ws.length := by simp [wtell]
theorem flatMap_len_le {α : Type} (f : α → List Int) (n : Nat) : ∀ (l : List α), (∀ x ∈ l, (f x).length ≤ n) → (l.flatMap f).length ≤ l.length * n
  | [], _ => by simp
  | x :: l, h => by
    have h1 := h x (by simp)
    have h2 := flatMap_len_le f n l fun y hy => h y (by simp [hy])
    simp only [List.flatMap_cons, List.length_append, List.length_cons, Nat.add_mul]
    omega
theorem gBefore_fr {l : List Ev} {w : Int × List Int} (h : w ∈ gBefore l) : w.2.length ≤ l.length := by
  unfold gBefore at h
  split at h
  · obtain ⟨tx, _, rfl⟩ := List.mem_map.1 h
    have h1 := List.length_filter_le (fun j => gEdges l (gPairs l l.length) j tx) (gTxs l)
    have h2 := gTxs_len l
    simp only [gAhead]; omega
  · cases h
theorem gBefore_len (l : List Ev) : (gBefore l).length ≤ l.length := by
  unfold gBefore
  split
  · rw [List.length_map]; exact gTxs_len l
  · simp
theorem WtOk.before {l : List Ev} {ws : List Wt} (h : wtell ws = gBefore l) (hl : l.length ≤ 1000) : WtOk ws := by
  have h1 := gBefore_len l
  have h2 : ∀ w ∈ wtell ws, w.2.length ≤ 1000 := fun w hw => by rw [h] at hw; have := gBefore_fr hw; omega
  refine ⟨by rw [← wtell_len, h]; omega, fun w hw => ?_, ?_⟩
  · have := h2 (w.tx, w.fr) (List.mem_map.2 ⟨w, hw, rfl⟩)
    simp only [] at this; omega
  · have h3 := flatMap_len_le (·.2) 1000 (wtell ws) h2
    have h4 : (wtell ws).length * 1000 ≤ 1000 * 1000 := Nat.mul_le_mul_right _ (by rw [h]; omega)
    show ((wtell ws).flatMap (·.2)).length < 2 ^ 38
    omega

noncomputable def gSerial (l : List Ev) : Bool := gMay [] l && gStill (gBefore l)
theorem serial_lv (f : Bool) (l : List Ev) (H : OHeap) (hl : l.length ≤ 1000) : CallL Try.prog 15 [evsL f l] H fun y H' => y = .bool (gSerial l) ∧ H' = H := by
  refine CallL.of_vc (n := 1) tok Try.func15 (c := _) rfl (by kernel_rfl) rfl ?_
  simp -implicitDefEqProofs
  refine CallL.ret (may_lv f l _ (by omega)) ?_
  cases hm : gMay [] l with
  | false =>
    simp -implicitDefEqProofs
    exact Ends.of ⟨by simp [gSerial, hm], rfl⟩
  | true =>
    simp -implicitDefEqProofs
    refine (before_lv f l H (by omega)).mono fun y H' hy => ?_
    obtain ⟨⟨g, ws, rfl, hw⟩, rfl⟩ := hy
    simp -implicitDefEqProofs
    refine CallL.ret (still_lv g ws (.before hw hl) H') ?_
    simp -implicitDefEqProofs
    exact Ends.of ⟨by rw [hw]; simp [gSerial, hm], rfl⟩

theorem wtell_take {a b : List Wt} {k : Nat} (ha : k < a.length) (hb : k < b.length) (h : wtell (a.take k) = wtell (b.take k)) (he : a[k].tx = b[k].tx) (hv : a[k].fr = b[k].fr) : wtell (a.take (k + 1)) = wtell (b.take (k + 1)) := by
  unfold wtell at *
  rw [List.take_add_one, List.take_add_one, List.map_append, List.map_append, h]; simp [ha, hb, he, hv]
theorem wtell_ne {a b : List Wt} {k : Nat} (ha : k < a.length) (hb : k < b.length) (he : ¬ (a[k].tx = b[k].tx ∧ a[k].fr = b[k].fr)) : decide (wtell a = wtell b) = false := by
  have : wtell a ≠ wtell b := fun h => by
    have h1 : (wtell a)[k]? = (wtell b)[k]? := by rw [h]
    unfold wtell at h1
    rw [List.getElem?_map, List.getElem?_map, List.getElem?_eq_getElem ha, List.getElem?_eq_getElem hb] at h1
    simp at h1
    exact he h1
  simp [this]
theorem waits_lv (f g : Bool) (a b : List Wt) (H : OHeap) (ha : WtOk a) : CallL Try.prog 10 [waitsL f a, waitsL g b] H fun y H' => y = .bool (decide (wtell a = wtell b)) ∧ H' = H := by
  have hal := ha.len
  refine CallL.of_vc (n := 2) tok Try.func10 (c := _) rfl (by kernel_rfl) rfl ?_
  simp -implicitDefEqProofs [waitsL]
  refine ⟨fun hab => ?_, fun hab => ?_⟩
  · have hab : a.length = b.length := by simp at hab; omega
    refine WP.loopG (σ := Nat) (fun k e B H' => H' = H ∧ k ≤ a.length ∧ e 0 = waitsL f a ∧ e 1 = waitsL g b ∧ e 5 = i64 k ∧ wtell (a.take k) = wtell (b.take k)) (fun k => a.length - k) 0 ?_ ?_
    · simp [waitsL]
    · rintro k e B H' ⟨rfl, hk, e0, e1, e5, ht⟩
      refine vc_sound tok _ _ _ _ _ ?_
      rcases Nat.lt_or_ge k a.length with hlt | hge
      · have hw := wnext hlt (by omega)
        have hlb : k < b.length := by omega
        have hfr := ha.fr _ (List.getElem_mem hlt)
        simp -implicitDefEqProofs [e0, e1, e5, waitsL, hlt, hlb, Wt.lv, seg, intsL, rowL]
        refine WP.draws tok mixed [(0, []), (1, []), (2, []), (3, []), (4, []), (5, []), (6, []), (7, []), (8, []), (9, []), (10, []), (11, []), (12, []), (13, []), (14, []), (15, []), (16, []), (17, []), (18, []), (19, []), (20, []), (21, []), (22, []), (23, []), (24, []), (25, [])] [0, 0, 3, 7, 15, 0, 0, 96, 224, 480, 1023, 2047, 4095, 4095, 16383, 32767, 65535, 131071, 4095, 4095, 790527, 1839103, 3936255, 8130559, 16777215, 33554431] 67108863 [] (by kernel_rfl) ?_
        simp -implicitDefEqProofs [e0, e1, e5, waitsL, hlt, hlb, Wt.lv, seg, intsL, rowL]
        refine ⟨fun he => ⟨fun hle => ?_, fun hle => ?_⟩, fun he => ?_⟩
        · have he : a[k].tx = b[k].tx := by simpa using he
          have hle : a[k].fr.length = b[k].fr.length := by simp at hle; omega
          refine WP.loopG (σ := Nat) (fun j e B H'' => H'' = H' ∧ j ≤ a[k].fr.length ∧ e 0 = waitsL f a ∧ e 1 = waitsL g b ∧ e 5 = i64 k ∧ e 6 = i64 j ∧ a[k].fr.take j = b[k].fr.take j) (fun j => a[k].fr.length - j) 0 ?_ ?_
          · simp [waitsL, e0, e1, e5]
          · rintro j e B H'' ⟨rfl, hj, e0, e1, e5, e6, htj⟩
            refine vc_sound tok _ _ _ _ _ ?_
            rcases Nat.lt_or_ge j a[k].fr.length with hjt | hjg
            · have hwj := wnext hjt (by omega)
              have hjb : j < b[k].fr.length := by omega
              simp -implicitDefEqProofs [e0, e1, e5, e6, waitsL, hlt, hlb, Wt.lv, seg, intsL, rowL, hjt, hjb]
              refine WP.draws tok mixed [(0, []), (1, []), (2, []), (3, []), (4, []), (5, []), (6, []), (7, []), (8, []), (9, []), (10, []), (11, []), (12, []), (13, []), (14, []), (15, []), (16, [])] [0, 0, 3, 7, 15, 0, 63, 127, 0, 0, 768, 1792, 3840, 0, 16128, 32512, 65535] 131071 [] (by kernel_rfl) ?_
              simp -implicitDefEqProofs [e0, e1, e5, e6, waitsL, hlt, hlb, Wt.lv, seg, intsL, rowL, hjt, hjb]
              refine ⟨fun h => ?_, fun h => ?_⟩
              · have := take_eq_of hle hjt hjb htj (by simpa using h)
                refine Next.of (j + 1) (by omega) ?_
                simp [e0, e1, e5, waitsL, hwj, this]
                omega
              · refine Ends.of ⟨?_, rfl⟩
                rw [wtell_ne hlt hlb (fun hh => by have := ne_of_at hjt hjb (by simpa using h); simp [hh.2] at this)]
            · have hno : ¬ j < a[k].fr.length := by omega
              simp -implicitDefEqProofs [e0, e1, e5, e6, waitsL, hlt, hlb, Wt.lv, seg, intsL, rowL, hno]
              rw [List.take_of_length_le hjg, List.take_of_length_le (by omega)] at htj
              refine Next.of (k + 1) (by omega) ?_
              have := wtell_take hlt hlb ht he htj
              simp [e0, e1, waitsL, hw, this]
              omega
        · refine Ends.of ⟨?_, rfl⟩
          rw [wtell_ne hlt hlb (fun hh => by rw [hh.2] at hle; simp at hle)]
        · refine Ends.of ⟨?_, rfl⟩
          rw [wtell_ne hlt hlb (fun hh => by simp [hh.1] at he)]
      · have hno : ¬ k < a.length := by omega
        simp -implicitDefEqProofs [e0, e1, e5, waitsL, hno]
        rw [List.take_of_length_le hge, List.take_of_length_le (by omega)] at ht
        exact Ends.of ⟨by simp [ht], rfl⟩
  · refine Ends.of ⟨?_, rfl⟩
    have : wtell a ≠ wtell b := fun h => by
      have := congrArg List.length h; simp [wtell] at this; simp [this] at hab
    simp [this]
end Go.Lv
/- bobbinref13: in, Reached, Reach, Still. -/
namespace Go.Lv
open Go Go.Proofs
set_option maxRecDepth 10000
set_option linter.unusedSimpArgs false
set_option linter.unusedVariables false

theorem in13_lv (l : List Int) (n : Int) (s : LV) (G H : OHeap) (hs : OutV (l.map i64) G s H) (hl : l.length < 2 ^ 40) :
    CallL Try.prog 52 [s, i64 n] H fun y H' => y = .bool (decide (n ∈ l)) ∧ H' = H := by
  rcases hs with ⟨h1, rfl, rfl⟩ | ⟨b, c, rest, h1, h2, rfl, rfl⟩
  · have h1 : l = [] := by simpa using h1
    subst h1
    refine CallL.of_vc (n := 2) tok Try.func52 (c := _) rfl (by kernel_rfl) rfl ?_
    simp -implicitDefEqProofs
    refine WP.loopG (σ := Unit) (fun _ e B H' => H' = H ∧ e 0 = .nilsl ∧ e 1 = i64 n ∧ e 5 = i64 0) (fun _ => 0) () ?_ ?_
    · simp
    · rintro _ e B H' ⟨rfl, e0, e1, e5⟩
      refine vc_sound tok _ _ _ _ _ ?_
      simp -implicitDefEqProofs [e0, e1, e5]
      exact Ends.of ⟨by simp, rfl⟩
  · simp at h2
    refine CallL.of_vc (n := 2) tok Try.func52 (c := _) rfl (by kernel_rfl) rfl ?_
    simp -implicitDefEqProofs
    refine WP.loopG (σ := Nat) (fun k e B H' => H' = setH G b (.cells (List.map i64 l ++ rest) c) ∧ k ≤ l.length ∧ e 0 = .sl b 0 l.length c ∧ e 1 = i64 n ∧ e 5 = i64 k ∧ n ∉ l.take k) (fun k => l.length - k) 0 ?_ ?_
    · simp
    · rintro k e B H' ⟨rfl, hk, e0, e1, e5, hs⟩
      refine vc_sound tok _ _ _ _ _ ?_
      rcases Nat.lt_or_ge k l.length with hlt | hge
      · have hw := wnext hlt (by omega)
        have hrow : (List.map i64 l ++ rest)[k]? = some (i64 l[k]) := by rw [List.getElem?_append_left (by simpa using hlt)]; simp [hlt]
        simp -implicitDefEqProofs [e0, e1, e5, hlt, hrow]
        refine ⟨fun h => ?_, fun h => ?_⟩
        · have h : l[k] = n := by simpa using h
          refine Ends.of ⟨?_, rfl⟩
          have : n ∈ l := by rw [← h]; exact List.getElem_mem _
          simp [this]
        · have h : ¬ l[k] = n := by simpa using h
          refine Next.of (k + 1) (by omega) ?_
          simp [e0, e1, hw]
          refine ⟨by omega, ?_⟩
          rw [List.take_add_one, List.getElem?_eq_getElem hlt]
          intro hh
          rcases List.mem_append.1 hh with hh | hh
          · exact hs hh
          · simp at hh; exact h hh.symm
      · have hno : ¬ k < l.length := by omega
        simp -implicitDefEqProofs [e0, e1, e5, hno]
        rw [List.take_of_length_le hge] at hs
        exact Ends.of ⟨by simp [hs], rfl⟩

/-- What one reaches, in some order. -/
def ReQ (t : List (Int × List Int)) (from_ : Int) (H : OHeap) (y : LV) (H' : OHeap) : Prop := ∃ xs : List Int, (∀ b, b ∈ xs ↔ RPath t from_ b) ∧ xs.length < 2 ^ 39 ∧ OutV (xs.map i64) H y H'
/-- In the midst of it. -/
structure Rch13 (t : List (Int × List Int)) (from_ : Int) (out : List Int) : Prop where
  nodup : out.Nodup
  reach : ∀ j ∈ out, RPath t from_ j
theorem Rch13.bound {t : List (Int × List Int)} {from_ : Int} {out : List Int} (h : Rch13 t from_ out) : out.length ≤ (targets t).length := nodup_sub_len h.nodup fun a ha => (h.reach a ha).target
theorem Rch13.done {t : List (Int × List Int)} {from_ : Int} {out : List Int} (h : Rch13 t from_ out) (hc : ∀ w ∈ t, (w.1 = from_ ∨ w.1 ∈ out) → ∀ b ∈ w.2, b ∈ out) (b : Int) : b ∈ out ↔ RPath t from_ b := by
  refine ⟨h.reach b, fun hp => ?_⟩
  induction hp with
  | one h1 h2 => exact hc _ h1 (.inl rfl) _ h2
  | more _ h1 h2 ih => exact hc _ h1 (.inr ih) _ h2
theorem Rch13.push {t : List (Int × List Int)} {from_ x b : Int} {r out : List Int} (h : Rch13 t from_ out) (hx : x = from_ ∨ x ∈ out) (hr : (x, r) ∈ t) (hb : b ∈ r) (hn : b ∉ out) : Rch13 t from_ (out ++ [b]) := by
  refine ⟨?_, fun j hj => ?_⟩
  · rw [List.nodup_append]
    exact ⟨h.nodup, by simp, fun a ha c hc => by simp at hc; subst hc; exact fun e => hn (by rw [← e]; exact ha)⟩
  · rcases List.mem_append.1 hj with h1 | h1
    · exact h.reach j h1
    · simp at h1; subst h1
      rcases hx with rfl | hx
      · exact .one hr hb
      · exact .more (h.reach x hx) hr hb
/-- .. in a round, which began with these. -/
structure Rnd13 (ws : List Wt) (from_ : Int) (out0 out : List Int) (g : Bool) (i : Nat) : Prop where
  ok : Rch13 (wtell ws) from_ out
  idle : g = false → out = out0 ∧ ∀ w ∈ ws.take i, (w.tx = from_ ∨ w.tx ∈ out0) → ∀ b ∈ w.fr, b ∈ out0
  grew : g = true → out0.length < out.length

theorem reached13_lv (f : Bool) (ws : List Wt) (from_ : Int) (hok : WtOk ws) (H : OHeap) :
    CallL Try.prog 53 [waitsL f ws, i64 from_] H (ReQ (wtell ws) from_ H) := by
  have hl := hok.len
  have hfl := hok.fr
  have hal := hok.all
  refine CallL.of_vc (n := 2) tok Try.func53 (c := _) rfl (by kernel_rfl) rfl ?_
  simp -implicitDefEqProofs [waitsL]
  refine WP.loopG (σ := List Int) (fun out e B H' => Rch13 (wtell ws) from_ out ∧ OutV (out.map i64) H (e 5) H' ∧ e 0 = waitsL f ws ∧ e 1 = i64 from_) (fun out => (targets (wtell ws)).length - out.length) [] ?_ ?_
  · simp [waitsL]
    exact ⟨⟨List.nodup_nil, fun j hj => by cases hj⟩, .inl ⟨rfl, rfl, rfl⟩⟩
  · rintro out0 e B H' ⟨hR, hout, e0, e1⟩
    generalize e5 : e 5 = y at hout
    refine vc_sound tok _ _ _ _ _ ?_
    simp -implicitDefEqProofs [e0, e1, e5, waitsL]
    refine WP.loopG (σ := Nat × List Int × Bool) (fun s e B H' => Rnd13 ws from_ out0 s.2.1 s.2.2 s.1 ∧ OutV (s.2.1.map i64) H (e 5) H' ∧ e 0 = waitsL f ws ∧ e 1 = i64 from_ ∧ e 6 = .bool s.2.2 ∧ e 7 = i64 s.1 ∧ s.1 ≤ ws.length) (fun s => ws.length - s.1) (0, out0, false) ?_ ?_
    · simp [waitsL, e0, e1, e5]
      exact ⟨⟨hR, fun _ => ⟨rfl, by simp⟩, fun h => by cases h⟩, hout⟩
    · clear hR hout e0 e1 e5
      rintro ⟨i, out, g⟩ e B H' ⟨hR, hout, e0, e1, e6, e7, hi⟩
      simp only [] at hR hout e6 e7 hi
      generalize e5 : e 5 = y at hout
      refine vc_sound tok _ _ _ _ _ ?_
      have hbd := hR.ok.bound
      rcases Nat.lt_or_ge i ws.length with hlt | hge
      · have hw := wnext hlt (by omega)
        have hfr := hfl _ (List.getElem_mem hlt)
        have hg := hout.glob
        have htake : ∀ w ∈ ws.take (i + 1), w ∈ ws.take i ∨ w = ws[i] := fun w hw => by
          rw [List.take_add_one, List.getElem?_eq_getElem hlt] at hw
          rcases List.mem_append.1 hw with h | h
          · exact .inl h
          · simp at h; exact .inr h
        simp -implicitDefEqProofs [e0, e1, e5, e6, e7, waitsL, hlt, Wt.lv, seg, intsL, rowL, hg]
        refine CallL.ret (in13_lv out ws[i].tx y H H' hout (by omega)) ?_
        simp -implicitDefEqProofs [e0, e1, e5, e6, e7, waitsL, hlt, Wt.lv, seg, intsL, rowL, hg]
        have hstay : ws[i].tx ≠ from_ → ws[i].tx ∉ out → Rnd13 ws from_ out0 out g (i + 1) := fun h1 h2 =>
          ⟨hR.ok, fun hg => ⟨(hR.idle hg).1, fun w hw hx b hb => by
            rcases htake w hw with h | rfl
            · exact (hR.idle hg).2 w h hx b hb
            · rw [(hR.idle hg).1] at h2
              exact hx.elim (fun h => absurd h h1) fun h => absurd h h2⟩, hR.grew⟩
        refine ⟨fun h1 => ?_, fun h1 => ⟨fun h2 => ?_, fun h2 => ?_⟩⟩
        case' refine_3 =>
          refine Next.of (i + 1, out, g) (by simp only []; omega) ?_
          have := hstay (by simpa using h1) (by simpa using h2)
          refine ⟨by simpa using this, by simpa [e5] using hout, ?_⟩
          simp [e0, e1, e6, waitsL, hw]
          omega
        all_goals
          have hx : ws[i].tx = from_ ∨ ws[i].tx ∈ out := by first | exact .inl (by simpa using h1) | exact .inr (by simpa using h2)
          refine WP.loopG (σ := Nat × List Int × Bool) (fun s e B H' => (Rnd13 ws from_ out0 s.2.1 s.2.2 i ∧ (ws[i].tx = from_ ∨ ws[i].tx ∈ s.2.1) ∧ ∀ b ∈ ws[i].fr.take s.1, b ∈ s.2.1) ∧ OutV (s.2.1.map i64) H (e 5) H' ∧ e 0 = waitsL f ws ∧ e 1 = i64 from_ ∧ e 6 = .bool s.2.2 ∧ e 7 = i64 i ∧ e 9 = i64 s.1 ∧ s.1 ≤ ws[i].fr.length) (fun s => ws[i].fr.length - s.1) (0, out, g) ?_ ?_
          · simp [waitsL, e0, e1, e5, e6, e7]
            exact ⟨⟨hR, hx⟩, hout⟩
          · clear hR hout e0 e1 e5 e6 e7 hx hstay h1 hbd
            rintro ⟨j, out, g⟩ e B H' ⟨⟨hR, hx, hd⟩, hout, e0, e1, e6, e7, e9, hj⟩
            simp only [] at hR hx hd hout e6 e9 hj
            generalize e5 : e 5 = y at hout
            refine vc_sound tok _ _ _ _ _ ?_
            have hbd := hR.ok.bound
            rcases Nat.lt_or_ge j ws[i].fr.length with hjt | hjg
            · have hwj := wnext hjt (by omega)
              have hg := hout.glob
              have hjtake : ∀ out' : List Int, (∀ b ∈ ws[i].fr.take j, b ∈ out') → ws[i].fr[j] ∈ out' → ∀ b ∈ ws[i].fr.take (j + 1), b ∈ out' := fun pre'' h1 h2 b hb => by
                rw [List.take_add_one, List.getElem?_eq_getElem hjt] at hb
                rcases List.mem_append.1 hb with h | h
                · exact h1 b h
                · simp at h; subst h; exact h2
              simp -implicitDefEqProofs [e0, e1, e5, e6, e7, e9, waitsL, hlt, hjt, Wt.lv, seg, intsL, rowL, hg]
              refine CallL.ret (in13_lv out ws[i].fr[j] y H H' hout (by omega)) ?_
              simp -implicitDefEqProofs [e0, e1, e5, e6, e7, e9, waitsL, hlt, hjt, Wt.lv, seg, intsL, rowL, hg]
              refine ⟨fun hin => ?_, fun hnin => ?_⟩
              · refine Next.of (j + 1, out, g) (by simp only []; omega) ?_
                refine ⟨⟨hR, hx, hjtake out hd (by simpa using hin)⟩, by simpa [e5] using hout, ?_⟩
                simp [e0, e1, e6, e7, waitsL, hwj]
                omega
              · have hnin : ws[i].fr[j] ∉ out := by simpa using hnin
                refine OutV.append (z := i64 ws[i].fr[j]) hout (by simp; omega) (by simp) rfl fun y' H3 hy' => ?_
                have hy1 := hy'.one
                simp -implicitDefEqProofs [e0, e1, e5, e6, e7, e9, hy1, lcells_one hy1, hy'.glob]
                have hpush := hR.ok.push (b := ws[i].fr[j]) (r := ws[i].fr) hx (List.mem_map.2 ⟨ws[i], List.getElem_mem hlt, rfl⟩) (List.getElem_mem hjt) hnin
                have hlen : out0.length ≤ out.length := by
                  cases g with
                  | false => rw [(hR.idle rfl).1]; exact Nat.le_refl _
                  | true => exact Nat.le_of_lt (hR.grew rfl)
                refine Next.of (j + 1, out ++ [ws[i].fr[j]], true) (by simp only []; omega) ?_
                refine ⟨⟨⟨hpush, (fun h => by cases h), fun _ => by simp; omega⟩, hx.imp id fun h => by simp [h], hjtake _ (fun b hb => by simp [hd b hb]) (by simp)⟩, by simpa using hy', ?_⟩
                simp [e0, e1, e7, waitsL, hwj]
                omega
            · have hno : ¬ j < ws[i].fr.length := by omega
              simp -implicitDefEqProofs [e0, e1, e5, e6, e7, e9, waitsL, hlt, Wt.lv, seg, intsL, rowL, hno]
              rw [List.take_of_length_le hjg] at hd
              refine Next.of (i + 1, out, g) (by simp only []; omega) ?_
              refine ⟨⟨hR.ok, fun hg => ⟨(hR.idle hg).1, fun w hw hx b hb => ?_⟩, hR.grew⟩, by simpa [e5] using hout, ?_⟩
              · rcases htake w hw with h | rfl
                · exact (hR.idle hg).2 w h hx b hb
                · rw [← (hR.idle hg).1]; exact hd b hb
              · simp [e0, e1, e6, waitsL, hw]
                omega
      · have hno : ¬ i < ws.length := by omega
        simp -implicitDefEqProofs [e0, e1, e5, e6, e7, waitsL, hno]
        refine ⟨fun hg => ?_, fun hg => ⟨hout.glob, Ends.of ?_⟩⟩
        · have h1 := hR.grew hg
          refine Next.of out (by omega) ?_
          exact ⟨hR.ok, by simpa [e5] using hout, by simp [e0, waitsL], by simp [e1]⟩
        · obtain ⟨h1, h2⟩ := hR.idle hg
          subst h1
          refine ⟨out, hR.ok.done fun w hw hx b hb => ?_, by omega, hout⟩
          obtain ⟨z, hz, rfl⟩ := List.mem_map.1 hw
          exact h2 z (by rw [List.take_of_length_le hge]; exact hz) hx b hb

theorem reach13_lv (f : Bool) (ws : List Wt) (a b : Int) (hok : WtOk ws) (H : OHeap) :
    CallL Try.prog 29 [waitsL f ws, i64 a, i64 b] H fun y H' => y = .bool (gReach (wtell ws) a b) ∧ H' = H := by
  refine CallL.of_vc (n := 3) tok Try.func29 (c := _) rfl (by kernel_rfl) rfl ?_
  simp -implicitDefEqProofs
  refine (reached13_lv f ws a hok H).mono fun y H' hy => ?_
  obtain ⟨xs, hxs, hl, hout⟩ := hy
  have hg := hout.glob
  simp -implicitDefEqProofs [hg]
  refine CallL.ret (in13_lv xs b y H H' hout (by omega)) ?_
  simp -implicitDefEqProofs [hg]
  have he : decide (b ∈ xs) = gReach (wtell ws) a b := by
    rw [Bool.eq_iff_iff, gReach_iff, decide_eq_true_eq, hxs]
  exact Ends.wk (Wk.sub hout.sub _) (Ends.of ⟨by rw [he], rfl⟩)

theorem still13_lv (f : Bool) (ws : List Wt) (hok : WtOk ws) (H : OHeap) :
    CallL Try.prog 17 [waitsL f ws] H fun y H' => y = .bool (gStill (wtell ws)) ∧ H' = H := by
  have hl := hok.len
  refine CallL.of_vc (n := 1) tok Try.func17 (c := _) rfl (by kernel_rfl) rfl ?_
  simp -implicitDefEqProofs [waitsL]
  refine WP.loopG (σ := Nat) (fun k e B H' => H' = H ∧ k ≤ ws.length ∧ e 0 = waitsL f ws ∧ e 3 = i64 k ∧ ∀ w ∈ ws.take k, gReach (wtell ws) w.tx w.tx = false) (fun k => ws.length - k) 0 ?_ ?_
  · simp [waitsL]
  · rintro k e B H' ⟨rfl, hk, e0, e3, hs⟩
    refine vc_sound tok _ _ _ _ _ ?_
    rcases Nat.lt_or_ge k ws.length with hlt | hge
    · have hw := wnext hlt (by omega)
      simp -implicitDefEqProofs [e0, e3, waitsL, hlt, Wt.lv, seg]
      refine WP.draws tok mixed [(0, []), (1, []), (2, []), (3, []), (4, []), (5, []), (6, []), (7, []), (8, []), (9, []), (10, []), (11, []), (12, [])] [0, 0, 0, 6, 14, 30, 0, 0, 192, 448, 960, 2047, 4095] 6143 [] (by kernel_rfl) ?_
      simp -implicitDefEqProofs [e0, e3, waitsL, hlt, Wt.lv, seg]
      refine CallL.ret (reach13_lv f ws ws[k].tx ws[k].tx hok H') ?_
      cases hr : gReach (wtell ws) ws[k].tx ws[k].tx with
      | true =>
        simp -implicitDefEqProofs [e0, e3, waitsL, hlt, Wt.lv, seg]
        refine Ends.of ⟨?_, rfl⟩
        have : (wtell ws).any (fun w => gReach (wtell ws) w.1 w.1) = true := List.any_eq_true.2 ⟨_, List.mem_map.2 ⟨ws[k], List.getElem_mem hlt, rfl⟩, hr⟩
        unfold gStill; rw [this]; rfl
      | false =>
        simp -implicitDefEqProofs [e0, e3, waitsL, hlt, Wt.lv, seg]
        refine Next.of (k + 1) (by omega) ?_
        simp [e0, waitsL, hw]
        refine ⟨by omega, fun w hw => ?_⟩
        rw [List.take_add_one, List.getElem?_eq_getElem hlt] at hw
        rcases List.mem_append.1 hw with h | h
        · exact hs w h
        · simp at h; subst h; exact hr
    · have hno : ¬ k < ws.length := by omega
      simp -implicitDefEqProofs [e0, e3, waitsL, hno]
      rw [List.take_of_length_le hge] at hs
      refine Ends.of ⟨?_, rfl⟩
      have : (wtell ws).any (fun w => gReach (wtell ws) w.1 w.1) = false := by
        rw [List.any_eq_false]
        intro w hw
        obtain ⟨z, hz, rfl⟩ := List.mem_map.1 hw
        simp [hs z hz]
      unfold gStill; rw [this]; rfl
end Go.Lv
/- bobbinlaw23.awake. -/
namespace Go.Lv
open Go Go.Proofs
set_option maxRecDepth 10000
set_option linter.unusedSimpArgs false
set_option linter.unusedVariables false

section
variable {N : Nat} {e : Env} {B : Box} {H : OHeap}
/-- Less is said of a slot. -/
theorem Below.slot {i : Nat} {y : LV} (hy : ∀ d ver off, e i ≠ .bp d ver off) (h : ∀ K v, R K (e i) v → R K y v) : Below (N := N) e (upd e i y) B B H H := fun K jj w tmps g t => by
  refine ⟨K, jj, g, ⟨t.size, fun j => ?_⟩, Fr.refl _ _ _⟩
  have := t.get j
  simp only [upd_apply]
  split
  · rename_i hj; subst hj
    exact (h _ _ (this.r hy)).re
  · exact this
end
/-- What is less said of a value. -/
def Wk1 (x y : LV) : Prop := ∀ (K : Know) (v : Value), R K x v → R K y v
theorem Wk1.refl (x : LV) : Wk1 x x := fun K v h => h
theorem Wk1.nil (f : Bool) (es : Nat) : Wk1 .nilsl (.isl f es []) := fun K v h => by cases h; exact .isln _ _
/-- .. row by row. -/
def Wks (xs ys : List LV) : Prop := xs.length = ys.length ∧ ∀ (i : Nat) x y, xs[i]? = some x → ys[i]? = some y → Wk1 x y
theorem Wks.nil : Wks [] [] := ⟨rfl, fun i x y h => by simp at h⟩
theorem Wks.cons {x y : LV} {xs ys : List LV} (h : Wk1 x y) (h' : Wks xs ys) : Wks (x :: xs) (y :: ys) := ⟨by simp [h'.1], fun i a b ha hb => by
  cases i with
  | zero => simp at ha hb; subst ha; subst hb; exact h
  | succ i => simp at ha hb; exact h'.2 i a b ha hb⟩
theorem Wk1.isl {f : Bool} {es : Nat} {xs ys : List (List LV)} (hl : xs.length = ys.length) (h : ∀ (i : Nat) x y, xs[i]? = some x → ys[i]? = some y → Wks x y) : Wk1 (.isl f es xs) (.isl f es ys) := fun K v hv => by
  cases hv with
  | isln => have : ys = [] := List.eq_nil_of_length_eq_zero (by simpa using hl.symm); subst this; exact .isln _ _
  | isle a => have : ys = [] := List.eq_nil_of_length_eq_zero (by simpa using hl.symm); subst this; exact .isle _ _ _
  | isl f e xs b o c us hc hf he hK hR =>
    rw [hl]
    have at_ : ∀ (i j : Nat) y z, ys[i]? = some y → y[j]? = some z → ∃ x w, xs[i]? = some x ∧ x[j]? = some w ∧ Wk1 w z := fun i j y z hy hz => by
      have hi : i < xs.length := by rw [hl]; exact (List.getElem?_eq_some_iff.1 hy).1
      obtain ⟨h1, h2⟩ := h i xs[i] y (List.getElem?_eq_getElem hi) hy
      have hj : j < xs[i].length := by rw [h1]; exact (List.getElem?_eq_some_iff.1 hz).1
      exact ⟨_, _, List.getElem?_eq_getElem hi, List.getElem?_eq_getElem hj, h2 j _ z (List.getElem?_eq_getElem hj) hz⟩
    refine .isl f es ys b o c us (by rw [← hl]; exact hc) (fun hh => by rw [hf hh, hl]) (fun y hy => ?_) (fun i j y z hy hz => ?_) (fun i j y z hy hz => ?_)
    · obtain ⟨i, hi, rfl⟩ := List.mem_iff_getElem.1 hy
      have hi' : i < xs.length := by rw [hl]; exact hi
      rw [← (h i xs[i] ys[i] (List.getElem?_eq_getElem hi') (List.getElem?_eq_getElem hi)).1]
      exact he _ (List.getElem_mem hi')
    · obtain ⟨x, w, hx, hw, _⟩ := at_ i j y z hy hz
      exact hK i j x w hx hw
    · obtain ⟨x, w, hx, hw, hwz⟩ := at_ i j y z hy hz
      exact hwz _ _ (hR i j x w hx hw)

/-- An event of which little is said. -/
def ev0 (tx kind key : Int) : Ev := ⟨tx, kind, key, false, true, [], true, []⟩
def awA : List Ev := [ev0 1 2 5, ev0 2 1 5, ev0 1 4 0, ev0 2 4 0]
def awB : List Ev := [ev0 1 1 5, ev0 2 2 5, ev0 2 4 0, ev0 1 2 5, ev0 1 4 0]

/-- Where ranks fall nobody reaches himself. -/
theorem RPath.rank {t : List (Int × List Int)} (r : Int → Int) (h : ∀ w ∈ t, ∀ b ∈ w.2, r b < r w.1) {a b : Int} (hp : RPath t a b) : r b < r a := by
  induction hp with
  | one h1 h2 => exact h _ h1 _ h2
  | more _ h1 h2 ih => have := h _ h1 _ h2; simp only [] at this; omega
theorem gStill_rank {t : List (Int × List Int)} (r : Int → Int) (h : ∀ w ∈ t, ∀ b ∈ w.2, r b < r w.1) : gStill t = true := by
  unfold gStill
  have : (t.any fun w => gReach t w.1 w.1) = false := by
    rw [List.any_eq_false]
    intro w _ hw
    have := RPath.rank r h ((gReach_iff _ _ _).1 hw)
    omega
  rw [this]; rfl
theorem aw1 : gReplay awA = ([], true) := by kernel_rfl
theorem aw2 : gMay [] awA = true := by kernel_rfl
theorem aw3 : gBefore awA = [(1, []), (2, [1])] := by kernel_rfl
theorem aw4 : gSerial awA = true := by
  unfold gSerial
  rw [aw2, aw3, Bool.true_and]
  exact gStill_rank (fun x => x) fun w hw b hb => by
    simp at hw
    rcases hw with rfl | rfl
    · simp at hb
    · simp at hb; subst hb; decide
theorem aw5 : gStrict awA = false := by kernel_rfl
theorem aw6 : gStrict awB = true := by kernel_rfl
theorem aw7 : gBefore awB = [(1, [2]), (2, [1])] := by kernel_rfl
theorem aw8 : gSerial awB = false := by
  unfold gSerial
  rw [aw7]
  have : gStill [(1, [2]), (2, [1])] = false := by
    unfold gStill
    have : ([(1, [2]), (2, [1])] : List (Int × List Int)).any (fun w => gReach [(1, [2]), (2, [1])] w.1 w.1) = true := by
      rw [List.any_eq_true]
      refine ⟨(1, [2]), by simp, ?_⟩
      rw [gReach_iff]
      exact .more (c := 2) (r := [1]) (.one (r := [2]) (by simp) (by simp)) (by simp) (by simp)
    rw [this]; rfl
  rw [this, Bool.and_false]

theorem wk_ev (tx kind key : Int) : Wks [.int .i64 tx, .int .i64 kind, .int .i64 key, .bool false, .nilsl, .nilsl] (ev0 tx kind key).lv :=
  .cons (.refl _) (.cons (.refl _) (.cons (.refl _) (.cons (.refl _) (.cons (.nil _ _) (.cons (.nil _ _) .nil)))))
theorem wk_evs : ∀ (xs : List (Int × Int × Int)), Wk1 (.isl true 6 (xs.map fun x => [.int .i64 x.1, .int .i64 x.2.1, .int .i64 x.2.2, .bool false, .nilsl, .nilsl])) (evsL true (xs.map fun x => ev0 x.1 x.2.1 x.2.2)) := fun xs =>
  Wk1.isl (by simp) fun i x y hx hy => by
    rw [List.getElem?_map] at hx
    rw [List.map_map, List.getElem?_map] at hy
    cases h : xs[i]? with
    | none => rw [h] at hx; cases hx
    | some z => rw [h] at hx hy; cases hx; cases hy; exact wk_ev _ _ _
theorem awake_lv (H : OHeap) : CallL Try.prog 6 [] H fun y H' => y = .bool true ∧ H' = H := by
  refine CallL.of_wp (n := 0) tok Try.func6 (c := _) rfl (by kernel_rfl) rfl ?_
  refine WP.cut tok ?_
  simp -implicitDefEqProofs [nobox]
  refine WP.cut tok ?_
  simp -implicitDefEqProofs [nobox]
  refine Then.below (Below.slot (i := 1) (y := evsL true awA) (by simp) (fun K v hv => wk_evs [(1, 2, 5), (2, 1, 5), (1, 4, 0), (2, 4, 0)] K v (by simpa using hv))) ?_
  refine WP.cut tok ?_
  simp -implicitDefEqProofs [nobox]
  refine Then.below (Below.slot (i := 2) (y := evsL true awB) (by simp) (fun K v hv => wk_evs [(1, 1, 5), (2, 2, 5), (2, 4, 0), (1, 2, 5), (1, 4, 0)] K v (by simpa using hv))) ?_
  refine WP.cut tok ?_
  simp -implicitDefEqProofs [nobox]
  refine (replay_lv true awA _ (by decide) (by decide)).mono fun y H' hy => ?_
  obtain ⟨⟨g, kv, rfl, ht, _, _⟩, rfl⟩ := hy
  rw [aw1] at ht ⊢
  have hkv : kv = [] := by cases kv with | nil => rfl | cons a b => simp [tell] at ht
  subst hkv
  simp -implicitDefEqProofs [nobox]
  refine Then.go tok ?_
  simp -implicitDefEqProofs [nobox]
  refine CallL.ret (may_lv true awA H' (by decide)) ?_
  rw [aw2]
  simp -implicitDefEqProofs [nobox]
  refine CallL.ret (serial_lv true awA H' (by decide)) ?_
  rw [aw4]
  simp -implicitDefEqProofs [nobox]
  refine CallL.ret (strict_lv true awA H' (by decide)) ?_
  rw [aw5]
  simp -implicitDefEqProofs [nobox]
  refine CallL.ret (serial_lv true awB H' (by decide)) ?_
  rw [aw8]
  simp -implicitDefEqProofs [nobox]
  refine CallL.ret (strict_lv true awB H' (by decide)) ?_
  rw [aw6]
  simp -implicitDefEqProofs [nobox, kvsL]
  refine (before_lv true awB _ (by decide)).mono fun y H'' hy => ?_
  obtain ⟨⟨g2, ws, rfl, hw⟩, rfl⟩ := hy
  have hwl : ws.length = 2 := by have := congrArg List.length hw; rw [wtell_len, aw7] at this; exact this
  simp -implicitDefEqProofs [nobox, waitsL, hwl]
  exact Ends.of ⟨rfl, rfl⟩
end Go.Lv
/- Plain laws of histories: who is ahead of whom, and what is replayed, where the events of those that are not committed are left out; ranks. -/
namespace Go.Lv
open Go Go.Proofs
set_option maxRecDepth 10000
set_option linter.unusedSimpArgs false
set_option linter.unusedVariables false

/-- Two events of these clash, the first one first. -/
def Ed : List Ev → Int → Int → Prop
  | [], _, _ => False
  | x :: l, j, tx => (x.tx = j ∧ ∃ b ∈ l, gClash x b = true ∧ b.tx = tx) ∨ Ed l j tx
theorem Ed_iff : ∀ (l : List Ev) (j tx : Int), Ed l j tx ↔ ∃ i k : Nat, i < k ∧ ∃ a b, l[i]? = some a ∧ l[k]? = some b ∧ gClash a b = true ∧ a.tx = j ∧ b.tx = tx
  | [], j, tx => ⟨fun h => h.elim, fun ⟨i, k, _, a, b, h, _⟩ => by simp at h⟩
  | x :: l, j, tx => by
    constructor
    · rintro (⟨h1, b, hb, h2, h3⟩ | h)
      · obtain ⟨k, hk, rfl⟩ := List.mem_iff_getElem.1 hb
        exact ⟨0, k + 1, by omega, x, l[k], rfl, by simp [hk], h2, h1, h3⟩
      · obtain ⟨i, k, h1, a, b, h2, h3, h4⟩ := (Ed_iff l j tx).1 h
        exact ⟨i + 1, k + 1, by omega, a, b, by simpa using h2, by simpa using h3, h4⟩
    · rintro ⟨i, k, hik, a, b, h2, h3, h4, h5, h6⟩
      cases k with
      | zero => omega
      | succ k =>
        simp at h3
        cases i with
        | zero =>
          simp at h2; subst h2
          obtain ⟨hk, rfl⟩ := List.getElem?_eq_some_iff.1 h3
          exact .inl ⟨h5, _, List.getElem_mem hk, h4, h6⟩
        | succ i =>
          simp at h2
          exact .inr ((Ed_iff l j tx).2 ⟨i, k, by omega, a, b, h2, h3, h4, h5, h6⟩)
theorem Ed_filter (q : Int → Bool) {j tx : Int} (hj : q j = true) (ht : q tx = true) : ∀ (l : List Ev), Ed (l.filter fun x => q x.tx) j tx ↔ Ed l j tx
  | [] => Iff.rfl
  | x :: l => by
    have ih := Ed_filter q hj ht l
    have hmem : (∃ b ∈ l.filter (fun x => q x.tx), gClash x b = true ∧ b.tx = tx) ↔ ∃ b ∈ l, gClash x b = true ∧ b.tx = tx :=
      ⟨fun ⟨b, hb, h⟩ => ⟨b, (List.mem_filter.1 hb).1, h⟩, fun ⟨b, hb, h1, h2⟩ => ⟨b, List.mem_filter.2 ⟨hb, by rw [h2]; exact ht⟩, h1, h2⟩⟩
    by_cases hq : q x.tx = true
    · rw [List.filter_cons_of_pos (by simpa using hq)]
      simp only [Ed]
      rw [ih, hmem]
    · rw [List.filter_cons_of_neg (by simpa using hq), ih]
      simp only [Ed]
      have : ¬ x.tx = j := fun e => hq (by rw [e]; exact hj)
      simp [this]
theorem edges_iff (l : List Ev) (j tx : Int) : gEdges l (gPairs l l.length) j tx = true ↔ Ed l j tx := by
  unfold gEdges
  rw [List.any_eq_true, Ed_iff]
  constructor
  · rintro ⟨⟨i, k⟩, hp, h⟩
    simp only [Bool.and_eq_true, decide_eq_true_eq] at h
    unfold gPairs at hp
    obtain ⟨k', hk', hp⟩ := List.mem_flatMap.1 hp
    unfold gInner at hp
    obtain ⟨i', hi', he⟩ := List.mem_map.1 hp
    cases he
    rw [List.mem_filter] at hi'
    simp at hk' hi'
    have hi : i < l.length := by omega
    have hcl := hi'.2
    unfold clashAt at hcl
    rw [List.getElem?_eq_getElem hi, List.getElem?_eq_getElem hk'] at hcl
    have h1 := h.1
    have h2 := h.2
    unfold txAt at h1 h2
    rw [List.getElem?_eq_getElem hi] at h1
    rw [List.getElem?_eq_getElem hk'] at h2
    exact ⟨i, k, hi'.1, l[i], l[k], List.getElem?_eq_getElem hi, List.getElem?_eq_getElem hk', hcl, h1, h2⟩
  · rintro ⟨i, k, hik, a, b, ha, hb, hc, h1, h2⟩
    have hk : k < l.length := (List.getElem?_eq_some_iff.1 hb).1
    refine ⟨(i, k), ?_, ?_⟩
    · unfold gPairs
      rw [List.mem_flatMap]
      refine ⟨k, by simpa using hk, ?_⟩
      unfold gInner
      rw [List.mem_map]
      refine ⟨i, ?_, rfl⟩
      rw [List.mem_filter]
      refine ⟨by simpa using hik, ?_⟩
      unfold clashAt
      rw [ha, hb]; exact hc
    · simp only [Bool.and_eq_true, decide_eq_true_eq]
      unfold txAt
      rw [ha, hb]; exact ⟨h1, h2⟩
theorem Ed.ne {l : List Ev} {j tx : Int} (h : Ed l j tx) : j ≠ tx := by
  obtain ⟨i, k, _, a, b, _, _, hc, rfl, rfl⟩ := (Ed_iff l j tx).1 h
  unfold gClash at hc
  intro e
  simp [e] at hc

/-- Without what is not committed. -/
def only (l : List Ev) : List Ev := l.filter fun x => gCommitted l x.tx
theorem committed_of {l : List Ev} {c : Ev} (hc : c ∈ l) (hk : c.kind = 4) : gCommitted l c.tx = true := by
  unfold gCommitted
  rw [List.any_eq_true]
  exact ⟨c, hc, by simp [hk]⟩
theorem committed_only (l : List Ev) (j : Int) : gCommitted (only l) j = gCommitted l j := by
  rw [Bool.eq_iff_iff]
  constructor
  · intro h
    unfold gCommitted at h
    rw [List.any_eq_true] at h
    obtain ⟨c, hc, h⟩ := h
    simp at h
    rw [← h.1]
    exact committed_of (List.mem_filter.1 hc).1 h.2
  · intro h
    have h' := h
    unfold gCommitted at h'
    rw [List.any_eq_true] at h'
    obtain ⟨c, hc, h'⟩ := h'
    simp at h'
    rw [← h'.1]
    exact committed_of (List.mem_filter.2 ⟨hc, by rw [h'.1]; exact h⟩) h'.2
theorem txs_only (l : List Ev) : gTxs (only l) = gTxs l := rising_ext (gTxs_rising _) (gTxs_rising _) fun j => by rw [gTxs_mem, gTxs_mem, committed_only]
theorem ended_filter (p : Ev → Bool) (l : List Ev) (tx : Int) (h : gEndedIn l tx = false) : gEndedIn (l.filter p) tx = false := by
  unfold gEndedIn at *
  rw [List.any_eq_false] at *
  exact fun x hx => h x (List.mem_filter.1 hx).1
theorem may_filter (p : Ev → Bool) : ∀ (l pre : List Ev), gMay pre l = true → gMay (pre.filter p) (l.filter p) = true
  | [], pre, _ => rfl
  | x :: l, pre, h => by
    simp only [gMay, Bool.and_eq_true, Bool.not_eq_true'] at h
    have ih := may_filter p l (pre ++ [x]) h.2
    rw [List.filter_append] at ih
    by_cases hp : p x = true
    · rw [List.filter_cons_of_pos hp]
      rw [List.filter_cons_of_pos hp, List.filter_nil] at ih
      simp only [gMay, ih, Bool.and_true, Bool.not_eq_true']
      have h1 := h.1
      simp only [Bool.or_eq_false_iff] at h1 ⊢
      exact ⟨h1.1, ended_filter p pre x.tx h1.2⟩
    · rw [List.filter_cons_of_neg hp]
      rw [List.filter_cons_of_neg hp, List.filter_nil, List.append_nil] at ih
      exact ih
theorem may_only {l : List Ev} (h : gMay [] l = true) : gMay [] (only l) = true := may_filter _ l [] h
theorem ahead_only (l : List Ev) {tx : Int} (ht : tx ∈ gTxs l) : gAhead (only l) tx = gAhead l tx := by
  unfold gAhead
  rw [txs_only]
  apply List.filter_congr
  intro j hj
  rw [Bool.eq_iff_iff, edges_iff, edges_iff]
  exact Ed_filter (gCommitted l) ((gTxs_mem l j).1 hj) ((gTxs_mem l tx).1 ht) l
theorem before_only {l : List Ev} (h : gMay [] l = true) : gBefore (only l) = gBefore l := by
  unfold gBefore
  rw [if_pos h, if_pos (may_only h), txs_only]
  apply List.map_congr_left
  intro tx ht
  rw [ahead_only l ht]
theorem foldl_ext {α β : Type} (f g : β → α → β) : ∀ (l : List α) (s : β), (∀ s, ∀ x ∈ l, f s x = g s x) → l.foldl f s = l.foldl g s
  | [], s, _ => rfl
  | x :: l, s, h => by
    simp only [List.foldl_cons]
    rw [h s x (by simp)]
    exact foldl_ext f g l _ fun s y hy => h s y (by simp [hy])
theorem replay_only {l : List Ev} (h : gMay [] l = true) : gReplay (only l) = gReplay l := by
  unfold gReplay
  rw [if_pos h, if_pos (may_only h)]
  rw [show (only l).foldl (gRun1 (only l)) ([], true) = l.foldl (fun s c => if gCommitted l c.tx = true then gRun1 (only l) s c else s) ([], true) from List.foldl_filter ..]
  apply foldl_ext
  intro s c hc
  unfold gRun1
  by_cases hk : c.kind = 4
  · rw [if_pos (committed_of hc hk), if_pos hk, if_pos hk]
    congr 1
    unfold only
    rw [List.filter_filter]
    apply List.filter_congr
    intro x hx
    by_cases ht : x.tx = c.tx
    · simp [ht, committed_of hc hk]
    · simp [ht]
  · rw [if_neg hk, if_neg hk]
    split <;> rfl

/-- Where a commit stands. -/
theorem commit_at {l : List Ev} {tx : Int} (h : gCommitted l tx = true) : ∃ i : Nat, gCommit l tx = i ∧ ∃ x, l[i]? = some x ∧ x.tx = tx := by
  unfold gCommit
  cases hf : l.findIdx? (fun x => decide (x.tx = tx) && decide (x.kind = 4)) with
  | none =>
    rw [List.findIdx?_eq_none_iff] at hf
    unfold gCommitted at h
    rw [List.any_eq_true] at h
    obtain ⟨x, hx, h⟩ := h
    rw [hf x hx] at h; cases h
  | some i =>
    rw [List.findIdx?_eq_some_iff_getElem] at hf
    obtain ⟨hi, h1, _⟩ := hf
    simp at h1
    exact ⟨i, rfl, l[i], List.getElem?_eq_getElem hi, h1.1⟩
theorem commit_inj {l : List Ev} {a b : Int} (ha : gCommitted l a = true) (hb : gCommitted l b = true) (h : gCommit l a = gCommit l b) : a = b := by
  obtain ⟨i, h1, x, hx, rfl⟩ := commit_at ha
  obtain ⟨k, h2, y, hy, rfl⟩ := commit_at hb
  have : i = k := by omega
  subst this
  rw [hx] at hy; cases hy; rfl
theorem before_mem {l : List Ev} {w : Int × List Int} (h : w ∈ gBefore l) : gCommitted l w.1 = true ∧ ∀ b ∈ w.2, gCommitted l b = true ∧ Ed l b w.1 := by
  unfold gBefore at h
  split at h
  · obtain ⟨tx, ht, rfl⟩ := List.mem_map.1 h
    refine ⟨(gTxs_mem l tx).1 ht, fun b hb => ?_⟩
    unfold gAhead at hb
    rw [List.mem_filter] at hb
    exact ⟨(gTxs_mem l b).1 hb.1, (edges_iff l b tx).1 hb.2⟩
  · cases h
theorem serial_of_commits {l : List Ev} (h : gMay [] l = true) (hr : ∀ w ∈ gBefore l, ∀ b ∈ w.2, ¬ gCommit l b > gCommit l w.1) : gSerial l = true := by
  unfold gSerial
  rw [h, Bool.true_and]
  refine gStill_rank (gCommit l) fun w hw b hb => ?_
  obtain ⟨h1, h2⟩ := before_mem hw
  obtain ⟨h3, h4⟩ := h2 b hb
  have h5 := hr w hw b hb
  have h6 : gCommit l b ≠ gCommit l w.1 := fun e => h4.ne (commit_inj h3 h1 e)
  omega
end Go.Lv
/- The walks of the laws JudgeOrder and JudgeAborts. -/
namespace Go.Lv
open Go Go.Proofs
set_option maxRecDepth 10000
set_option linter.unusedSimpArgs false
set_option linter.unusedVariables false

theorem few_len {l : List Ev} (h : gFew l = true) : l.length ≤ 1000 ∧ ∀ x ∈ l, x.b.length ≤ 1000 := by
  unfold gFew at h
  simp only [Bool.and_eq_true, decide_eq_true_eq, List.all_eq_true] at h
  exact ⟨by omega, fun x hx => by have := (h.2 x hx).1.1; omega⟩

theorem lawOrder_lv (f : Bool) (l : List Ev) (H : OHeap) : CallL Try.prog 4 [evsL f l] H fun y H' => y = .bool true ∧ H' = H := by
  refine CallL.of_vc (n := 1) tok Try.func4 (c := _) rfl (by kernel_rfl) rfl ?_
  simp -implicitDefEqProofs
  refine CallL.ret (awake_lv H) ?_
  simp -implicitDefEqProofs
  refine CallL.ret (few_lv f l H) ?_
  cases hfew : gFew l with
  | false =>
    simp -implicitDefEqProofs
    exact Ends.of ⟨rfl, rfl⟩
  | true =>
    obtain ⟨hl, hlb⟩ := few_len hfew
    simp -implicitDefEqProofs
    refine CallL.ret (may_lv f l H (by omega)) ?_
    cases hm : gMay [] l with
    | false =>
      simp -implicitDefEqProofs
      exact Ends.of ⟨rfl, rfl⟩
    | true =>
      simp -implicitDefEqProofs
      refine (before_lv f l H (by omega)).mono fun y H' hy => ?_
      obtain ⟨⟨g, ws, rfl, hw⟩, rfl⟩ := hy
      have hok := WtOk.before hw hl
      have hwl := hok.len
      simp -implicitDefEqProofs [waitsL]
      refine WP.loopG (σ := Nat) (fun k e B H'' => H'' = H' ∧ k ≤ ws.length ∧ e 0 = evsL f l ∧ e 5 = waitsL g ws ∧ e 6 = i64 k ∧ ∀ w ∈ ws.take k, ∀ b ∈ w.fr, ¬ gCommit l b > gCommit l w.tx) (fun k => ws.length - k) 0 ?_ ?_
      · simp [waitsL]
      · rintro k e B H'' ⟨rfl, hk, e0, e5, e6, hs⟩
        refine vc_sound tok _ _ _ _ _ ?_
        rcases Nat.lt_or_ge k ws.length with hlt | hge
        · have hw' := wnext hlt (by omega)
          have hfr := hok.fr _ (List.getElem_mem hlt)
          simp -implicitDefEqProofs [e0, e5, e6, waitsL, hlt, Wt.lv, seg, intsL, rowL]
          refine WP.loopG (σ := Nat) (fun j e B H' => H' = H'' ∧ j ≤ ws[k].fr.length ∧ e 0 = evsL f l ∧ e 5 = waitsL g ws ∧ e 6 = i64 k ∧ e 7 = i64 j ∧ ∀ b ∈ ws[k].fr.take j, ¬ gCommit l b > gCommit l ws[k].tx) (fun j => ws[k].fr.length - j) 0 ?_ ?_
          · simp [waitsL, e0, e5, e6]
          · rintro j e B H' ⟨rfl, hj, e0, e5, e6, e7, hsj⟩
            refine vc_sound tok _ _ _ _ _ ?_
            rcases Nat.lt_or_ge j ws[k].fr.length with hjt | hjg
            · have hwj := wnext hjt (by omega)
              simp -implicitDefEqProofs [e0, e5, e6, e7, waitsL, hlt, Wt.lv, seg, intsL, rowL, hjt]
              refine WP.draws tok mixed [(0, []), (1, []), (2, []), (3, []), (4, []), (5, []), (6, []), (7, []), (8, []), (10, []), (11, []), (12, []), (13, []), (14, []), (15, []), (9, [13, 14, 15]), (16, []), (17, [])] [0, 0, 0, 6, 14, 30, 0, 126, 254, 511, 0, 0, 0, 6144, 14336, 30720, 65535, 131071] 196095 [] (by kernel_rfl) ?_
              simp -implicitDefEqProofs [e0, e5, e6, e7, waitsL, hlt, Wt.lv, seg, intsL, rowL, hjt]
              refine CallL.ret (commit_lv f l ws[k].fr[j] H' (by omega)) ?_
              simp -implicitDefEqProofs [e0, e5, e6, e7, waitsL, hlt, Wt.lv, seg, intsL, rowL, hjt]
              refine CallL.ret (commit_lv f l ws[k].tx H' (by omega)) ?_
              simp -implicitDefEqProofs [e0, e5, e6, e7, waitsL, hlt, Wt.lv, seg, intsL, rowL, hjt]
              refine ⟨fun h => Ends.of ⟨rfl, rfl⟩, fun h => ?_⟩
              refine Next.of (j + 1) (by omega) ?_
              simp [e0, e5, e6, waitsL, hwj]
              refine ⟨by omega, fun b hb => ?_⟩
              rw [List.take_add_one, List.getElem?_eq_getElem hjt] at hb
              rcases List.mem_append.1 hb with hb | hb
              · have := hsj b hb; omega
              · simp at hb; subst hb; simpa using h
            · have hno : ¬ j < ws[k].fr.length := by omega
              simp -implicitDefEqProofs [e0, e5, e6, e7, waitsL, hlt, Wt.lv, seg, intsL, rowL, hno]
              rw [List.take_of_length_le hjg] at hsj
              refine Next.of (k + 1) (by omega) ?_
              simp [e0, e5, waitsL, hw']
              refine ⟨by omega, fun w hw b hb => ?_⟩
              rw [List.take_add_one, List.getElem?_eq_getElem hlt] at hw
              rcases List.mem_append.1 hw with hw | hw
              · have := hs w hw b hb; omega
              · simp at hw; subst hw; have := hsj b hb; omega
        · have hno : ¬ k < ws.length := by omega
          simp -implicitDefEqProofs [e0, e5, e6, waitsL, hno]
          rw [List.take_of_length_le hge] at hs
          refine CallL.ret (serial_lv f l H'' hl) ?_
          simp -implicitDefEqProofs
          refine Ends.of ⟨?_, rfl⟩
          rw [serial_of_commits hm fun w hw' b hb => by
            rw [← hw] at hw'
            obtain ⟨z, hz, rfl⟩ := List.mem_map.1 hw'
            exact hs z hz b hb]

section
variable {P : Program} {ρ : Option Nat} {N : Nat} {e : Env} {B : Box} {H : OHeap}
/-- Sealing leaves it as it is. -/
def LV.stb : LV → Bool
  | .sl .. | .ptr .. | .tup _ | .agg _ => false
  | _ => true
theorem sealT_stb {b es : Nat} {cs : List LV} {x : LV} (h : x.stb = true) : sealT b es cs x = x := by
  cases x <;> first | rfl | simp [LV.stb] at h
/-- A row that the body has built is read as sealed from here on. -/
theorem WP.sealR {c : Code} {Q : Post} {H' : OHeap} {i es : Nat} {rows : List (List LV)} (h : OutR es rows H (e i) H') (hr : RowsOk es rows) (k : ∀ f e', e' i = .isl f es rows → (∀ j, (e j).stb = true → j ≠ i → e' j = e j) → WP P ρ N c Q e' B H) : WP P ρ N c Q e B H' := by
  rcases h with ⟨rfl, hz, rfl⟩ | ⟨b, cp, rest, hb, hc, hz, rfl⟩
  · refine WP.below (Below.slot (i := i) (y := .isl true es []) (by rw [hz]; simp) (fun K v hv => by rw [hz] at hv; cases hv; exact .isln _ _)) ?_
    exact k true _ (by simp) (fun j _ hj => by simp [hj])
  · refine WP.below (Below.sealB es (b := b) (n := cp * es) (cs := rows.flatten ++ rest) (by simp)) ?_
    rw [delH_setH hb]
    refine k (decide (cp = rows.length)) _ ?_ (fun j hj _ => by simp [sealT_stb hj])
    rw [sealE_apply, hz]
    exact sealV_whole hr.len hc
end
theorem ev_rows (l : List Ev) : RowsOk 6 (l.map Ev.lv) := ⟨fun r h => by obtain ⟨x, _, rfl⟩ := List.mem_map.1 h; rfl, by
  rw [List.all_eq_true]; intro x hx
  obtain ⟨y, hy, hxy⟩ := List.mem_flatten.1 hx
  obtain ⟨h, _, rfl⟩ := List.mem_map.1 hy
  simp [Ev.lv] at hxy
  rcases hxy with rfl | rfl | rfl | rfl | rfl | rfl <;> rfl⟩

theorem lawAborts_lv (f : Bool) (l : List Ev) (H : OHeap) : CallL Try.prog 3 [evsL f l] H fun y H' => y = .bool true ∧ H' = H := by
  refine CallL.of_wp (n := 1) tok Try.func3 (c := _) rfl (by kernel_rfl) rfl ?_
  refine WP.cut tok ?_
  simp -implicitDefEqProofs [nobox]
  refine WP.cut tok ?_
  simp -implicitDefEqProofs [nobox]
  refine CallL.ret (awake_lv H) ?_
  simp -implicitDefEqProofs [nobox]
  refine WP.cut tok ?_
  simp -implicitDefEqProofs [nobox]
  refine CallL.ret (few_lv f l H) ?_
  simp -implicitDefEqProofs [nobox]
  refine WP.cut tok ?_
  cases hfew : gFew l with
  | false =>
    simp -implicitDefEqProofs [nobox]
    exact Ends.of ⟨rfl, rfl⟩
  | true =>
    obtain ⟨hl, hlb⟩ := few_len hfew
    simp -implicitDefEqProofs [nobox]
    refine CallL.ret (may_lv f l H (by omega)) ?_
    cases hm : gMay [] l with
    | false =>
      simp -implicitDefEqProofs [nobox]
      exact Ends.of ⟨rfl, rfl⟩
    | true =>
      simp -implicitDefEqProofs [nobox]
      refine WP.cut tok ?_
      simp -implicitDefEqProofs [nobox]
      refine WP.cut tok ?_
      simp -implicitDefEqProofs [nobox]
      refine WP.loopG (σ := Nat) (fun k e B H' => OutR 6 (((l.take k).filter fun x => gCommitted l x.tx).map Ev.lv) H (e 5) H' ∧ k ≤ l.length ∧ e 0 = evsL f l ∧ e 3 = .bool true ∧ e 6 = i64 k) (fun k => l.length - k) 0 ?_ ?_
      · simp
        exact .inl ⟨rfl, rfl, rfl⟩
      · rintro k e B H' ⟨hout, hk, e0, e3, e6⟩
        refine vc_sound tok _ _ _ _ _ ?_
        generalize e5 : e 5 = y at hout
        rcases Nat.lt_or_ge k l.length with hlt | hge
        · have hw := wnext hlt (by omega)
          have hg := hout.glob
          have htk : ((l.take (k + 1)).filter fun x => gCommitted l x.tx) = ((l.take k).filter fun x => gCommitted l x.tx) ++ if gCommitted l l[k].tx = true then [l[k]] else [] := by
            rw [List.take_add_one, List.getElem?_eq_getElem hlt, List.filter_append]
            by_cases h : gCommitted l l[k].tx = true <;> simp [h]
          have hlen : ((l.take k).filter fun x => gCommitted l x.tx).length ≤ k := by
            have := List.length_filter_le (fun x => gCommitted l x.tx) (l.take k); rw [List.length_take] at this; omega
          simp -implicitDefEqProofs [e0, e3, e5, e6, evsL, hlt, Ev.lv, seg, hg]
          refine CallL.ret (committed_lv f l l[k].tx H' (by omega)) ?_
          cases hc : gCommitted l l[k].tx with
          | false =>
            rw [hc] at htk
            simp -implicitDefEqProofs [e0, e3, e5, e6, evsL, hlt, Ev.lv, seg, hg]
            refine Next.of (k + 1) (by omega) ?_
            simp at htk
            simp [e0, e3, e5, evsL, hw, htk]
            exact ⟨hout, by omega⟩
          | true =>
            rw [hc] at htk
            simp at htk
            simp -implicitDefEqProofs [e0, e3, e5, e6, evsL, hlt, Ev.lv, seg, hg]
            refine OutR.append (by_ := 80) (new := [l[k].lv]) hout (ev_rows _) (ev_rows [l[k]]) (by simp) (by simp; omega) (by decide) fun y' H3 hy' => ?_
            have hy1 := hy'.one
            simp -implicitDefEqProofs [e0, e3, e5, e6, hy1, lcells_one hy1, hy'.glob]
            refine Next.of (k + 1) (by omega) ?_
            simp [e0, e3, evsL, hw, htk]
            exact ⟨by simpa using hy', by omega⟩
        · have hno : ¬ k < l.length := by omega
          simp -implicitDefEqProofs [e0, e3, e5, e6, evsL, hno]
          rw [List.take_of_length_le hge] at hout
          rw [← e5] at hout
          refine (WP.sealR (i := 5) (H := H) (es := 6) (rows := (only l).map Ev.lv) ?_ (ev_rows _) ?_ : WP _ _ _ _ _ _ _ _)
          · simpa [only] using hout
          intro fm e' e5' hst
          have e0' : e' 0 = evsL f l := by rw [hst 0 (by simp [e0, evsL, LV.stb]) (by decide)]; simp [e0, evsL]
          have e5' : e' 5 = evsL fm (only l) := e5'
          have hol : (only l).length ≤ l.length := List.length_filter_le _ _
          clear hst e0 e3 e5 e6 hout
          refine (vc_sound tok _ _ _ _ _ ?_ : WP _ _ _ _ _ _ _ _)
          simp -implicitDefEqProofs [e0', e5']
          refine (before_lv f l H (by omega)).mono fun y H1 hy => ?_
          obtain ⟨⟨g1, ws1, rfl, hw1⟩, rfl⟩ := hy
          simp -implicitDefEqProofs [e0', e5']
          refine (before_lv fm (only l) _ (by omega)).mono fun y H2 hy => ?_
          obtain ⟨⟨g2, ws2, rfl, hw2⟩, rfl⟩ := hy
          simp -implicitDefEqProofs [e0', e5']
          refine CallL.ret (waits_lv g1 g2 ws1 ws2 _ (.before hw1 hl)) ?_
          have hww : decide (wtell ws1 = wtell ws2) = true := by rw [hw1, hw2, before_only hm]; simp
          rw [hww]
          simp -implicitDefEqProofs [e0', e5']
          refine (replay_lv f l _ hl hlb).mono fun y H3 hy => ?_
          obtain ⟨⟨g3, kv1, rfl, ht1, hk1, hk1'⟩, rfl⟩ := hy
          simp -implicitDefEqProofs [e0', e5']
          refine (replay_lv fm (only l) _ (by omega) (fun x hx => hlb x (List.mem_filter.1 hx).1)).mono fun y H4 hy => ?_
          obtain ⟨⟨g4, kv2, rfl, ht2, hk2, hk2'⟩, rfl⟩ := hy
          simp -implicitDefEqProofs [e0', e5']
          refine CallL.ret (same05_lv g3 g4 kv1 kv2 _ (by omega) (fun x hx => by have := hk1' x hx; omega)) ?_
          have htt : decide (tell kv1 = tell kv2) = true := by rw [ht1, ht2, replay_only hm]; simp
          rw [htt, replay_only hm]
          simp -implicitDefEqProofs [e0', e5']
          refine CallL.ret (may_lv fm (only l) _ (by omega)) ?_
          rw [may_only hm]
          simp -implicitDefEqProofs [e0', e5']
          exact Ends.of ⟨rfl, rfl⟩
end Go.Lv
/- What the rows of the laws on histories share: their arguments as trees. -/
namespace Go.Proofs.Ytnmgjclaegpnoaa
open Go Go.Lv Go.ChangeShapes Go.WideShapes Go.ChangeAt Go.RowKit

theorem Try.own : ownKnob Try.prog.godebug = none := by kernel_rfl
theorem Try.laidOut : laidOutB Try.prog = true := by kernel_rfl

section
variable {H : Type} {enc : TypeId × Value → H} {W : World} {base : Nat} {spare : Nat → Bool} {held : Bool}
set_option maxRecDepth 100000 in
theorem trod_bytes (hsp : ∀ b, spare b = true) {n : Nat} {cs : List Value} {x : DataW H × List MemPlace} (h : DataW.trod enc Try.prog W base spare held n 26 cs = some x) :
    ∃ v f b, cs = [v] ∧ R (Kof W) (bytesL f b) v := by
  obtain ⟨v, f, rows, h1, h2, h3⟩ := trod_isl (es := 1) (fun r => ∃ x : Int, r = [.int .u8 x] ∧ True) Try.underlying26 (by kernel_rfl) (fun n cs x hx hl => by
    obtain ⟨n0, e0, _, w0⟩ := DataW.trod_int Try.underlying5 hx
    subst e0
    exact ⟨_, Rs.cons (.int _ _) (Rs.nil _), n0, rfl, trivial⟩) (by decide) hsp h
  obtain ⟨l, rfl, hl⟩ := rows_map (fun x : Int => [LV.int .u8 x]) (fun _ => True) h3
  exact ⟨v, f, l, h1, h2⟩
set_option maxRecDepth 100000 in
theorem trod_kvs (hsp : ∀ b, spare b = true) {n : Nat} {cs : List Value} {x : DataW H × List MemPlace} (h : DataW.trod enc Try.prog W base spare held n 29 cs = some x) :
    ∃ v f l, cs = [v] ∧ R (Kof W) (kvsL f l) v := by
  have c3 : Try.prog.cellsOf 3 = 1 := by kernel_rfl
  have c26 : Try.prog.cellsOf 26 = 1 := by kernel_rfl
  obtain ⟨v, f, rows, h1, h2, h3⟩ := trod_isl (es := 2) (fun r => ∃ x : KV, r = x.lv ∧ True) Try.underlying29 (by kernel_rfl) (fun n cs x hx hl => by
    obtain ⟨xs, m, rfl, rfl, _, hlen, hf⟩ := DataW.trod_struct Try.underlying45 hx
    match cs, hl with
    | [u0, u1], _ =>
      match xs, hlen with
      | [y0, y1], _ =>
        have f0 : DataW.trod enc Try.prog W base spare held m 3 [u0] = some y0 := by simpa [c3] using hf 0 _ rfl
        have f1 : DataW.trod enc Try.prog W base spare held m 26 [u1] = some y1 := by simpa [c26] using hf 1 _ rfl
        obtain ⟨n0, e0, _, w0⟩ := DataW.trod_int Try.underlying3 f0
        obtain ⟨v1, g, b, e1, r1⟩ := trod_bytes hsp f1
        simp at e0 e1
        subst e0; subst e1
        exact ⟨_, Rs.cons (.int _ _) (Rs.cons r1 (Rs.nil _)), ⟨n0, g, b⟩, rfl, trivial⟩) (by decide) hsp h
  obtain ⟨l, rfl, hl⟩ := rows_map KV.lv (fun _ => True) h3
  exact ⟨v, f, l, h1, h2⟩
set_option maxRecDepth 100000 in
theorem open_evs {b0 : Nat} {r : Reach} {v : Value} {d : DataW H} {ps : List MemPlace}
    (hsp : ∀ b, spare b = true) (hval : Value.okWide Try.prog W r b0 22 v) (h : DataW.Trod enc Try.prog W base spare held 22 v d ps) : ∃ f l, R (Kof W) (evsL f l) v := by
  have c3 : Try.prog.cellsOf 3 = 1 := by kernel_rfl
  have c4 : Try.prog.cellsOf 4 = 1 := by kernel_rfl
  have c26 : Try.prog.cellsOf 26 = 1 := by kernel_rfl
  have c28 : Try.prog.cellsOf 28 = 2 := by kernel_rfl
  have c29 : Try.prog.cellsOf 29 = 1 := by kernel_rfl
  obtain ⟨f, rows, h1, h2⟩ := open_isl (es := 6) (fun r => ∃ x : Ev, r = x.lv ∧ True) Try.underlying22 (by kernel_rfl) (fun n cs x hx hl => by
    obtain ⟨xs, m, rfl, rfl, _, hlen, hf⟩ := DataW.trod_struct Try.underlying31 hx
    match cs, hl with
    | [u0, u1, u2, u3, u4, u5], _ =>
      match xs, hlen with
      | [y0, y1, y2, y3, y4], _ =>
        have f0 : DataW.trod enc Try.prog W base spare held m 3 [u0] = some y0 := by simpa [c3] using hf 0 _ rfl
        have f1 : DataW.trod enc Try.prog W base spare held m 3 [u1] = some y1 := by simpa [c3] using hf 1 _ rfl
        have f2 : DataW.trod enc Try.prog W base spare held m 3 [u2] = some y2 := by simpa [c3] using hf 2 _ rfl
        have f3 : DataW.trod enc Try.prog W base spare held m 28 [u3, u4] = some y3 := by simpa [c28] using hf 3 _ rfl
        have f4 : DataW.trod enc Try.prog W base spare held m 29 [u5] = some y4 := by simpa [c29] using hf 4 _ rfl
        obtain ⟨zs, m', _, _, _, hlen', hf'⟩ := DataW.trod_struct Try.underlying28 f3
        match zs, hlen' with
        | [z0, z1], _ =>
          have g0 : DataW.trod enc Try.prog W base spare held m' 4 [u3] = some z0 := by simpa [c4] using hf' 0 _ rfl
          have g1 : DataW.trod enc Try.prog W base spare held m' 26 [u4] = some z1 := by simpa [c26] using hf' 1 _ rfl
          obtain ⟨n0, e0, _, w0⟩ := DataW.trod_int Try.underlying3 f0
          obtain ⟨n1, e1, _, w1⟩ := DataW.trod_int Try.underlying3 f1
          obtain ⟨n2, e2, _, w2⟩ := DataW.trod_int Try.underlying3 f2
          obtain ⟨b3, e3, _⟩ := DataW.trod_bool Try.underlying4 g0
          obtain ⟨v4, q4, l4, e4, r4⟩ := trod_bytes hsp g1
          obtain ⟨v5, q5, l5, e5, r5⟩ := trod_kvs hsp f4
          simp at e0 e1 e2 e3 e4 e5
          subst e0; subst e1; subst e2; subst e3; subst e4; subst e5
          exact ⟨_, Rs.cons (.int _ _) (Rs.cons (.int _ _) (Rs.cons (.int _ _) (Rs.cons (.bool _) (Rs.cons r4 (Rs.cons r5 (Rs.nil _)))))), ⟨n0, n1, n2, b3, q4, l4, q5, l5⟩, rfl, trivial⟩) (by decide) hsp hval h
  obtain ⟨l, rfl, hl⟩ := rows_map Ev.lv (fun _ => True) h2
  exact ⟨f, l, h1⟩
end
end Go.Proofs.Ytnmgjclaegpnoaa
/- Plain laws of transactions that are one behind the other. -/
namespace Go.Lv
open Go Go.Proofs
set_option maxRecDepth 10000
set_option linter.unusedSimpArgs false
set_option linter.unusedVariables false

/-- One of them: it writes, reads, commits. -/
def tri (is f : Bool) (b : List Int) (ks : List Int) (i : Nat) : List Ev := [⟨((i + 1 : Nat) : Int), 2, ks.getD i 0, is, f, b, true, []⟩, ⟨((i + 1 : Nat) : Int), 1, ks.getD i 0, is, f, b, true, []⟩, ⟨((i + 1 : Nat) : Int), 4, 0, false, true, [], true, []⟩]
def alone (is f : Bool) (b : List Int) (ks : List Int) (n : Nat) : List Ev := (List.range n).flatMap (tri is f b ks)
section
variable {is f : Bool} {b ks : List Int}
theorem alone_succ (n : Nat) : alone is f b ks (n + 1) = alone is f b ks n ++ tri is f b ks n := by
  unfold alone; rw [List.range_succ, List.flatMap_append]; simp
theorem alone_len (n : Nat) : (alone is f b ks n).length = 3 * n := by
  induction n with
  | zero => rfl
  | succ n ih => rw [alone_succ, List.length_append, ih]; simp [tri]; omega
theorem tri_tx {i : Nat} {x : Ev} (h : x ∈ tri is f b ks i) : x.tx = ((i + 1 : Nat) : Int) ∧ x.b.length ≤ b.length := by
  simp only [tri, List.mem_cons, List.mem_nil_iff, or_false] at h
  rcases h with rfl | rfl | rfl <;> simp
theorem alone_tx {n : Nat} {x : Ev} (h : x ∈ alone is f b ks n) : ∃ i, i < n ∧ x ∈ tri is f b ks i := by
  unfold alone at h
  obtain ⟨i, hi, hx⟩ := List.mem_flatMap.1 h
  exact ⟨i, by simpa using hi, hx⟩
theorem may_append : ∀ (l m pre : List Ev), gMay pre (l ++ m) = (gMay pre l && gMay (pre ++ l) m)
  | [], m, pre => by simp [gMay]
  | x :: l, m, pre => by
    simp only [List.cons_append, gMay]
    rw [may_append l m (pre ++ [x])]
    simp [Bool.and_assoc]
theorem alone_may (n : Nat) : gMay [] (alone is f b ks n) = true := by
  induction n with
  | zero => rfl
  | succ n ih =>
    rw [alone_succ, may_append, ih, Bool.true_and, List.nil_append]
    have h0 : gEndedIn (alone is f b ks n) ((n + 1 : Nat) : Int) = false := by
      unfold gEndedIn
      rw [List.any_eq_false]
      intro x hx h
      obtain ⟨i, hi, hx⟩ := alone_tx hx
      have := (tri_tx hx).1
      simp at h
      omega
    have hn : ¬ (((n + 1 : Nat) : Int) < 1) := by omega
    have hcat : ∀ (l : List Ev) (x : Ev) (tx : Int), gEndedIn (l ++ [x]) tx = (gEndedIn l tx || (decide (x.tx = tx) && gEnds x)) := fun l x tx => by
      unfold gEndedIn; rw [List.any_append]; simp
    simp only [tri, gMay, hcat, h0, hn]
    simp [gEnds]
theorem Ed_append {j tx : Int} : ∀ (l m : List Ev), Ed (l ++ m) j tx → Ed l j tx ∨ Ed m j tx ∨ ((∃ a ∈ l, a.tx = j) ∧ ∃ c ∈ m, c.tx = tx)
  | [], m, h => .inr (.inl h)
  | x :: l, m, h => by
    simp only [List.cons_append, Ed] at h
    rcases h with ⟨h1, c, hc, h2, h3⟩ | h
    · rcases List.mem_append.1 hc with hc | hc
      · exact .inl (.inl ⟨h1, c, hc, h2, h3⟩)
      · exact .inr (.inr ⟨⟨x, by simp, h1⟩, c, hc, h3⟩)
    · rcases Ed_append l m h with h | h | ⟨⟨a, ha, h1⟩, h2⟩
      · exact .inl (.inr h)
      · exact .inr (.inl h)
      · exact .inr (.inr ⟨⟨a, by simp [ha], h1⟩, h2⟩)
theorem Ed_mem {l : List Ev} {j tx : Int} (h : Ed l j tx) : (∃ a ∈ l, a.tx = j) ∧ ∃ c ∈ l, c.tx = tx := by
  obtain ⟨i, k, _, a, c, ha, hc, _, h1, h2⟩ := (Ed_iff l j tx).1 h
  exact ⟨⟨a, List.mem_iff_getElem?.2 ⟨i, ha⟩, h1⟩, c, List.mem_iff_getElem?.2 ⟨k, hc⟩, h2⟩
theorem alone_lt {j tx : Int} (n : Nat) (h : Ed (alone is f b ks n) j tx) : j < tx := by
  induction n with
  | zero => exact h.elim
  | succ n ih =>
    rw [alone_succ] at h
    rcases Ed_append _ _ h with h | h | ⟨⟨a, ha, h1⟩, c, hc, h2⟩
    · exact ih h
    · obtain ⟨⟨a, ha, h1⟩, c, hc, h2⟩ := Ed_mem h
      have := h.ne
      have e1 := (tri_tx ha).1
      have e2 := (tri_tx hc).1
      omega
    · obtain ⟨i, hi, ha⟩ := alone_tx ha
      have e1 := (tri_tx ha).1
      have e2 := (tri_tx hc).1
      omega
theorem alone_still (n : Nat) : gStill (gBefore (alone is f b ks n)) = true :=
  gStill_rank (fun x => x) fun w hw c hc => alone_lt n ((before_mem hw).2 c hc).2
theorem alone_serial (n : Nat) : gSerial (alone is f b ks n) = true := by unfold gSerial; rw [alone_may, alone_still]; rfl
theorem tri_ends {n i : Nat} {a : Ev} (h : (tri is f b ks n)[i]? = some a) : gEndedIn ((tri is f b ks n).drop i) a.tx = true := by
  match i with
  | 0 => simp [tri] at h; subst h; simp [gEndedIn, tri, gEnds]
  | 1 => simp [tri] at h; subst h; simp [gEndedIn, tri, gEnds]
  | 2 => simp [tri] at h; subst h; simp [gEndedIn, tri, gEnds]
  | i + 3 => simp [tri] at h
theorem alone_ends (n : Nat) : ∀ (i : Nat) (a : Ev), (alone is f b ks n)[i]? = some a → gEndedIn ((alone is f b ks n).drop i) a.tx = true := by
  induction n with
  | zero => intro i a h; simp [alone] at h
  | succ n ih =>
    intro i a h
    rw [alone_succ] at h ⊢
    rcases Nat.lt_or_ge i (alone is f b ks n).length with hi | hi
    · rw [List.getElem?_append_left hi] at h
      rw [List.drop_append_of_le_length (by omega)]
      have := ih i a h
      unfold gEndedIn at this ⊢
      rw [List.any_append, this]; rfl
    · rw [List.getElem?_append_right hi] at h
      rw [List.drop_append, List.drop_of_length_le hi, List.nil_append]
      exact tri_ends h
theorem alone_strictP (n : Nat) : ∀ (i k : Nat) (a c : Ev), i < k → (alone is f b ks n)[i]? = some a → (alone is f b ks n)[k]? = some c → a.tx ≠ c.tx → gEndedIn (((alone is f b ks n).take k).drop i) a.tx = true := by
  induction n with
  | zero => intro i k a c _ h; simp [alone] at h
  | succ n ih =>
    intro i k a c hik ha hc hne
    rw [alone_succ] at ha hc ⊢
    rcases Nat.lt_or_ge k (alone is f b ks n).length with hk | hk
    · rw [List.getElem?_append_left (by omega)] at ha
      rw [List.getElem?_append_left hk] at hc
      rw [List.take_append_of_le_length (by omega)]
      exact ih i k a c hik ha hc hne
    · rw [List.getElem?_append_right hk] at hc
      rcases Nat.lt_or_ge i (alone is f b ks n).length with hi | hi
      · rw [List.getElem?_append_left hi] at ha
        rw [List.take_append, List.take_of_length_le hk, List.drop_append_of_le_length (by omega)]
        have := alone_ends n i a ha
        unfold gEndedIn at this ⊢
        rw [List.any_append, this]; rfl
      · rw [List.getElem?_append_right hi] at ha
        have e1 := (tri_tx (List.mem_iff_getElem?.2 ⟨_, ha⟩)).1
        have e2 := (tri_tx (List.mem_iff_getElem?.2 ⟨_, hc⟩)).1
        exact absurd (e1.trans e2.symm) hne
theorem alone_strict (n : Nat) : gStrict (alone is f b ks n) = true := by
  unfold gStrict
  rw [alone_may, Bool.true_and, List.all_eq_true]
  rintro ⟨i, k⟩ hp
  unfold gPairs at hp
  obtain ⟨k', hk', hp⟩ := List.mem_flatMap.1 hp
  unfold gInner at hp
  obtain ⟨i', hi', he⟩ := List.mem_map.1 hp
  cases he
  rw [List.mem_filter] at hi'
  simp at hk' hi'
  have hi : i < (alone is f b ks n).length := by omega
  simp only []
  rw [List.getElem?_eq_getElem hi]
  simp only []
  have hcl := hi'.2
  unfold clashAt at hcl
  rw [List.getElem?_eq_getElem hi, List.getElem?_eq_getElem hk'] at hcl
  have hne : (alone is f b ks n)[i].tx ≠ (alone is f b ks n)[k].tx := fun e => by simp [gClash, e] at hcl
  rw [alone_strictP n i k _ _ hi'.1 (List.getElem?_eq_getElem hi) (List.getElem?_eq_getElem hk') hne]
  simp
theorem mget_put (m : Mem) (k : Int) (v : List Int) : mget (mput m k v) k = some v := by
  unfold mget mput
  rw [List.find?_append]
  have : (m.filter fun p => decide (p.1 < k)).find? (fun p => decide (p.1 = k)) = none := by
    rw [List.find?_eq_none]
    intro x hx
    have := (List.mem_filter.1 hx).2
    simp at this ⊢; omega
  rw [this]; simp
theorem mget_del (m : Mem) (k : Int) : mget (mdel m k) k = none := by
  unfold mget mdel
  rw [List.find?_append]
  have h1 : (m.filter fun p => decide (p.1 < k)).find? (fun p => decide (p.1 = k)) = none := by
    rw [List.find?_eq_none]
    intro x hx
    have := (List.mem_filter.1 hx).2
    simp at this ⊢; omega
  have h2 : (m.filter fun p => decide (k < p.1)).find? (fun p => decide (p.1 = k)) = none := by
    rw [List.find?_eq_none]
    intro x hx
    have := (List.mem_filter.1 hx).2
    simp at this ⊢; omega
  rw [h1, h2]; rfl
theorem alone_filter (n : Nat) {i : Nat} (hi : i < n) : (alone is f b ks n).filter (fun x => decide (x.tx = ((i + 1 : Nat) : Int))) = tri is f b ks i := by
  induction n with
  | zero => omega
  | succ n ih =>
    rw [alone_succ, List.filter_append]
    rcases Nat.lt_or_ge i n with h | h
    · rw [ih h]
      have : (tri is f b ks n).filter (fun x => decide (x.tx = ((i + 1 : Nat) : Int))) = [] := by
        rw [List.filter_eq_nil_iff]
        intro x hx
        have := (tri_tx hx).1
        simp; omega
      rw [this, List.append_nil]
    · have hin : i = n := by omega
      subst hin
      have h1 : (alone is f b ks i).filter (fun x => decide (x.tx = ((i + 1 : Nat) : Int))) = [] := by
        rw [List.filter_eq_nil_iff]
        intro x hx
        obtain ⟨j, hj, hx⟩ := alone_tx hx
        have := (tri_tx hx).1
        simp; omega
      have h2 : (tri is f b ks i).filter (fun x => decide (x.tx = ((i + 1 : Nat) : Int))) = tri is f b ks i := by
        rw [List.filter_eq_self]
        intro x hx
        have := (tri_tx hx).1
        simp; omega
      rw [h1, h2, List.nil_append]
theorem tri_good (hb : is = false → b = []) (i : Nat) (s : Mem × Bool) (hs : s.2 = true) : ((tri is f b ks i).foldl gStep s).2 = true := by
  simp only [tri, List.foldl_cons, List.foldl_nil, gStep, gDo, gSees, hs]
  cases is with
  | true => simp [mget_put]
  | false => simp [mget_del, hb rfl]
theorem alone_good (hb : is = false → b = []) (n : Nat) : (gReplay (alone is f b ks n)).2 = true := by
  unfold gReplay
  rw [if_pos (alone_may n)]
  have key : ∀ (l : List Ev) (s : Mem × Bool), (∀ x ∈ l, x ∈ alone is f b ks n) → s.2 = true → (l.foldl (gRun1 (alone is f b ks n)) s).2 = true := by
    intro l
    induction l with
    | nil => intro s _ hs; exact hs
    | cons c l ih =>
      intro s hl hs
      rw [List.foldl_cons]
      refine ih _ (fun x hx => hl x (by simp [hx])) ?_
      unfold gRun1
      split
      · obtain ⟨i, hi, hc⟩ := alone_tx (hl c (by simp))
        rw [(tri_tx hc).1, alone_filter n hi]
        exact tri_good hb i s hs
      · exact hs
  exact key _ _ (fun x hx => hx) rfl
end
end Go.Lv
/- The walk of the law JudgeAlone. -/
namespace Go.Lv
open Go Go.Proofs
set_option maxRecDepth 10000
set_option linter.unusedSimpArgs false
set_option linter.unusedVariables false

/-- The rows that the law lays. -/
def triR (is f : Bool) (b : List Int) (ks : List Int) (i : Nat) : List (List LV) := [[i64 ((i + 1 : Nat) : Int), i64 2, i64 (ks.getD i 0), .bool is, bytesL f b, .nilsl], [i64 ((i + 1 : Nat) : Int), i64 1, i64 (ks.getD i 0), .bool is, bytesL f b, .nilsl], [i64 ((i + 1 : Nat) : Int), i64 4, i64 0, .bool false, .nilsl, .nilsl]]
def aloneR (is f : Bool) (b : List Int) (ks : List Int) (n : Nat) : List (List LV) := (List.range n).flatMap (triR is f b ks)
section
variable {is f : Bool} {b ks : List Int}
theorem aloneR_succ (n : Nat) : aloneR is f b ks (n + 1) = aloneR is f b ks n ++ triR is f b ks n := by
  unfold aloneR; rw [List.range_succ, List.flatMap_append]; simp
theorem triR_ok (i : Nat) : RowsOk 6 (triR is f b ks i) := ⟨fun r h => by simp only [triR, List.mem_cons, List.mem_nil_iff, or_false] at h; rcases h with rfl | rfl | rfl <;> rfl, rfl⟩
theorem aloneR_ok (n : Nat) : RowsOk 6 (aloneR is f b ks n) := by
  induction n with
  | zero => exact RowsOk.nil 6
  | succ n ih => rw [aloneR_succ]; exact ih.append (triR_ok n)
theorem aloneR_len (n : Nat) : (aloneR is f b ks n).length = 3 * n := by
  induction n with
  | zero => rfl
  | succ n ih => rw [aloneR_succ, List.length_append, ih]; simp [triR]; omega
/-- .. row by row. -/
def WksR (xs ys : List (List LV)) : Prop := xs.length = ys.length ∧ ∀ (i : Nat) x y, xs[i]? = some x → ys[i]? = some y → Wks x y
theorem WksR.append {xs ys zs us : List (List LV)} (h : WksR xs ys) (h' : WksR zs us) : WksR (xs ++ zs) (ys ++ us) := by
  refine ⟨by simp [h.1, h'.1], fun i x y hx hy => ?_⟩
  rcases Nat.lt_or_ge i xs.length with hi | hi
  · rw [List.getElem?_append_left hi] at hx
    rw [List.getElem?_append_left (by rw [← h.1]; exact hi)] at hy
    exact h.2 i x y hx hy
  · rw [List.getElem?_append_right hi] at hx
    rw [List.getElem?_append_right (by rw [← h.1]; exact hi), ← h.1] at hy
    exact h'.2 _ x y hx hy
theorem tri_wk (i : Nat) : WksR (triR is f b ks i) ((tri is f b ks i).map Ev.lv) := by
  refine ⟨rfl, fun j x y hx hy => ?_⟩
  match j with
  | 0 => simp [triR] at hx; simp [tri] at hy; subst hx; subst hy; exact .cons (.refl _) (.cons (.refl _) (.cons (.refl _) (.cons (.refl _) (.cons (.refl _) (.cons (.nil _ _) .nil)))))
  | 1 => simp [triR] at hx; simp [tri] at hy; subst hx; subst hy; exact .cons (.refl _) (.cons (.refl _) (.cons (.refl _) (.cons (.refl _) (.cons (.refl _) (.cons (.nil _ _) .nil)))))
  | 2 => simp [triR] at hx; simp [tri] at hy; subst hx; subst hy; exact .cons (.refl _) (.cons (.refl _) (.cons (.refl _) (.cons (.refl _) (.cons (.nil _ _) (.cons (.nil _ _) .nil)))))
  | j + 3 => simp [triR] at hx
theorem alone_wk (n : Nat) : WksR (aloneR is f b ks n) ((alone is f b ks n).map Ev.lv) := by
  induction n with
  | zero => exact ⟨rfl, fun i x y hx => by simp [aloneR] at hx⟩
  | succ n ih => rw [aloneR_succ, alone_succ, List.map_append]; exact ih.append (tri_wk n)
end

/-- Behind the test. -/
def AloneI (fk : Bool) (ks : List Int) (H : OHeap) (e : Env) (B : Box) (H' : OHeap) : Prop := ∃ (is f : Bool) (b : List Int), (is = false → b = []) ∧ b.length ≤ 100 ∧ e 0 = intsL fk ks ∧ e 3 = .bp 3 1 0 ∧ B 3 = (1, some [.bool is, bytesL f b]) ∧ e 5 = .bool true ∧ H' = H

theorem lawAlone_lv (fk : Bool) (ks : List Int) (is f : Bool) (b : List Int) (H : OHeap) : CallL Try.prog 5 [intsL fk ks, valL is f b] H fun y H' => y = .bool true ∧ H' = H := by
  refine CallL.of_wp (n := 2) tok Try.func5 (c := _) rfl (by kernel_rfl) rfl ?_
  refine WP.cut tok ?_
  simp -implicitDefEqProofs [nobox, valL]
  refine WP.cut tok ?_
  simp -implicitDefEqProofs [nobox]
  refine CallL.ret (awake_lv H) ?_
  simp -implicitDefEqProofs [nobox]
  refine WP.cut tok ?_
  simp -implicitDefEqProofs [nobox, intsL, rowL, bytesL]
  refine ⟨fun h => Ends.of ⟨rfl, rfl⟩, fun h => ⟨fun h2 => Ends.of ⟨rfl, rfl⟩, fun h2 => ?_⟩⟩
  have hkl : ks.length ≤ 20 := by simp at h; omega
  have hbl : b.length ≤ 100 := by simp at h2; omega
  refine WP.cut tok ?_
  cases is
  case' false =>
    simp -implicitDefEqProofs [nobox, seg]
    refine WP.via (AloneI fk ks H) ⟨_, _, _, Below.boxRel (d := 3) (ver := 1) (cs := [.bool false, .nilsl]) (cs' := [.bool false, bytesL true []]) (by simp [nobox]) rfl (fun K i a b v ha hb hr => ?rel), false, true, [], fun _ => rfl, by simp, by simp [intsL, rowL], by simp, by simp [nobox], by simp, rfl⟩ ?_
    case rel =>
      match i with
      | 0 => simp at ha hb; subst ha; subst hb; exact hr
      | 1 => simp at ha hb; subst ha; subst hb; exact R.nil_isl true 1 hr
      | i + 2 => simp at ha
  case' true =>
    simp -implicitDefEqProofs [nobox]
    refine WP.via (AloneI fk ks H) ⟨_, _, _, Below.refl, true, f, b, (fun h => by cases h), hbl, by simp [intsL, rowL], by simp, by simp [nobox, bytesL], by simp, rfl⟩ ?_
  all_goals
    clear hbl h h2
    rintro e B H' ⟨is, f, b, hbb, hbl, e0, e3, hB, e5, rfl⟩
    refine WP.cut tok ?_
    simp -implicitDefEqProofs [e0, e3]
    refine WP.cut tok ?_
    simp -implicitDefEqProofs [e0, e3]
    refine WP.loopG (σ := Nat) (fun n e B H => OutR 6 (aloneR is f b ks n) H' (e 6) H ∧ n ≤ ks.length ∧ e 0 = intsL fk ks ∧ e 3 = .bp 3 1 0 ∧ B 3 = (1, some [.bool is, bytesL f b]) ∧ e 5 = .bool true ∧ e 7 = i64 n) (fun n => ks.length - n) 0 ?_ ?_
    · simp [e0, e3, hB, e5]
      exact .inl ⟨rfl, rfl, rfl⟩
    · rintro n e B H ⟨hout, hn, e0, e3, hB, e5, e7⟩
      refine vc_sound tok _ _ _ _ _ ?_
      generalize e6 : e 6 = y at hout
      rcases Nat.lt_or_ge n ks.length with hlt | hge
      · have hw := wnext hlt (by omega)
        have hg := hout.glob
        simp -implicitDefEqProofs [e0, e3, e5, e6, e7, intsL, rowL, hlt, seg, hg]
        refine WP.draws tok mixed [(0, []), (1, []), (2, []), (3, []), (4, []), (5, []), (6, []), (7, []), (8, []), (9, []), (10, []), (11, []), (12, []), (13, []), (14, []), (15, []), (16, []), (17, []), (18, []), (19, []), (20, []), (21, []), (22, [])] [0, 0, 2, 0, 0, 24, 56, 0, 254, 0, 512, 0, 0, 6144, 14336, 0, 65024, 0, 131072, 393216, 1048574, 2097151, 4194303] 2097151 [] (by kernel_rfl) ?_
        have hw2 : IntKind.i64.wrap ((n : Int) + 1) = (n : Int) + 1 := by rw [hw]; rfl
        have hk : ks[n] = ks.getD n 0 := by simp [hlt]
        simp -implicitDefEqProofs [e0, e3, e5, e6, e7, intsL, rowL, hlt, seg, hg, hB, bytesL, hw2]
        rw [hk]
        refine OutR.append (by_ := 80) (new := triR is f b ks n) hout (aloneR_ok n) (triR_ok n) (by simp [triR]) (by rw [aloneR_len]; simp [triR]; omega) (by decide) fun y' H3 hy' => ?_
        have hy1 := hy'.one
        simp -implicitDefEqProofs [e0, e3, e5, e6, e7, hy1, lcells_one hy1, hy'.glob]
        refine Next.of (n + 1) (by omega) ?_
        rw [← aloneR_succ] at hy'
        simp [e0, e3, e5, hB, intsL, rowL, hw2, bytesL]
        exact ⟨hy', by omega⟩
      · have hno : ¬ n < ks.length := by omega
        have hnk : n = ks.length := by omega
        subst hnk
        simp -implicitDefEqProofs [e0, e3, e5, e6, e7, intsL, rowL]
        rw [← e6] at hout
        refine (WP.sealR (i := 6) (H := H') (es := 6) (rows := aloneR is f b ks ks.length) ?_ (aloneR_ok _) ?_ : WP _ _ _ _ _ _ _ _)
        · simpa using hout
        intro fm e' e6' hst
        have e5' : e' 5 = .bool true := by rw [hst 5 (by simp [e5, LV.stb]) (by decide)]; simp [e5]
        refine WP.below (Below.slot (i := 6) (y := evsL fm (alone is f b ks ks.length)) (by rw [e6']; simp) (fun K v hv => ?_)) ?_
        · rw [e6'] at hv
          have hwk := alone_wk (is := is) (f := f) (b := b) (ks := ks) ks.length
          exact Wk1.isl hwk.1 hwk.2 K v hv
        have hal : (alone is f b ks ks.length).length ≤ 60 := by rw [alone_len]; omega
        have halb : ∀ x ∈ alone is f b ks ks.length, x.b.length ≤ 1000 := fun x hx => by
          obtain ⟨i, _, hx⟩ := alone_tx hx
          have := (tri_tx hx).2
          omega
        refine (vc_sound tok _ _ _ _ _ ?_ : WP _ _ _ _ _ _ _ _)
        simp -implicitDefEqProofs [e5']
        refine (replay_lv fm _ _ (by omega) halb).mono fun y H3 hy => ?_
        obtain ⟨⟨g3, kv1, rfl, ht1, hk1, hk1'⟩, rfl⟩ := hy
        rw [alone_good hbb]
        simp -implicitDefEqProofs [e5']
        refine CallL.ret (may_lv fm _ _ (by omega)) ?_
        rw [alone_may]
        simp -implicitDefEqProofs [e5']
        refine CallL.ret (strict_lv fm _ _ (by omega)) ?_
        rw [alone_strict]
        simp -implicitDefEqProofs [e5']
        refine CallL.ret (serial_lv fm _ _ (by omega)) ?_
        rw [alone_serial]
        simp -implicitDefEqProofs [e5']
        refine (before_lv fm _ _ (by omega)).mono fun y H4 hy => ?_
        obtain ⟨⟨g1, ws, rfl, hw⟩, rfl⟩ := hy
        simp -implicitDefEqProofs [e5']
        refine CallL.ret (still13_lv g1 ws (.before hw (by omega)) _) ?_
        rw [hw, alone_still]
        simp -implicitDefEqProofs [e5']
        exact Ends.of ⟨rfl, rfl⟩
end Go.Lv
