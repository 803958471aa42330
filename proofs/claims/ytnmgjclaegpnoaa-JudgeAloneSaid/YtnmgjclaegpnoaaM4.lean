/- Texts of this proof, put together: Jb2, Jb3, Jb4, Jb5, Jb6, Jb7, Jb8, Jb9, Jc1, Jc2, Jc3, Jc4, Ls1, Js1, Jc5, Jc6, Jc7, Jd1. No condition. -/
import Derived.Test.YtnmgjclaegpnoaaM3
import Derived.Shelf.Sort.Plain
import Derived.Shelf.Slices.In.SortNone
import Derived.Ground.Names2Prog
/- The omap: what is owned of one; its own functions, with maps in it. -/
namespace Go.Lv
open Go Go.Proofs
set_option maxRecDepth 10000
set_option linter.unusedSimpArgs false
set_option linter.unusedVariables false

theorem setH_comm {H : OHeap} {b b' : Nat} {o o' : LO} (h : b ≠ b') : setH (setH H b o) b' o' = setH (setH H b' o') b o := by
  funext i; simp only [setH_apply]; split <;> split <;> simp_all
theorem OutV.glob {ys : List LV} {H H' : OHeap} {x : LV} (h : OutV ys H x H') : x.glob = true := by rcases h with ⟨_, rfl, _⟩ | ⟨b, c, rest, _, _, rfl, _⟩ <;> rfl
theorem OutV.one {ys : List LV} {H H' : OHeap} {x : LV} (h : OutV ys H x H') : x.one = true := by rcases h with ⟨_, rfl, _⟩ | ⟨b, c, rest, _, _, rfl, _⟩ <;> rfl
theorem OutV.toNone {ys : List LV} {H H' : OHeap} {x : LV} (h : OutV ys H x H') {b : Nat} (hb : H' b = none) : H b = none := by
  rcases h with ⟨_, _, rfl⟩ | ⟨b', c, rest, h1, _, _, rfl⟩
  · exact hb
  · simp only [setH_apply] at hb; split at hb
    · cases hb
    · exact hb
theorem OutV.toSome {ys : List LV} {H H' : OHeap} {x : LV} (h : OutV ys H x H') {b : Nat} {o : LO} (hb : H b = some o) : H' b = some o := by
  rcases h with ⟨_, _, rfl⟩ | ⟨b', c, rest, h1, _, _, rfl⟩
  · exact hb
  · simp only [setH_apply]; split
    · rename_i hh; subst hh; rw [h1] at hb; cases hb
    · exact hb
theorem OutV.add {ys : List LV} {H H' : OHeap} {x : LV} (h : OutV ys H x H') {b : Nat} (o : LO) (hb : H' b = none) : OutV ys (setH H b o) x (setH H' b o) := by
  rcases h with ⟨h1, h2, rfl⟩ | ⟨b', c, rest, h1, h2, h3, rfl⟩
  · exact .inl ⟨h1, h2, rfl⟩
  · have hne : b' ≠ b := fun hh => by subst hh; simp at hb
    exact .inr ⟨b', c, rest, by simp [hne, h1], h2, h3, setH_comm hne⟩
theorem OutV.upd {ys : List LV} {H H' : OHeap} {x : LV} (h : OutV ys H x H') {b : Nat} (o : LO) (hb : (H b).isSome = true) : OutV ys (setH H b o) x (setH H' b o) := by
  rcases h with ⟨h1, h2, rfl⟩ | ⟨b', c, rest, h1, h2, h3, rfl⟩
  · exact .inl ⟨h1, h2, rfl⟩
  · have hne : b' ≠ b := fun hh => by subst hh; rw [h1] at hb; cases hb
    exact .inr ⟨b', c, rest, by simp [hne, h1], h2, h3, setH_comm hne⟩
theorem OutV.swap {ks xs : List LV} {H H1 H2 : OHeap} {kx vx : LV} (h : OutV ks H kx H1) (h' : OutV xs H1 vx H2) : ∃ H3, OutV xs H vx H3 ∧ OutV ks H3 kx H2 := by
  rcases h with ⟨h1, h2, rfl⟩ | ⟨b, c, rest, h1, h2, h3, rfl⟩
  · exact ⟨H2, h', .inl ⟨h1, h2, rfl⟩⟩
  · rcases h' with ⟨g1, g2, rfl⟩ | ⟨b', c', rest', g1, g2, g3, rfl⟩
    · exact ⟨H, .inl ⟨g1, g2, rfl⟩, .inr ⟨b, c, rest, h1, h2, h3, rfl⟩⟩
    · have hne : b ≠ b' := fun hh => by subst hh; simp at g1
      have g1' : H b' = none := by simpa [Ne.symm hne] using g1
      exact ⟨_, .inr ⟨b', c', rest', g1', g2, g3, rfl⟩, .inr ⟨b, c, rest, by simp [hne, h1], h2, h3, setH_comm hne⟩⟩

/-- What is owned of an omap: keys, rising, and what they have. -/
def OM (ks : List Int) (xs : List LV) (sb : Nat) (H H' : OHeap) : Prop :=
  (ks.length = xs.length ∧ Rising ks ∧ xs.all (fun x => x.one && x.glob) = true) ∧
    ∃ kx vx H1 H2, H2 sb = none ∧ OutV (ks.map i64) H kx H1 ∧ OutV xs H1 vx H2 ∧ H' = setH H2 sb (.cells [kx, vx] 2)

theorem OM.sb_none {ks : List Int} {xs : List LV} {sb : Nat} {H H' : OHeap} (h : OM ks xs sb H H') : H sb = none := by
  obtain ⟨_, kx, vx, H1, H2, h2, hk, hv, rfl⟩ := h
  exact hk.toNone (hv.toNone h2)
theorem OM.add {ks : List Int} {xs : List LV} {sb : Nat} {H H' : OHeap} (h : OM ks xs sb H H') {b : Nat} (o : LO) (hb : H' b = none) : OM ks xs sb (setH H b o) (setH H' b o) := by
  obtain ⟨h0, kx, vx, H1, H2, h2, hk, hv, rfl⟩ := h
  have hne : sb ≠ b := fun hh => by subst hh; simp at hb
  have hb2 : H2 b = none := by simpa [Ne.symm hne] using hb
  exact ⟨h0, kx, vx, _, _, by simpa [hne] using h2, hk.add o (hv.toNone hb2), hv.add o hb2, setH_comm (Ne.symm hne) |>.symm⟩
theorem OM.upd {ks : List Int} {xs : List LV} {sb : Nat} {H H' : OHeap} (h : OM ks xs sb H H') {b : Nat} (o : LO) (hb : (H b).isSome = true) : OM ks xs sb (setH H b o) (setH H' b o) := by
  obtain ⟨h0, kx, vx, H1, H2, h2, hk, hv, rfl⟩ := h
  have hb1 : (H1 b).isSome = true := by obtain ⟨o', ho⟩ := Option.isSome_iff_exists.1 hb; rw [hk.toSome ho]; rfl
  have hb2 : (H2 b).isSome = true := by obtain ⟨o', ho⟩ := Option.isSome_iff_exists.1 hb1; rw [hv.toSome ho]; rfl
  have hne : sb ≠ b := fun hh => by subst hh; rw [h2] at hb2; cases hb2
  exact ⟨h0, kx, vx, _, _, by simpa [hne] using h2, hk.upd o hb, hv.upd o hb1, setH_comm (Ne.symm hne) |>.symm⟩
theorem OM.toSome {ks : List Int} {xs : List LV} {sb : Nat} {H H' : OHeap} (h : OM ks xs sb H H') {b : Nat} {o : LO} (hb : H b = some o) : H' b = some o := by
  have hne : b ≠ sb := fun hh => by subst hh; rw [h.sb_none] at hb; cases hb
  obtain ⟨h0, kx, vx, H1, H2, h2, hk, hv, rfl⟩ := h
  simp [hne, hv.toSome (hk.toSome hb)]
theorem OM.toNone {ks : List Int} {xs : List LV} {sb : Nat} {H H' : OHeap} (h : OM ks xs sb H H') {b : Nat} (hb : H' b = none) : H b = none := by
  cases hh : H b with
  | none => rfl
  | some o => rw [h.toSome hh] at hb; cases hb

/-- What the walks look at. -/
theorem OM.parts {ks : List Int} {xs : List LV} {sb : Nat} {H H' : OHeap} (h : OM ks xs sb H H') : ∃ kx vx, H' sb = some (.cells [kx, vx] 2) ∧ kx.glob = true ∧ vx.glob = true ∧ kx.one = true ∧ vx.one = true ∧
    (∃ G, OutV (ks.map i64) G kx H') ∧ (∃ G, OutV xs G vx H') := by
  obtain ⟨h0, kx, vx, H1, H2, h2, hk, hv, rfl⟩ := h
  obtain ⟨H3, hv3, hk3⟩ := hk.swap hv
  exact ⟨kx, vx, by simp, hk.glob, hv.glob, hk.one, hv.one, ⟨_, hk3.add _ h2⟩, ⟨_, hv.add _ h2⟩⟩

theorem findM_lv (ks : List Int) (xs : List LV) (sb : Nat) (k : Int) (H H1 : OHeap) (h : OM ks xs sb H H1) (hl : ks.length < 2 ^ 40) :
    CallL Try.prog 33 [.ptr sb 0, i64 k] H1 fun x H' => x = .tup [i64 (gPos ks k), .bool (gHas ks k)] ∧ H' = H1 := by
  obtain ⟨kx, vx, hs, hg, _, _, _, ⟨G, hk⟩, _⟩ := h.parts
  refine CallL.of_vc (n := 2) tok Try.func33 (c := _) rfl (by kernel_rfl) rfl ?_
  simp -implicitDefEqProofs [hs, hg, notNil]
  refine CallL.ret (bsearch_lv ks k kx G H1 hk h.1.2.1 hl) ?_
  simp -implicitDefEqProofs
  exact Ends.of ⟨rfl, rfl⟩

theorem OutV.del {ys : List LV} {G G' : OHeap} {x : LV} {b : Nat} {o : LO} (h : OutV ys (setH G b o) x G') (hb : G b = none) : ∃ G'', OutV ys G x G'' ∧ G' = setH G'' b o ∧ G'' b = none := by
  rcases h with ⟨h1, h2, rfl⟩ | ⟨b', c, rest, h1, h2, h3, rfl⟩
  · exact ⟨G, .inl ⟨h1, h2, rfl⟩, rfl, hb⟩
  · have hne : b' ≠ b := fun hh => by subst hh; simp at h1
    exact ⟨_, .inr ⟨b', c, rest, by simpa [hne] using h1, h2, h3, rfl⟩, setH_comm (Ne.symm hne), by simp [Ne.symm hne, hb]⟩
/-- Keys and what they have are written one behind the other, then the record. -/
theorem OM.update {ks : List Int} {xs : List LV} {sb : Nat} {H H1 : OHeap} (h : OM ks xs sb H H1) : ∃ kx vx Gk, H1 sb = some (.cells [kx, vx] 2) ∧ kx.glob = true ∧ vx.glob = true ∧ kx.one = true ∧ vx.one = true ∧
    OutV (ks.map i64) Gk kx H1 ∧ ∀ (ks' : List Int) kx' H1', OutV (ks'.map i64) Gk kx' H1' → H1' sb = some (.cells [kx, vx] 2) ∧ ∃ H4, OutV xs H4 vx H1' ∧ ∀ xs' vx' H1'', OutV xs' H4 vx' H1'' →
      H1'' sb = some (.cells [kx, vx] 2) ∧ (ks'.length = xs'.length → Rising ks' → xs'.all (fun x => x.one && x.glob) = true → OM ks' xs' sb H (setH H1'' sb (.cells [kx', vx'] 2))) := by
  have hsb := h.sb_none
  obtain ⟨h0, kx, vx, Ha, H2, h2, hk, hv, rfl⟩ := h
  obtain ⟨H3, hv3, hk3⟩ := hk.swap hv
  have h3 : H3 sb = none := hk3.toNone h2
  refine ⟨kx, vx, setH H3 sb (.cells [kx, vx] 2), by simp, hk.glob, hv.glob, hk.one, hv.one, hk3.add _ h2, fun ks' kx' H1' hk' => ⟨hk'.toSome (by simp), ?_⟩⟩
  obtain ⟨H4, hk4, hv4⟩ := (hv3.add (.cells [kx, vx] 2) h3).swap hk'
  refine ⟨H4, hv4, fun xs' vx' H1'' hv' => ?_⟩
  obtain ⟨H4', hk5, rfl, h45⟩ := hk4.del hsb
  obtain ⟨H5, hv5, rfl, h55⟩ := hv'.del h45
  exact ⟨by simp, fun a b c => ⟨⟨a, b, c⟩, kx', vx', H4', H5, h55, hk5, hv5, setH_setH⟩⟩

theorem gPos_le (ks : List Int) (k : Int) : gPos ks k ≤ ks.length := List.length_filter_le _ _
/-- Where it stands, as the search sees it. -/
theorem gPos_lt {ks : List Int} (hr : Rising ks) (k : Int) : (∀ p, (h : p < ks.length) → p < gPos ks k → ks[p] < k) ∧ (∀ p, (h : p < ks.length) → gPos ks k ≤ p → k ≤ ks[p]) := by
  induction ks with
  | nil => exact ⟨fun p h => by simp at h, fun p h => by simp at h⟩
  | cons a ks ih =>
    have hr' : Rising ks := (List.pairwise_cons.1 hr).2
    have ha := (List.pairwise_cons.1 hr).1
    obtain ⟨i1, i2⟩ := ih hr'
    by_cases hak : a < k
    · have e : gPos (a :: ks) k = gPos ks k + 1 := by simp [gPos, hak]
      rw [e]
      refine ⟨fun p h hp => ?_, fun p h hp => ?_⟩
      · cases p with
        | zero => exact hak
        | succ p => exact i1 p (by simpa using h) (by omega)
      · cases p with
        | zero => omega
        | succ p => exact i2 p (by simpa using h) (by omega)
    · have e : gPos (a :: ks) k = 0 := by
        have : ks.filter (fun x => decide (x < k)) = [] := by
          rw [List.filter_eq_nil_iff]; intro x hx; have := ha x hx; simp; omega
        simp [gPos, hak, this]
      rw [e]
      refine ⟨fun p h hp => by omega, fun p h _ => ?_⟩
      cases p with
      | zero => simp; omega
      | succ p => have := ha (ks[p]'(by simpa using h)) (List.getElem_mem _); simp; omega
theorem gPos_has {ks : List Int} (hr : Rising ks) {k : Int} (h : gHas ks k = true) : ∃ hp : gPos ks k < ks.length, ks[gPos ks k] = k := by
  obtain ⟨p, hp, he⟩ := List.mem_iff_getElem.1 (by simpa [gHas] using h : k ∈ ks)
  obtain ⟨h1, h2⟩ := gPos_lt hr k
  have hat := List.pairwise_iff_getElem.1 hr
  rcases Nat.lt_trichotomy p (gPos ks k) with hq | hq | hq
  · have := h1 p hp hq; omega
  · have hq' : gPos ks k < ks.length := by omega
    refine ⟨hq', ?_⟩
    have : ks[gPos ks k] = ks[p] := by congr 1; exact hq.symm
    rw [this, he]
  · have hq' : gPos ks k < ks.length := by omega
    have := hat (gPos ks k) p hq' hp hq
    have := h2 (gPos ks k) hq' (Nat.le_refl _)
    omega

theorem OutV.row {ys : List LV} {G H : OHeap} {x : LV} (h : OutV ys G x H) {i : Nat} (hi : i < ys.length) : ∃ b c cs, x = .sl b 0 ys.length c ∧ ys.length ≤ c ∧ G b = none ∧ H b = some (.cells cs c) ∧ cs[i]? = some ys[i] ∧ ys.length ≤ cs.length ∧ H = setH G b (.cells cs c) ∧ ∃ rest, cs = ys ++ rest := by
  rcases h with ⟨rfl, _, _⟩ | ⟨b, c, rest, h1, h2, h3, rfl⟩
  · simp at hi
  · exact ⟨b, c, ys ++ rest, h3, h2, h1, by simp, by rw [List.getElem?_append_left hi]; simp [hi], by simp, rfl, rest, rfl⟩

/-- Get. -/
def gAt (z : LV) (ks : List Int) (xs : List LV) (k : Int) : LV := if gHas ks k = true then xs.getD (gPos ks k) z else z
theorem getM_lv (ks : List Int) (xs : List LV) (sb : Nat) (k : Int) (H H1 : OHeap) (h : OM ks xs sb H H1) (hl : ks.length < 2 ^ 40) :
    CallL Try.prog 21 [.ptr sb 0, i64 k] H1 fun x H' => x = .tup [gAt .nilm ks xs k, .bool (gHas ks k)] ∧ H' = H1 := by
  obtain ⟨kx, vx, hs, _, hg, _, _, _, G, hv⟩ := h.parts
  refine CallL.of_vc (n := 2) tok Try.func21 (c := _) rfl (by kernel_rfl) rfl ?_
  simp -implicitDefEqProofs
  refine CallL.ret (findM_lv ks xs sb k H H1 h hl) ?_
  cases hh : gHas ks k with
  | false =>
    simp -implicitDefEqProofs
    exact Ends.of ⟨by simp [gAt, hh], rfl⟩
  | true =>
    obtain ⟨hp, hpe⟩ := gPos_has h.1.2.1 hh
    have hpx : gPos ks k < xs.length := by rw [← h.1.1]; exact hp
    obtain ⟨b, c, cs, rfl, hc, _, hH, hcs, hle, _⟩ := hv.row hpx
    have hgx : xs[gPos ks k].glob = true := by have := List.all_eq_true.1 h.1.2.2 _ (List.getElem_mem hpx); simp at this; exact this.2
    simp -implicitDefEqProofs [hs, notNil, hpx, hH, hcs, hgx]
    exact Ends.of ⟨by simp [gAt, hh, hpx], rfl⟩

/-- Set. -/
def gSetK (ks : List Int) (k : Int) : List Int := if gHas ks k = true then ks else ks.take (gPos ks k) ++ k :: ks.drop (gPos ks k)
def gSetV (ks : List Int) (xs : List LV) (k : Int) (v : LV) : List LV := if gHas ks k = true then xs.set (gPos ks k) v else xs.take (gPos ks k) ++ v :: xs.drop (gPos ks k)
theorem Rising.set {ks : List Int} (hr : Rising ks) (k : Int) : Rising (gSetK ks k) := by
  unfold gSetK
  split
  · exact hr
  · rename_i hh
    obtain ⟨h1, h2⟩ := gPos_lt hr k
    have hlt : ∀ x ∈ ks.take (gPos ks k), x < k := fun x hx => by
      obtain ⟨p, hp, rfl⟩ := List.mem_iff_getElem.1 hx
      rw [List.length_take] at hp
      simpa using h1 p (by omega) (by omega)
    have hgt : ∀ x ∈ ks.drop (gPos ks k), k < x := fun x hx => by
      obtain ⟨p, hp, rfl⟩ := List.mem_iff_getElem.1 hx
      rw [List.length_drop] at hp
      have h3 := h2 (gPos ks k + p) (by omega) (by omega)
      simp only [List.getElem_drop]
      have : ks[gPos ks k + p] ≠ k := fun he => hh (by unfold gHas; rw [List.contains_iff_mem, ← he]; exact List.getElem_mem _)
      omega
    refine List.pairwise_append.2 ⟨hr.sublist (List.take_sublist _ _), List.pairwise_cons.2 ⟨hgt, hr.sublist (List.drop_sublist _ _)⟩, fun a ha b hb => ?_⟩
    rcases List.mem_cons.1 hb with rfl | hb
    · exact hlt a ha
    · have := hlt a ha; have := hgt b hb; omega

theorem setM_lv (ks : List Int) (xs : List LV) (sb : Nat) (k : Int) (v : LV) (H H1 : OHeap) (h : OM ks xs sb H H1) (hl : ks.length < 2 ^ 39) (h1 : v.one = true) (hg : v.glob = true) :
    CallL Try.prog 30 [.ptr sb 0, i64 k, v] H1 fun x H' => x = .bool (!gHas ks k) ∧ OM (gSetK ks k) (gSetV ks xs k v) sb H H' := by
  obtain ⟨kx, vx, Gk, hs, hgk, hgv, hok, hov, hk, hup⟩ := h.update
  refine CallL.of_vc (n := 3) tok Try.func30 (c := _) rfl (by kernel_rfl) rfl ?_
  simp -implicitDefEqProofs
  refine CallL.ret (findM_lv ks xs sb k H H1 h (by omega)) ?_
  have hall : ∀ x ∈ gSetV ks xs k v, (x.one && x.glob) = true := fun x hx => by
    unfold gSetV at hx
    split at hx
    · rcases List.mem_or_eq_of_mem_set hx with h' | rfl
      · exact List.all_eq_true.1 h.1.2.2 x h'
      · simp [h1, hg]
    · rcases List.mem_append.1 hx with h' | h'
      · exact List.all_eq_true.1 h.1.2.2 x (List.mem_of_mem_take h')
      · rcases List.mem_cons.1 h' with rfl | h'
        · simp [h1, hg]
        · exact List.all_eq_true.1 h.1.2.2 x (List.mem_of_mem_drop h')
  have hlen : (gSetK ks k).length = (gSetV ks xs k v).length := by
    unfold gSetK gSetV
    split
    · simp [h.1.1]
    · simp [h.1.1]
  cases hh : gHas ks k with
  | true =>
    obtain ⟨hp, hpe⟩ := gPos_has h.1.2.1 hh
    have hpx : gPos ks k < xs.length := by rw [← h.1.1]; exact hp
    obtain ⟨_, H4, hv, hend⟩ := hup ks kx H1 hk
    obtain ⟨b, c, cs, rfl, hc, hGb, hH, hcs, hle, hset, rest, hrest⟩ := hv.row hpx
    simp -implicitDefEqProofs [hs, notNil, hpx, hH, hcs, hg, lcells_one h1, h1]
    refine ⟨⟨by omega, by omega⟩, ?_⟩
    have hseg : seg cs (gPos ks k) [v] = xs.set (gPos ks k) v ++ rest := by
      subst hrest
      unfold seg
      rw [List.take_append_of_le_length (by omega), List.set_eq_take_append_cons_drop, if_pos hpx, List.drop_append_of_le_length (by simp; omega)]
      simp
    have hv' : OutV (xs.set (gPos ks k) v) H4 (.sl b 0 xs.length c) (setH H1 b (.cells (seg cs (gPos ks k) [v]) c)) := by
      rw [hseg, hset, setH_setH]
      exact .inr ⟨b, c, rest, hGb, by simpa using hc, by simp, rfl⟩
    obtain ⟨hs2, hom⟩ := hend _ _ _ hv'
    have e1 : gSetK ks k = ks := by simp [gSetK, hh]
    have e2 : gSetV ks xs k v = xs.set (gPos ks k) v := by simp [gSetV, hh]
    have := hom (by rw [← e2, ← hlen, e1]) h.1.2.1 (by rw [← e2]; exact List.all_eq_true.2 hall)
    refine Ends.of ⟨rfl, ?_⟩
    rw [e1, e2]
    have hself : setH (setH H1 b (.cells (seg cs (gPos ks k) [v]) c)) sb (.cells [kx, .sl b 0 xs.length c] 2) = setH H1 b (.cells (seg cs (gPos ks k) [v]) c) := by
      funext i; simp only [setH_apply]; split
      · rename_i hi; subst hi; rw [← hs2]; simp
      · rfl
    rwa [hself] at this
  | false =>
    have e1 : gSetK ks k = ks.take (gPos ks k) ++ k :: ks.drop (gPos ks k) := by simp [gSetK, hh]
    have e2 : gSetV ks xs k v = xs.take (gPos ks k) ++ v :: xs.drop (gPos ks k) := by simp [gSetV, hh]
    have hpl := gPos_le ks k
    have hkone : (ks.map i64).all LV.one = true := by simp
    have hxone : xs.all LV.one = true := by rw [List.all_eq_true]; intro x hx; have := List.all_eq_true.1 h.1.2.2 x hx; simp at this; exact this.1
    simp -implicitDefEqProofs
    refine WP.draws tok mixed [(0, []), (1, []), (2, []), (3, []), (4, []), (5, []), (6, []), (7, []), (8, []), (10, []), (11, []), (12, []), (13, []), (14, []), (15, []), (16, []), (9, [11, 12, 13]), (17, []), (18, []), (19, []), (20, []), (21, []), (22, []), (23, [])] [0, 0, 0, 4, 12, 28, 0, 0, 128, 508, 0, 1024, 3072, 7168, 0, 0, 32768, 131068, 262141, 524285, 1048573, 2097151, 4194303, 8388607] 7208447 [] (by kernel_rfl) ?_
    simp -implicitDefEqProofs [hs, notNil, hgk, hg, h1, lcells_one h1, putAt]
    refine (insI_lv (ks.map i64) kx (i64 k) (gPos ks k) Gk H1 hk (by simpa using hpl) hkone rfl (by simp; omega)).mono fun kx' H1' hk' => ?_
    have hk'' : OutV ((gSetK ks k).map i64) Gk kx' H1' := by rw [e1]; simpa [List.map_take, List.map_drop] using hk'
    obtain ⟨hs2, H4, hv, hend⟩ := hup _ _ _ hk''
    simp -implicitDefEqProofs [hs, hs2, notNil, hgk, hgv, hg, h1, lcells_one h1, putAt]
    have hpx : gPos ks k ≤ xs.length := by rw [← h.1.1]; exact hpl
    refine (insM_lv xs vx v (gPos ks k) H4 H1' hv hpx hxone h1 (by rw [← h.1.1]; omega)).mono fun vx' H1'' hv' => ?_
    rw [← e2] at hv'
    obtain ⟨hs3, hom⟩ := hend _ _ _ hv'
    have hk1 := hk''.one
    have hv1 := hv'.one
    have := hom hlen (h.1.2.1.set k) (List.all_eq_true.2 hall)
    simp -implicitDefEqProofs [hs3, notNil, hk''.glob, hv'.glob, hk1, hv1, lcells_one hk1, lcells_one hv1, seg]
    refine Ends.of ⟨rfl, ?_⟩
    first | exact this | (rw [setH_setH]; exact this)
end Go.Lv
/- slices.Clone at rows of one-cell values; the omap's iterator, with maps in it. -/
namespace Go.Lv
open Go Go.Proofs
set_option maxRecDepth 10000
set_option linter.unusedSimpArgs false
set_option linter.unusedVariables false

/-- A sealed row. -/
def rowL (f : Bool) (ys : List LV) : LV := .isl f 1 (ys.map fun x => [x])
@[simp] theorem glob_rowL (f : Bool) (ys : List LV) : (rowL f ys).glob = true := rfl
@[simp] theorem one_rowL (f : Bool) (ys : List LV) : (rowL f ys).one = true := rfl
def SealV (ys : List LV) (H : OHeap) (x : LV) (H' : OHeap) : Prop := (∃ f, x = rowL f ys) ∧ H' = H
theorem row_flat (ys : List LV) : (ys.map fun x => [x]).flatten = ys := by induction ys with | nil => rfl | cons x l ih => simp only [List.map_cons, List.flatten_cons, ih]; rfl
theorem Ends.seal_row {ys : List LV} {rest : List LV} {b c : Nat} {H : OHeap} (hb : H b = none) (hc : ys.length ≤ c) : Ends (SealV ys H) (.sl b 0 ys.length c) (setH H b (.cells (ys ++ rest) c)) := by
  refine Ends.wk (Wk.sealB 1 (b := b) (n := c) (cs := ys ++ rest) (by simp) _) ?_
  rw [delH_setH hb]
  have := sealV_whole (b := b) (c := c) (rest := rest) (es := 1) (xs := ys.map fun x => [x]) (fun x hx => by obtain ⟨n, _, rfl⟩ := List.mem_map.1 hx; rfl) (by simpa using hc)
  rw [List.length_map, row_flat] at this
  simp only [sealT]
  rw [this]
  exact Ends.of ⟨⟨_, rfl⟩, rfl⟩

theorem cloneI_lv (ys : List LV) (s : LV) (G H : OHeap) (h : OutV ys G s H) (h1 : ys.all LV.one = true) (hl : ys.length < 2 ^ 40) : CallL Try.prog 59 [s] H (SealV ys H) := by
  rcases h with ⟨rfl, rfl, rfl⟩ | ⟨b, c, rest, hb, hc, rfl, rfl⟩
  · refine CallL.of_vc (n := 1) tok Try.func59 (c := _) rfl (by kernel_rfl) rfl ?_
    simp -implicitDefEqProofs [kindT]
    exact Ends.wk (Wk.nilsl true 1) (Ends.of ⟨⟨true, rfl⟩, rfl⟩)
  · refine CallL.of_vc (n := 1) tok Try.func59 (c := _) rfl (by kernel_rfl) rfl ?_
    have hs : srcL (setH G b (.cells (ys ++ rest) c)) 1 (.sl b 0 ys.length c) = some (ys.length, ys) := by
      by_cases h0 : ys.length = 0
      · have : ys = [] := List.eq_nil_of_length_eq_zero h0
        subst this; simp [srcL]
      · simp [srcL, h0]
    simp -implicitDefEqProofs [kindT]
    simp only [appL, hs]
    refine ⟨h1, trivial, rfl, fun h0 => ?_, fun h0 => ⟨by unfold room; simp; omega, fun b' c' hb' hc' => ?_⟩⟩
    · have : ys = [] := List.eq_nil_of_length_eq_zero h0
      subst this
      simp -implicitDefEqProofs
      exact Ends.of ⟨⟨true, rfl⟩, rfl⟩
    · simp -implicitDefEqProofs
      have := Ends.seal_row (ys := ys) (rest := []) (b := b') (c := c') hb' (by simpa using hc')
      simpa using this
theorem cloneM_lv (ys : List LV) (s : LV) (G H : OHeap) (h : OutV ys G s H) (h1 : ys.all LV.one = true) (hl : ys.length < 2 ^ 40) : CallL Try.prog 60 [s] H (SealV ys H) := by
  rcases h with ⟨rfl, rfl, rfl⟩ | ⟨b, c, rest, hb, hc, rfl, rfl⟩
  · refine CallL.of_vc (n := 1) tok Try.func60 (c := _) rfl (by kernel_rfl) rfl ?_
    simp -implicitDefEqProofs [kindT]
    exact Ends.wk (Wk.nilsl true 1) (Ends.of ⟨⟨true, rfl⟩, rfl⟩)
  · refine CallL.of_vc (n := 1) tok Try.func60 (c := _) rfl (by kernel_rfl) rfl ?_
    have hs : srcL (setH G b (.cells (ys ++ rest) c)) 1 (.sl b 0 ys.length c) = some (ys.length, ys) := by
      by_cases h0 : ys.length = 0
      · have : ys = [] := List.eq_nil_of_length_eq_zero h0
        subst this; simp [srcL]
      · simp [srcL, h0]
    simp -implicitDefEqProofs [kindT]
    simp only [appL, hs]
    refine ⟨h1, trivial, rfl, fun h0 => ?_, fun h0 => ⟨by unfold room; simp; omega, fun b' c' hb' hc' => ?_⟩⟩
    · have : ys = [] := List.eq_nil_of_length_eq_zero h0
      subst this
      simp -implicitDefEqProofs
      exact Ends.of ⟨⟨true, rfl⟩, rfl⟩
    · simp -implicitDefEqProofs
      have := Ends.seal_row (ys := ys) (rest := []) (b := b') (c := c') hb' (by simpa using hc')
      simpa using this
theorem cloneB_lv (ys : List LV) (s : LV) (G H : OHeap) (h : OutV ys G s H) (h1 : ys.all LV.one = true) (hl : ys.length < 2 ^ 40) : CallL Try.prog 95 [s] H (SealV ys H) := by
  rcases h with ⟨rfl, rfl, rfl⟩ | ⟨b, c, rest, hb, hc, rfl, rfl⟩
  · refine CallL.of_vc (n := 1) tok Try.func95 (c := _) rfl (by kernel_rfl) rfl ?_
    simp -implicitDefEqProofs [kindT]
    exact Ends.wk (Wk.nilsl true 1) (Ends.of ⟨⟨true, rfl⟩, rfl⟩)
  · refine CallL.of_vc (n := 1) tok Try.func95 (c := _) rfl (by kernel_rfl) rfl ?_
    have hs : srcL (setH G b (.cells (ys ++ rest) c)) 1 (.sl b 0 ys.length c) = some (ys.length, ys) := by
      by_cases h0 : ys.length = 0
      · have : ys = [] := List.eq_nil_of_length_eq_zero h0
        subst this; simp [srcL]
      · simp [srcL, h0]
    simp -implicitDefEqProofs [kindT]
    simp only [appL, hs]
    refine ⟨h1, trivial, rfl, fun h0 => ?_, fun h0 => ⟨by unfold room; simp; omega, fun b' c' hb' hc' => ?_⟩⟩
    · have : ys = [] := List.eq_nil_of_length_eq_zero h0
      subst this
      simp -implicitDefEqProofs
      exact Ends.of ⟨⟨true, rfl⟩, rfl⟩
    · simp -implicitDefEqProofs
      have := Ends.seal_row (ys := ys) (rest := []) (b := b') (c := c') hb' (by simpa using hc')
      simpa using this

/-- What an iterator over keys and what they have does. -/
def IterQ (xs : List (Int × LV)) (J : List (Int × LV) → OHeap → Prop) (Jx : OHeap → Prop) (y : LV) (H' : OHeap) : Prop := J xs H' ∨ Jx H'
theorem goingM1_lv (ks : List Int) (xs : List LV) (kx vx : LV) (Gk Gv H : OHeap) (hk : OutV (ks.map i64) Gk kx H) (hv : OutV xs Gv vx H) (hlen : ks.length = xs.length) (hl : ks.length < 2 ^ 40)
    (hall : xs.all (fun x => x.one && x.glob) = true) (l : Nat) (J : List (Int × LV) → OHeap → Prop) (Jx : OHeap → Prop)
    (hy : ∀ pre k x H', pre ++ [(k, x)] <+: ks.zip xs → J pre H' → YieldL Try.prog l [i64 k, x] H' fun r H'' => (r = .bool true ∧ J (pre ++ [(k, x)]) H'') ∨ (r = .bool false ∧ Jx H'')) (h0 : J [] H) :
    CallL Try.prog 58 [.yld l, .iptr [kx], .iptr [vx]] H (IterQ (ks.zip xs) J Jx) := by
  have hxone : xs.all LV.one = true := by rw [List.all_eq_true]; intro x hx; have := List.all_eq_true.1 hall x hx; simp at this; exact this.1
  refine CallL.of_vc (n := 3) tok Try.func58 (c := _) rfl (by kernel_rfl) rfl ?_
  simp -implicitDefEqProofs
  refine WP.draws tok mixed [(0, []), (2, []), (1, [2]), (3, []), (4, []), (5, [])] [0, 1, 0, 7, 15, 31] 53 [] (by kernel_rfl) ?_
  simp -implicitDefEqProofs [hk.glob, hv.glob]
  refine (cloneI_lv (ks.map i64) kx Gk H hk (by simp) (by simpa using hl)).mono fun x1 H1 hx => ?_
  obtain ⟨⟨f1, rfl⟩, rfl⟩ := hx
  simp -implicitDefEqProofs [hk.glob, hv.glob]
  refine (cloneM_lv xs vx Gv H1 hv hxone (by omega)).mono fun x1 H2 hx => ?_
  obtain ⟨⟨f2, rfl⟩, rfl⟩ := hx
  simp -implicitDefEqProofs [rowL]
  refine WP.loopG (σ := Nat) (fun n e B H' => J ((ks.zip xs).take n) H' ∧ n ≤ ks.length ∧ e 0 = .yld l ∧ e 5 = rowL f2 xs ∧ e 12 = rowL f1 (ks.map i64) ∧ e 13 = i64 ks.length ∧ e 14 = i64 n) (fun n => ks.length - n) 0 ?_ ?_
  · simp [rowL, h0]
  · rintro n e B H' ⟨hJ, hn, e0, e5, e12, e13, e14⟩
    refine vc_sound tok _ _ _ _ _ ?_
    rcases Nat.lt_or_ge n ks.length with hlt | hge
    · have hw := wnext hlt (by omega)
      have hlx : n < xs.length := by omega
      have hgx : xs[n].glob = true := by have := List.all_eq_true.1 hall _ (List.getElem_mem hlx); simp at this; exact this.2
      have hzl : n < (ks.zip xs).length := by simp; omega
      have htk : (ks.zip xs).take (n + 1) = (ks.zip xs).take n ++ [(ks[n], xs[n])] := by
        rw [List.take_add_one]; simp [hzl]; rw [List.getElem?_eq_getElem hzl]; simp
      simp -implicitDefEqProofs [e0, e5, e12, e13, e14, rowL, hlt, hlx, hgx]
      refine (hy _ ks[n] xs[n] H' (by rw [← htk]; exact List.take_prefix _ _) hJ).mono fun r H'' hr => ?_
      rcases hr with ⟨rfl, hr⟩ | ⟨rfl, hr⟩
      · simp -implicitDefEqProofs [e0, e5, e12, e13, e14, rowL, hlt, hlx]
        refine Next.of (n + 1) (by omega) ?_
        rw [← htk] at hr
        simp [e0, e5, e12, e13, rowL, hw, hr]
        omega
      · simp -implicitDefEqProofs [e0, e5, e12, e13, e14, rowL, hlt, hlx]
        exact Ends.of (.inr hr)
    · have hno : ¬ n < ks.length := by omega
      simp -implicitDefEqProofs [e0, e5, e12, e13, e14, rowL, hno]
      rw [List.take_of_length_le (by simp; omega)] at hJ
      exact Ends.of (.inl hJ)
end Go.Lv
/- The omap's iterator, with maps in it. -/
namespace Go.Lv
open Go Go.Proofs
set_option maxRecDepth 10000
set_option linter.unusedSimpArgs false
set_option linter.unusedVariables false

def FnIs (f : FuncId) (caps : List LV) (H : OHeap) (x : LV) (H' : OHeap) : Prop := x = .fn f [] caps ∧ H' = H
theorem goingM_lv (kx vx : LV) (H : OHeap) (h1 : kx.glob = true) (h2 : vx.glob = true) (h3 : kx.one = true) (h4 : vx.one = true) :
    CallL Try.prog 35 [kx, vx] H (FnIs 58 [.iptr [kx], .iptr [vx]] H) := by
  refine CallL.of_wp (n := 2) tok Try.func35 (c := _) rfl (by kernel_rfl) rfl ?_
  refine WP.cut tok ?_
  simp -implicitDefEqProofs [h1, h2, h3, h4, lcells_one h3, lcells_one h4, nobox]
  refine Then.below (Below.ibox (d := 2) (ver := 1) (cs := [kx]) (by simp [nobox])) ?_
  refine Then.below (Below.ibox (d := 3) (ver := 1) (cs := [vx]) (by simp [nobox])) ?_
  refine Then.go tok ?_
  simp -implicitDefEqProofs [iboxV]
  exact Ends.of ⟨rfl, rfl⟩

theorem allM_lv (p : LV) (H : OHeap) (h1 : p.glob = true) (h3 : p.one = true) :
    CallL Try.prog 22 [p] H (FnIs 34 [.iptr [p]] H) := by
  refine CallL.of_wp (n := 1) tok Try.func22 (c := _) rfl (by kernel_rfl) rfl ?_
  refine WP.cut tok ?_
  simp -implicitDefEqProofs [h1, h3, lcells_one h3, nobox]
  refine Then.below (Below.ibox (d := 1) (ver := 1) (cs := [p]) (by simp [nobox])) ?_
  refine Then.go tok ?_
  simp -implicitDefEqProofs [iboxV]
  exact Ends.of ⟨rfl, rfl⟩

/-- The iterator over an omap: from key to key. -/
theorem iterM_lv (ks : List Int) (xs : List LV) (sb : Nat) (H0 H : OHeap) (h : OM ks xs sb H0 H) (hl : ks.length < 2 ^ 40) (l : Nat) (J : List (Int × LV) → OHeap → Prop) (Jx : OHeap → Prop)
    (hy : ∀ pre k x H', pre ++ [(k, x)] <+: ks.zip xs → J pre H' → YieldL Try.prog l [i64 k, x] H' fun r H'' => (r = .bool true ∧ J (pre ++ [(k, x)]) H'') ∨ (r = .bool false ∧ Jx H'')) (h0 : J [] H) :
    CallL Try.prog 34 [.yld l, .iptr [.ptr sb 0]] H (IterQ (ks.zip xs) J Jx) := by
  obtain ⟨kx, vx, hs, hgk, hgv, hok, hov, ⟨Gk, hk⟩, Gv, hv⟩ := h.parts
  refine CallL.of_vc (n := 2) tok Try.func34 (c := _) rfl (by kernel_rfl) rfl ?_
  simp -implicitDefEqProofs [kindT]
  refine WP.draws tok mixed [(0, []), (1, []), (2, []), (3, []), (4, []), (5, []), (6, []), (7, []), (9, []), (8, []), (10, [])] [0, 1, 3, 7, 0, 16, 48, 112, 255, 0, 1023] 767 [] (by kernel_rfl) ?_
  simp -implicitDefEqProofs [hs, notNil, hgk, hgv]
  refine (goingM_lv kx vx H hgk hgv hok hov).mono fun y H' hy' => ?_
  obtain ⟨rfl, rfl⟩ := hy'
  simp -implicitDefEqProofs [hs, notNil, hgk, hgv]
  refine (goingM1_lv ks xs kx vx Gk Gv H' hk hv h.1.1 hl h.1.2.2 l J Jx hy h0).mono fun y H2 hy' => ?_
  simp -implicitDefEqProofs
  exact Ends.of (show IterQ (ks.zip xs) J Jx (.tup []) H2 from hy')
end Go.Lv
/- The omap with bytes in it: printed by genb.py out of the texts for maps. -/
namespace Go.Lv
open Go Go.Proofs
set_option maxRecDepth 10000
set_option linter.unusedSimpArgs false
set_option linter.unusedVariables false

theorem findB_lv (ks : List Int) (xs : List LV) (sb : Nat) (k : Int) (H H1 : OHeap) (h : OM ks xs sb H H1) (hl : ks.length < 2 ^ 40) :
    CallL Try.prog 72 [.ptr sb 0, i64 k] H1 fun x H' => x = .tup [i64 (gPos ks k), .bool (gHas ks k)] ∧ H' = H1 := by
  obtain ⟨kx, vx, hs, hg, _, _, _, ⟨G, hk⟩, _⟩ := h.parts
  refine CallL.of_vc (n := 2) tok Try.func72 (c := _) rfl (by kernel_rfl) rfl ?_
  simp -implicitDefEqProofs [hs, hg, notNil]
  refine CallL.ret (bsearch_lv ks k kx G H1 hk h.1.2.1 hl) ?_
  simp -implicitDefEqProofs
  exact Ends.of ⟨rfl, rfl⟩

theorem getB_lv (ks : List Int) (xs : List LV) (sb : Nat) (k : Int) (H H1 : OHeap) (h : OM ks xs sb H H1) (hl : ks.length < 2 ^ 40) :
    CallL Try.prog 40 [.ptr sb 0, i64 k] H1 fun x H' => x = .tup [gAt .nilsl ks xs k, .bool (gHas ks k)] ∧ H' = H1 := by
  obtain ⟨kx, vx, hs, _, hg, _, _, _, G, hv⟩ := h.parts
  refine CallL.of_vc (n := 2) tok Try.func40 (c := _) rfl (by kernel_rfl) rfl ?_
  simp -implicitDefEqProofs
  refine CallL.ret (findB_lv ks xs sb k H H1 h hl) ?_
  cases hh : gHas ks k with
  | false =>
    simp -implicitDefEqProofs
    exact Ends.of ⟨by simp [gAt, hh], rfl⟩
  | true =>
    obtain ⟨hp, hpe⟩ := gPos_has h.1.2.1 hh
    have hpx : gPos ks k < xs.length := by rw [← h.1.1]; exact hp
    obtain ⟨b, c, cs, rfl, hc, _, hH, hcs, hle, _⟩ := hv.row hpx
    have hgx : xs[gPos ks k].glob = true := by have := List.all_eq_true.1 h.1.2.2 _ (List.getElem_mem hpx); simp at this; exact this.2
    simp -implicitDefEqProofs [hs, notNil, hpx, hH, hcs, hgx]
    exact Ends.of ⟨by simp [gAt, hh, hpx], rfl⟩

theorem setB_lv (ks : List Int) (xs : List LV) (sb : Nat) (k : Int) (v : LV) (H H1 : OHeap) (h : OM ks xs sb H H1) (hl : ks.length < 2 ^ 39) (h1 : v.one = true) (hg : v.glob = true) :
    CallL Try.prog 38 [.ptr sb 0, i64 k, v] H1 fun x H' => x = .bool (!gHas ks k) ∧ OM (gSetK ks k) (gSetV ks xs k v) sb H H' := by
  obtain ⟨kx, vx, Gk, hs, hgk, hgv, hok, hov, hk, hup⟩ := h.update
  refine CallL.of_vc (n := 3) tok Try.func38 (c := _) rfl (by kernel_rfl) rfl ?_
  simp -implicitDefEqProofs
  refine CallL.ret (findB_lv ks xs sb k H H1 h (by omega)) ?_
  have hall : ∀ x ∈ gSetV ks xs k v, (x.one && x.glob) = true := fun x hx => by
    unfold gSetV at hx
    split at hx
    · rcases List.mem_or_eq_of_mem_set hx with h' | rfl
      · exact List.all_eq_true.1 h.1.2.2 x h'
      · simp [h1, hg]
    · rcases List.mem_append.1 hx with h' | h'
      · exact List.all_eq_true.1 h.1.2.2 x (List.mem_of_mem_take h')
      · rcases List.mem_cons.1 h' with rfl | h'
        · simp [h1, hg]
        · exact List.all_eq_true.1 h.1.2.2 x (List.mem_of_mem_drop h')
  have hlen : (gSetK ks k).length = (gSetV ks xs k v).length := by
    unfold gSetK gSetV
    split
    · simp [h.1.1]
    · simp [h.1.1]
  cases hh : gHas ks k with
  | true =>
    obtain ⟨hp, hpe⟩ := gPos_has h.1.2.1 hh
    have hpx : gPos ks k < xs.length := by rw [← h.1.1]; exact hp
    obtain ⟨_, H4, hv, hend⟩ := hup ks kx H1 hk
    obtain ⟨b, c, cs, rfl, hc, hGb, hH, hcs, hle, hset, rest, hrest⟩ := hv.row hpx
    simp -implicitDefEqProofs [hs, notNil, hpx, hH, hcs, hg, lcells_one h1, h1]
    refine ⟨⟨by omega, by omega⟩, ?_⟩
    have hseg : seg cs (gPos ks k) [v] = xs.set (gPos ks k) v ++ rest := by
      subst hrest
      unfold seg
      rw [List.take_append_of_le_length (by omega), List.set_eq_take_append_cons_drop, if_pos hpx, List.drop_append_of_le_length (by simp; omega)]
      simp
    have hv' : OutV (xs.set (gPos ks k) v) H4 (.sl b 0 xs.length c) (setH H1 b (.cells (seg cs (gPos ks k) [v]) c)) := by
      rw [hseg, hset, setH_setH]
      exact .inr ⟨b, c, rest, hGb, by simpa using hc, by simp, rfl⟩
    obtain ⟨hs2, hom⟩ := hend _ _ _ hv'
    have e1 : gSetK ks k = ks := by simp [gSetK, hh]
    have e2 : gSetV ks xs k v = xs.set (gPos ks k) v := by simp [gSetV, hh]
    have := hom (by rw [← e2, ← hlen, e1]) h.1.2.1 (by rw [← e2]; exact List.all_eq_true.2 hall)
    refine Ends.of ⟨rfl, ?_⟩
    rw [e1, e2]
    have hself : setH (setH H1 b (.cells (seg cs (gPos ks k) [v]) c)) sb (.cells [kx, .sl b 0 xs.length c] 2) = setH H1 b (.cells (seg cs (gPos ks k) [v]) c) := by
      funext i; simp only [setH_apply]; split
      · rename_i hi; subst hi; rw [← hs2]; simp
      · rfl
    rwa [hself] at this
  | false =>
    have e1 : gSetK ks k = ks.take (gPos ks k) ++ k :: ks.drop (gPos ks k) := by simp [gSetK, hh]
    have e2 : gSetV ks xs k v = xs.take (gPos ks k) ++ v :: xs.drop (gPos ks k) := by simp [gSetV, hh]
    have hpl := gPos_le ks k
    have hkone : (ks.map i64).all LV.one = true := by simp
    have hxone : xs.all LV.one = true := by rw [List.all_eq_true]; intro x hx; have := List.all_eq_true.1 h.1.2.2 x hx; simp at this; exact this.1
    simp -implicitDefEqProofs
    refine WP.draws tok mixed [(0, []), (1, []), (2, []), (3, []), (4, []), (5, []), (6, []), (7, []), (8, []), (10, []), (11, []), (12, []), (13, []), (14, []), (15, []), (16, []), (9, [11, 12, 13]), (17, []), (18, []), (19, []), (20, []), (21, []), (22, []), (23, [])] [0, 0, 0, 4, 12, 28, 0, 0, 128, 508, 0, 1024, 3072, 7168, 0, 0, 32768, 131068, 262141, 524285, 1048573, 2097151, 4194303, 8388607] 7208447 [] (by kernel_rfl) ?_
    simp -implicitDefEqProofs [hs, notNil, hgk, hg, h1, lcells_one h1, putAt]
    refine (insI_lv (ks.map i64) kx (i64 k) (gPos ks k) Gk H1 hk (by simpa using hpl) hkone rfl (by simp; omega)).mono fun kx' H1' hk' => ?_
    have hk'' : OutV ((gSetK ks k).map i64) Gk kx' H1' := by rw [e1]; simpa [List.map_take, List.map_drop] using hk'
    obtain ⟨hs2, H4, hv, hend⟩ := hup _ _ _ hk''
    simp -implicitDefEqProofs [hs, hs2, notNil, hgk, hgv, hg, h1, lcells_one h1, putAt]
    have hpx : gPos ks k ≤ xs.length := by rw [← h.1.1]; exact hpl
    refine (insB_lv xs vx v (gPos ks k) H4 H1' hv hpx hxone h1 (by rw [← h.1.1]; omega)).mono fun vx' H1'' hv' => ?_
    rw [← e2] at hv'
    obtain ⟨hs3, hom⟩ := hend _ _ _ hv'
    have hk1 := hk''.one
    have hv1 := hv'.one
    have := hom hlen (h.1.2.1.set k) (List.all_eq_true.2 hall)
    simp -implicitDefEqProofs [hs3, notNil, hk''.glob, hv'.glob, hk1, hv1, lcells_one hk1, lcells_one hv1, seg]
    refine Ends.of ⟨rfl, ?_⟩
    first | exact this | (rw [setH_setH]; exact this)
theorem goingB1_lv (ks : List Int) (xs : List LV) (kx vx : LV) (Gk Gv H : OHeap) (hk : OutV (ks.map i64) Gk kx H) (hv : OutV xs Gv vx H) (hlen : ks.length = xs.length) (hl : ks.length < 2 ^ 40)
    (hall : xs.all (fun x => x.one && x.glob) = true) (l : Nat) (J : List (Int × LV) → OHeap → Prop) (Jx : OHeap → Prop)
    (hy : ∀ pre k x H', pre ++ [(k, x)] <+: ks.zip xs → J pre H' → YieldL Try.prog l [i64 k, x] H' fun r H'' => (r = .bool true ∧ J (pre ++ [(k, x)]) H'') ∨ (r = .bool false ∧ Jx H'')) (h0 : J [] H) :
    CallL Try.prog 94 [.yld l, .iptr [kx], .iptr [vx]] H (IterQ (ks.zip xs) J Jx) := by
  have hxone : xs.all LV.one = true := by rw [List.all_eq_true]; intro x hx; have := List.all_eq_true.1 hall x hx; simp at this; exact this.1
  refine CallL.of_vc (n := 3) tok Try.func94 (c := _) rfl (by kernel_rfl) rfl ?_
  simp -implicitDefEqProofs
  refine WP.draws tok mixed [(0, []), (2, []), (1, [2]), (3, []), (4, []), (5, [])] [0, 1, 0, 7, 15, 31] 53 [] (by kernel_rfl) ?_
  simp -implicitDefEqProofs [hk.glob, hv.glob]
  refine (cloneI_lv (ks.map i64) kx Gk H hk (by simp) (by simpa using hl)).mono fun x1 H1 hx => ?_
  obtain ⟨⟨f1, rfl⟩, rfl⟩ := hx
  simp -implicitDefEqProofs [hk.glob, hv.glob]
  refine (cloneB_lv xs vx Gv H1 hv hxone (by omega)).mono fun x1 H2 hx => ?_
  obtain ⟨⟨f2, rfl⟩, rfl⟩ := hx
  simp -implicitDefEqProofs [rowL]
  refine WP.loopG (σ := Nat) (fun n e B H' => J ((ks.zip xs).take n) H' ∧ n ≤ ks.length ∧ e 0 = .yld l ∧ e 5 = rowL f2 xs ∧ e 12 = rowL f1 (ks.map i64) ∧ e 13 = i64 ks.length ∧ e 14 = i64 n) (fun n => ks.length - n) 0 ?_ ?_
  · simp [rowL, h0]
  · rintro n e B H' ⟨hJ, hn, e0, e5, e12, e13, e14⟩
    refine vc_sound tok _ _ _ _ _ ?_
    rcases Nat.lt_or_ge n ks.length with hlt | hge
    · have hw := wnext hlt (by omega)
      have hlx : n < xs.length := by omega
      have hgx : xs[n].glob = true := by have := List.all_eq_true.1 hall _ (List.getElem_mem hlx); simp at this; exact this.2
      have hzl : n < (ks.zip xs).length := by simp; omega
      have htk : (ks.zip xs).take (n + 1) = (ks.zip xs).take n ++ [(ks[n], xs[n])] := by
        rw [List.take_add_one]; simp [hzl]; rw [List.getElem?_eq_getElem hzl]; simp
      simp -implicitDefEqProofs [e0, e5, e12, e13, e14, rowL, hlt, hlx, hgx]
      refine (hy _ ks[n] xs[n] H' (by rw [← htk]; exact List.take_prefix _ _) hJ).mono fun r H'' hr => ?_
      rcases hr with ⟨rfl, hr⟩ | ⟨rfl, hr⟩
      · simp -implicitDefEqProofs [e0, e5, e12, e13, e14, rowL, hlt, hlx]
        refine Next.of (n + 1) (by omega) ?_
        rw [← htk] at hr
        simp [e0, e5, e12, e13, rowL, hw, hr]
        omega
      · simp -implicitDefEqProofs [e0, e5, e12, e13, e14, rowL, hlt, hlx]
        exact Ends.of (.inr hr)
    · have hno : ¬ n < ks.length := by omega
      simp -implicitDefEqProofs [e0, e5, e12, e13, e14, rowL, hno]
      rw [List.take_of_length_le (by simp; omega)] at hJ
      exact Ends.of (.inl hJ)
theorem goingB_lv (kx vx : LV) (H : OHeap) (h1 : kx.glob = true) (h2 : vx.glob = true) (h3 : kx.one = true) (h4 : vx.one = true) :
    CallL Try.prog 77 [kx, vx] H (FnIs 94 [.iptr [kx], .iptr [vx]] H) := by
  refine CallL.of_wp (n := 2) tok Try.func77 (c := _) rfl (by kernel_rfl) rfl ?_
  refine WP.cut tok ?_
  simp -implicitDefEqProofs [h1, h2, h3, h4, lcells_one h3, lcells_one h4, nobox]
  refine Then.below (Below.ibox (d := 2) (ver := 1) (cs := [kx]) (by simp [nobox])) ?_
  refine Then.below (Below.ibox (d := 3) (ver := 1) (cs := [vx]) (by simp [nobox])) ?_
  refine Then.go tok ?_
  simp -implicitDefEqProofs [iboxV]
  exact Ends.of ⟨rfl, rfl⟩

theorem allB_lv (p : LV) (H : OHeap) (h1 : p.glob = true) (h3 : p.one = true) :
    CallL Try.prog 45 [p] H (FnIs 76 [.iptr [p]] H) := by
  refine CallL.of_wp (n := 1) tok Try.func45 (c := _) rfl (by kernel_rfl) rfl ?_
  refine WP.cut tok ?_
  simp -implicitDefEqProofs [h1, h3, lcells_one h3, nobox]
  refine Then.below (Below.ibox (d := 1) (ver := 1) (cs := [p]) (by simp [nobox])) ?_
  refine Then.go tok ?_
  simp -implicitDefEqProofs [iboxV]
  exact Ends.of ⟨rfl, rfl⟩

/-- The iterator over an omap: from key to key. -/
theorem iterB_lv (ks : List Int) (xs : List LV) (sb : Nat) (H0 H : OHeap) (h : OM ks xs sb H0 H) (hl : ks.length < 2 ^ 40) (l : Nat) (J : List (Int × LV) → OHeap → Prop) (Jx : OHeap → Prop)
    (hy : ∀ pre k x H', pre ++ [(k, x)] <+: ks.zip xs → J pre H' → YieldL Try.prog l [i64 k, x] H' fun r H'' => (r = .bool true ∧ J (pre ++ [(k, x)]) H'') ∨ (r = .bool false ∧ Jx H'')) (h0 : J [] H) :
    CallL Try.prog 76 [.yld l, .iptr [.ptr sb 0]] H (IterQ (ks.zip xs) J Jx) := by
  obtain ⟨kx, vx, hs, hgk, hgv, hok, hov, ⟨Gk, hk⟩, Gv, hv⟩ := h.parts
  refine CallL.of_vc (n := 2) tok Try.func76 (c := _) rfl (by kernel_rfl) rfl ?_
  simp -implicitDefEqProofs [kindT]
  refine WP.draws tok mixed [(0, []), (1, []), (2, []), (3, []), (4, []), (5, []), (6, []), (7, []), (9, []), (8, []), (10, [])] [0, 1, 3, 7, 0, 16, 48, 112, 255, 0, 1023] 767 [] (by kernel_rfl) ?_
  simp -implicitDefEqProofs [hs, notNil, hgk, hgv]
  refine (goingB_lv kx vx H hgk hgv hok hov).mono fun y H' hy' => ?_
  obtain ⟨rfl, rfl⟩ := hy'
  simp -implicitDefEqProofs [hs, notNil, hgk, hgv]
  refine (goingB1_lv ks xs kx vx Gk Gv H' hk hv h.1.1 hl h.1.2.2 l J Jx hy h0).mono fun y H2 hy' => ?_
  simp -implicitDefEqProofs
  exact Ends.of (show IterQ (ks.zip xs) J Jx (.tup []) H2 from hy')
end Go.Lv
/- The omap's Del; slices.Clone and Equal at bytes. -/
namespace Go.Lv
open Go Go.Proofs
set_option maxRecDepth 10000
set_option linter.unusedSimpArgs false
set_option linter.unusedVariables false

/-- Del. -/
def gDelK (ks : List Int) (k : Int) : List Int := if gHas ks k = true then ks.take (gPos ks k) ++ ks.drop (gPos ks k + 1) else ks
def gDelV (ks : List Int) (xs : List LV) (k : Int) : List LV := if gHas ks k = true then xs.take (gPos ks k) ++ xs.drop (gPos ks k + 1) else xs
theorem Rising.del {ks : List Int} (hr : Rising ks) (k : Int) : Rising (gDelK ks k) := by
  unfold gDelK
  split
  · have : List.Sublist (ks.take (gPos ks k) ++ ks.drop (gPos ks k + 1)) ks := by
      conv => rhs; rw [← List.take_append_drop (gPos ks k) ks]
      exact List.Sublist.append (List.Sublist.refl _) (List.drop_sublist_drop_left _ (by omega))
    exact hr.sublist this
  · exact hr

theorem delM_lv (ks : List Int) (xs : List LV) (sb : Nat) (k : Int) (H H1 : OHeap) (h : OM ks xs sb H H1) (hl : ks.length < 2 ^ 39) :
    CallL Try.prog 39 [.ptr sb 0, i64 k] H1 fun x H' => x = .bool (gHas ks k) ∧ OM (gDelK ks k) (gDelV ks xs k) sb H H' := by
  obtain ⟨kx, vx, Gk, hs, hgk, hgv, hok, hov, hk, hup⟩ := h.update
  refine CallL.of_vc (n := 2) tok Try.func39 (c := _) rfl (by kernel_rfl) rfl ?_
  simp -implicitDefEqProofs
  refine CallL.ret (findB_lv ks xs sb k H H1 h (by omega)) ?_
  cases hh : gHas ks k with
  | false =>
    simp -implicitDefEqProofs
    refine Ends.of ⟨rfl, ?_⟩
    rw [show gDelK ks k = ks by simp [gDelK, hh], show gDelV ks xs k = xs by simp [gDelV, hh]]
    exact h
  | true =>
    obtain ⟨hp, hpe⟩ := gPos_has h.1.2.1 hh
    have hpx : gPos ks k < xs.length := by rw [← h.1.1]; exact hp
    have e1 : gDelK ks k = ks.take (gPos ks k) ++ ks.drop (gPos ks k + 1) := by simp [gDelK, hh]
    have e2 : gDelV ks xs k = xs.take (gPos ks k) ++ xs.drop (gPos ks k + 1) := by simp [gDelV, hh]
    have hw : IntKind.i64.wrap ((gPos ks k : Int) + 1) = ((gPos ks k + 1 : Nat) : Int) := wnext hp (by omega)
    have hkone : (ks.map i64).all LV.one = true := by simp
    have hxone : xs.all LV.one = true := by rw [List.all_eq_true]; intro x hx; have := List.all_eq_true.1 h.1.2.2 x hx; simp at this; exact this.1
    have hall : (gDelV ks xs k).all (fun x => x.one && x.glob) = true := by
      rw [e2, List.all_eq_true]; intro x hx
      rcases List.mem_append.1 hx with h' | h'
      · exact List.all_eq_true.1 h.1.2.2 x (List.mem_of_mem_take h')
      · exact List.all_eq_true.1 h.1.2.2 x (List.mem_of_mem_drop h')
    have hlen : (gDelK ks k).length = (gDelV ks xs k).length := by rw [e1, e2]; simp [h.1.1]
    simp -implicitDefEqProofs
    refine WP.draws tok mixed [(0, []), (1, []), (2, []), (3, []), (4, []), (5, []), (6, []), (7, []), (8, []), (10, []), (11, []), (12, []), (13, []), (14, []), (15, []), (16, []), (9, [11, 12, 13]), (17, []), (18, []), (19, []), (20, []), (21, []), (22, []), (23, [])] [0, 0, 0, 4, 12, 28, 0, 0, 128, 508, 0, 1024, 3072, 7168, 0, 0, 32768, 131068, 262141, 524285, 1048573, 2097151, 4194303, 8388607] 7208447 [] (by kernel_rfl) ?_
    simp -implicitDefEqProofs [hs, notNil, hgk, hw]
    refine (delI_lv (ks.map i64) kx (gPos ks k) Gk H1 hk (by simpa using hp) hkone (by simp; omega)).mono fun kx' H1' hk' => ?_
    have hk'' : OutV ((gDelK ks k).map i64) Gk kx' H1' := by rw [e1]; simpa [List.map_take, List.map_drop] using hk'
    obtain ⟨hs2, H4, hv, hend⟩ := hup _ _ _ hk''
    simp -implicitDefEqProofs [hs, hs2, notNil, hgk, hgv, hw]
    refine (delB_lv xs vx (gPos ks k) H4 H1' hv hpx hxone (by rw [← h.1.1]; omega)).mono fun vx' H1'' hv' => ?_
    rw [← e2] at hv'
    obtain ⟨hs3, hom⟩ := hend _ _ _ hv'
    have hk1 := hk''.one
    have hv1 := hv'.one
    have := hom hlen (h.1.2.1.del k) hall
    simp -implicitDefEqProofs [hs3, notNil, hk''.glob, hv'.glob, hk1, hv1, lcells_one hk1, lcells_one hv1, seg]
    refine Ends.of ⟨rfl, ?_⟩
    first | exact this | (rw [setH_setH]; exact this)

/-- Some bytes, sealed. -/
def SealB (v : List Int) (H : OHeap) (x : LV) (H' : OHeap) : Prop := (∃ f, x = bytesL f v) ∧ H' = H
theorem cloneBytes_lv (f : Bool) (v : List Int) (H : OHeap) (hl : v.length < 2 ^ 40) : CallL Try.prog 46 [bytesL f v] H (SealB v H) := by
  cases v with
  | nil =>
    refine CallL.empty [] ?_ (fun b o c hc => ?_) ?_
    · refine CallL.of_vc (n := 1) tok Try.func46 (c := _) rfl (by kernel_rfl) rfl ?_
      simp -implicitDefEqProofs [kindT]
      exact Ends.wk (Wk.nilsl true 1) (Ends.of ⟨⟨true, rfl⟩, rfl⟩)
    · refine CallL.of_vc (n := 1) tok Try.func46 (c := _) rfl (by kernel_rfl) rfl ?_
      simp -implicitDefEqProofs [kindT, appL, srcL]
      exact Ends.of ⟨⟨true, rfl⟩, rfl⟩
    · refine CallL.of_vc (n := 1) tok Try.func46 (c := _) rfl (by kernel_rfl) rfl ?_
      simp -implicitDefEqProofs [kindT, appL, srcL]
      exact Ends.of ⟨⟨true, rfl⟩, rfl⟩
  | cons a v =>
    refine CallL.of_vc (n := 1) tok Try.func46 (c := _) rfl (by kernel_rfl) rfl ?_
    simp only [List.length_cons] at hl
    simp -implicitDefEqProofs [kindT, bytesL, appL, srcL]
    refine ⟨by unfold room; omega, fun b c hb hc => ?_⟩
    have hrow : ∀ v : List Int, (v.map fun n => [LV.int .u8 n]) = (v.map fun n => LV.int .u8 n).map fun x => [x] := fun v => by simp
    have := Ends.seal_row (ys := (a :: v).map fun n => LV.int .u8 n) (rest := []) (b := b) (c := c) (H := H) hb (by simpa using hc)
    have e2 : ∀ f', rowL f' ((a :: v).map fun n => LV.int .u8 n) = bytesL f' (a :: v) := fun f' => by unfold rowL bytesL; rw [hrow]
    have e3 : LV.int IntKind.u8 a :: (List.map (fun n => [LV.int IntKind.u8 n]) v).flatten = List.map (fun n => LV.int IntKind.u8 n) (a :: v) ++ [] := by
      rw [hrow, row_flat]; simp
    have e4 : (List.map (fun n => LV.int IntKind.u8 n) (a :: v)).length = v.length + 1 := by simp
    rw [e4] at this
    show Ends (SealB (a :: v) H) (.sl b 0 (v.length + 1) c) (setH H b (.cells (LV.int IntKind.u8 a :: (List.map (fun n => [LV.int IntKind.u8 n]) v).flatten) c))
    rw [e3]
    exact this.mono fun x H' ⟨⟨f', hx⟩, hh⟩ => ⟨⟨f', by rw [hx, e2]⟩, hh⟩

theorem take_eq_of {a b : List Int} (hab : a.length = b.length) {k : Nat} (ha : k < a.length) (hb : k < b.length) (h : a.take k = b.take k) (he : a[k] = b[k]) : a.take (k + 1) = b.take (k + 1) := by
  rw [List.take_add_one, List.take_add_one, h]; simp [ha, hb, he]
theorem ne_of_at {a b : List Int} {k : Nat} (ha : k < a.length) (hb : k < b.length) (he : a[k] ≠ b[k]) : decide (a = b) = false := by
  have : a ≠ b := fun h => by subst h; exact he rfl
  simp [this]

theorem equalBytes_lv (f g : Bool) (a b : List Int) (H : OHeap) (ha : a.length < 2 ^ 40) : CallL Try.prog 44 [bytesL f a, bytesL g b] H fun y H' => y = .bool (decide (a = b)) ∧ H' = H := by
  refine CallL.of_vc (n := 2) tok Try.func44 (c := _) rfl (by kernel_rfl) rfl ?_
  simp -implicitDefEqProofs [bytesL]
  refine ⟨fun hab => ?_, fun hab => ?_⟩
  · have hab : a.length = b.length := by simp at hab; omega
    refine WP.loopG (σ := Nat) (fun k e B H' => H' = H ∧ k ≤ a.length ∧ e 0 = bytesL f a ∧ e 1 = bytesL g b ∧ e 12 = i64 a.length ∧ e 13 = i64 k ∧ a.take k = b.take k) (fun k => a.length - k) 0 ?_ ?_
    · simp [bytesL]
    · rintro k e B H' ⟨rfl, hk, e0, e1, e12, e13, ht⟩
      refine vc_sound tok _ _ _ _ _ ?_
      rcases Nat.lt_or_ge k a.length with hlt | hge
      · have hw := wnext hlt (by omega)
        have hlb : k < b.length := by omega
        simp -implicitDefEqProofs [e0, e1, e12, e13, bytesL, hlt, hlb]
        refine WP.draws tok mixed [(0, []), (1, []), (2, []), (3, []), (4, []), (5, []), (6, []), (7, []), (8, [])] [0, 0, 3, 7, 0, 0, 48, 112, 255] 511 [] (by kernel_rfl) ?_
        simp -implicitDefEqProofs [e0, e1, e12, e13, bytesL, hlt, hlb]
        refine ⟨fun he => ?_, fun he => ?_⟩
        · refine Next.of (k + 1) (by omega) ?_
          have := take_eq_of hab hlt hlb ht (by simpa using he)
          simp [e0, e1, e12, bytesL, hw, this]
          omega
        · exact Ends.of ⟨by rw [ne_of_at hlt hlb (by simpa using he)], rfl⟩
      · have hno : ¬ k < a.length := by omega
        simp -implicitDefEqProofs [e0, e1, e12, e13, bytesL, hno]
        rw [List.take_of_length_le hge, List.take_of_length_le (by omega)] at ht
        exact Ends.of ⟨by simp [ht], rfl⟩
  · refine Ends.of ⟨?_, rfl⟩
    have : a ≠ b := fun h => by subst h; simp at hab
    simp [this]
theorem same01_lv (f g : Bool) (a b : List Int) (H : OHeap) (ha : a.length < 2 ^ 40) : CallL Try.prog 26 [bytesL f a, bytesL g b] H fun y H' => y = .bool (decide (a = b)) ∧ H' = H := by
  refine CallL.of_vc (n := 2) tok Try.func26 (c := _) rfl (by kernel_rfl) rfl ?_
  simp -implicitDefEqProofs [bytesL]
  refine ⟨fun hab => ?_, fun hab => ?_⟩
  · have hab : a.length = b.length := by simp at hab; omega
    refine WP.loopG (σ := Nat) (fun k e B H' => H' = H ∧ k ≤ a.length ∧ e 0 = bytesL f a ∧ e 1 = bytesL g b ∧ e 5 = i64 k ∧ a.take k = b.take k) (fun k => a.length - k) 0 ?_ ?_
    · simp [bytesL]
    · rintro k e B H' ⟨rfl, hk, e0, e1, e5, ht⟩
      refine vc_sound tok _ _ _ _ _ ?_
      rcases Nat.lt_or_ge k a.length with hlt | hge
      · have hw := wnext hlt (by omega)
        have hlb : k < b.length := by omega
        simp -implicitDefEqProofs [e0, e1, e5, bytesL, hlt, hlb]
        refine WP.draws tok mixed [(0, []), (1, []), (2, []), (3, []), (4, []), (5, []), (6, []), (7, []), (8, [])] [0, 0, 3, 7, 0, 0, 48, 112, 255] 511 [] (by kernel_rfl) ?_
        simp -implicitDefEqProofs [e0, e1, e5, bytesL, hlt, hlb]
        refine ⟨fun he => ?_, fun he => ?_⟩
        · refine Next.of (k + 1) (by omega) ?_
          have := take_eq_of hab hlt hlb ht (by simpa using he)
          simp [e0, e1, bytesL, hw, this]
          omega
        · exact Ends.of ⟨by rw [ne_of_at hlt hlb (by simpa using he)], rfl⟩
      · have hno : ¬ k < a.length := by omega
        simp -implicitDefEqProofs [e0, e1, e5, bytesL, hno]
        rw [List.take_of_length_le hge, List.take_of_length_le (by omega)] at ht
        exact Ends.of ⟨by simp [ht], rfl⟩
  · refine Ends.of ⟨?_, rfl⟩
    have : a ≠ b := fun h => by subst h; simp at hab
    simp [this]

/-- judge.same: two values. -/
def valL (is : Bool) (f : Bool) (b : List Int) : LV := .agg [.bool is, bytesL f b]
theorem sameVal_lv (i j f g : Bool) (a b : List Int) (H : OHeap) (ha : a.length < 2 ^ 40) : CallL Try.prog 41 [valL i f a, valL j g b] H fun y H' => y = .bool ((i == j) && decide (a = b)) ∧ H' = H := by
  refine CallL.of_vc (n := 2) tok Try.func41 (c := _) rfl (by kernel_rfl) rfl ?_
  simp -implicitDefEqProofs [valL, kindT]
  refine ⟨fun h => CallL.ret (equalBytes_lv f g a b H ha) ?_, fun h => Ends.of ⟨by simp [h], rfl⟩⟩
  simp -implicitDefEqProofs
  exact Ends.of ⟨by simp [h], rfl⟩
/-- the inner function of judge.does: two records. -/
theorem sameKV_lv (x y : KV) (H : OHeap) (ha : x.v.length < 2 ^ 40) : CallL Try.prog 43 [.agg x.lv, .agg y.lv] H fun z H' => z = .bool (decide (x.k = y.k) && decide (x.v = y.v)) ∧ H' = H := by
  refine CallL.of_vc (n := 2) tok Try.func43 (c := _) rfl (by kernel_rfl) rfl ?_
  simp -implicitDefEqProofs [KV.lv]
  refine ⟨fun h => CallL.ret (equalBytes_lv x.f y.f x.v y.v H ha) ?_, fun h => Ends.of ⟨by simp [h], rfl⟩⟩
  simp -implicitDefEqProofs
  exact Ends.of ⟨by simp [h], rfl⟩
end Go.Lv
/- Lists of records: slices.EqualFunc with the inner function of judge.does, bobbinref05.Same; judge.records. -/
namespace Go.Lv
open Go Go.Proofs
set_option maxRecDepth 10000
set_option linter.unusedSimpArgs false
set_option linter.unusedVariables false

/-- What a list of records tells. -/
def tell (l : List KV) : List (Int × List Int) := l.map fun x => (x.k, x.v)
theorem tell_take {a b : List KV} {k : Nat} (ha : k < a.length) (hb : k < b.length) (h : tell (a.take k) = tell (b.take k)) (he : a[k].k = b[k].k) (hv : a[k].v = b[k].v) : tell (a.take (k + 1)) = tell (b.take (k + 1)) := by
  unfold tell at h ⊢
  rw [List.take_add_one, List.take_add_one, List.map_append, List.map_append, h]; simp [ha, hb, he, hv]
theorem tell_ne {a b : List KV} {k : Nat} (ha : k < a.length) (hb : k < b.length) (he : ¬ (a[k].k = b[k].k ∧ a[k].v = b[k].v)) : decide (tell a = tell b) = false := by
  have : tell a ≠ tell b := fun h => by
    have h2 : (tell a)[k]? = (tell b)[k]? := by rw [h]
    simp [tell, ha, hb] at h2
    exact he h2
  simp [this]

theorem equalKVs_lv (f g : Bool) (a b : List KV) (H : OHeap) (ha : a.length < 2 ^ 40) (hv : ∀ x ∈ a, x.v.length < 2 ^ 40) :
    CallL Try.prog 42 [kvsL f a, kvsL g b, .fn 43 [] []] H fun y H' => y = .bool (decide (tell a = tell b)) ∧ H' = H := by
  refine CallL.of_vc (n := 3) tok Try.func42 (c := _) rfl (by kernel_rfl) rfl ?_
  simp -implicitDefEqProofs [kvsL]
  refine ⟨fun hab => ?_, fun hab => ?_⟩
  · have hab : a.length = b.length := by simp at hab; omega
    refine WP.loopG (σ := Nat) (fun k e B H' => H' = H ∧ k ≤ a.length ∧ e 0 = kvsL f a ∧ e 1 = kvsL g b ∧ e 2 = .fn 43 [] [] ∧ e 15 = kvsL f a ∧ e 16 = i64 a.length ∧ e 17 = i64 k ∧ tell (a.take k) = tell (b.take k)) (fun k => a.length - k) 0 ?_ ?_
    · simp [kvsL]
    · rintro k e B H' ⟨rfl, hk, e0, e1, e2, e15, e16, e17, ht⟩
      refine vc_sound tok _ _ _ _ _ ?_
      rcases Nat.lt_or_ge k a.length with hlt | hge
      · have hw := wnext hlt (by omega)
        have hlb : k < b.length := by omega
        simp -implicitDefEqProofs [e0, e1, e2, e15, e16, e17, kvsL, hlt, hlb, KV.lv, seg]
        refine CallL.ret (sameKV_lv a[k] b[k] H' (hv _ (List.getElem_mem _))) ?_
        simp -implicitDefEqProofs [e0, e1, e2, e15, e16, e17, kvsL, hlt, hlb]
        refine ⟨fun he => ?_, fun he => ?_⟩
        · exact Ends.of ⟨by rw [tell_ne hlt hlb (fun hh => by simp [hh.1, hh.2] at he)], rfl⟩
        · simp at he
          refine Next.of (k + 1) (by omega) ?_
          have := tell_take hlt hlb ht he.1 he.2
          simp [e0, e1, e2, e15, e16, kvsL, hw, this]
          omega
      · have hno : ¬ k < a.length := by omega
        simp -implicitDefEqProofs [e0, e1, e2, e15, e16, e17, kvsL, hno]
        rw [List.take_of_length_le hge, List.take_of_length_le (by omega)] at ht
        exact Ends.of ⟨by simp [ht], rfl⟩
  · refine Ends.of ⟨?_, rfl⟩
    have : tell a ≠ tell b := fun h => by
      have := congrArg List.length h; simp [tell] at this; simp [this] at hab
    simp [this]

theorem same05_lv (f g : Bool) (a b : List KV) (H : OHeap) (ha : a.length < 2 ^ 40) (hv : ∀ x ∈ a, x.v.length < 2 ^ 40) :
    CallL Try.prog 13 [kvsL f a, kvsL g b] H fun y H' => y = .bool (decide (tell a = tell b)) ∧ H' = H := by
  refine CallL.of_vc (n := 2) tok Try.func13 (c := _) rfl (by kernel_rfl) rfl ?_
  simp -implicitDefEqProofs [kvsL]
  refine ⟨fun hab => ?_, fun hab => ?_⟩
  · have hab : a.length = b.length := by simp at hab; omega
    refine WP.loopG (σ := Nat) (fun k e B H' => H' = H ∧ k ≤ a.length ∧ e 0 = kvsL f a ∧ e 1 = kvsL g b ∧ e 5 = i64 k ∧ tell (a.take k) = tell (b.take k)) (fun k => a.length - k) 0 ?_ ?_
    · simp [kvsL]
    · rintro k e B H' ⟨rfl, hk, e0, e1, e5, ht⟩
      refine vc_sound tok _ _ _ _ _ ?_
      rcases Nat.lt_or_ge k a.length with hlt | hge
      · have hw := wnext hlt (by omega)
        have hlb : k < b.length := by omega
        simp -implicitDefEqProofs [e0, e1, e5, kvsL, hlt, hlb, KV.lv, seg]
        refine WP.draws tok mixed [(0, []), (1, []), (2, []), (3, []), (4, []), (5, []), (6, []), (7, []), (8, []), (9, []), (10, []), (11, [])] [0, 0, 3, 7, 15, 0, 0, 96, 224, 480, 1023, 2047] 3071 [] (by kernel_rfl) ?_
        simp -implicitDefEqProofs [e0, e1, e5, kvsL, hlt, hlb, KV.lv, seg]
        refine CallL.ret (same01_lv a[k].f b[k].f a[k].v b[k].v H' (hv _ (List.getElem_mem _))) ?_
        simp -implicitDefEqProofs [e0, e1, e5, kvsL, hlt, hlb, KV.lv, seg]
        refine WP.draws tok mixed [(0, []), (1, []), (2, []), (3, []), (4, []), (5, []), (6, []), (7, []), (8, []), (9, []), (10, []), (11, []), (12, []), (13, []), (14, [])] [0, 1, 3, 7, 7, 31, 63, 127, 7, 7, 775, 1799, 3847, 8191, 16383] 32767 [] (by kernel_rfl) ?_
        simp -implicitDefEqProofs [e0, e1, e5, kvsL, hlt, hlb, KV.lv, seg]
        refine ⟨fun hve => ⟨fun he => ?_, fun he => ?_⟩, fun hve => ?_⟩
        · refine Next.of (k + 1) (by omega) ?_
          have := tell_take hlt hlb ht (by simpa using he) (by simpa using hve)
          simp [e0, e1, kvsL, hw, this]
          omega
        · exact Ends.of ⟨by rw [tell_ne hlt hlb (fun hh => by simp [hh.1] at he)], rfl⟩
        · exact Ends.of ⟨by rw [tell_ne hlt hlb (fun hh => by simp [hh.2] at hve)], rfl⟩
      · have hno : ¬ k < a.length := by omega
        simp -implicitDefEqProofs [e0, e1, e5, kvsL, hno]
        rw [List.take_of_length_le hge, List.take_of_length_le (by omega)] at ht
        exact Ends.of ⟨by simp [ht], rfl⟩
  · refine Ends.of ⟨?_, rfl⟩
    have : tell a ≠ tell b := fun h => by
      have := congrArg List.length h; simp [tell] at this; simp [this] at hab
    simp [this]
end Go.Lv
/- Rows of records that a call builds; judge.records. -/
namespace Go.Lv
open Go Go.Proofs
set_option maxRecDepth 10000
set_option linter.unusedSimpArgs false
set_option linter.unusedVariables false

/-- A row of records of es cells that is owned: nil, or these first, then whatever. -/
def OutR (es : Nat) (rows : List (List LV)) (H : OHeap) (x : LV) (H' : OHeap) : Prop :=
  (rows = [] ∧ x = .nilsl ∧ H' = H) ∨ (∃ b c rest, H b = none ∧ rows.length ≤ c ∧ x = .sl b 0 rows.length c ∧ H' = setH H b (.cells (rows.flatten ++ rest) (c * es)))
structure RowsOk (es : Nat) (rows : List (List LV)) : Prop where
  len : ∀ r ∈ rows, r.length = es
  one : rows.flatten.all LV.one = true
theorem RowsOk.nil (es : Nat) : RowsOk es [] := ⟨fun r h => by simp at h, rfl⟩
theorem RowsOk.append {es : Nat} {a b : List (List LV)} (ha : RowsOk es a) (hb : RowsOk es b) : RowsOk es (a ++ b) :=
  ⟨fun r h => (List.mem_append.1 h).elim (ha.len r) (hb.len r), by rw [List.flatten_append, List.all_append, ha.one, hb.one]; rfl⟩
theorem RowsOk.flen {es : Nat} {a : List (List LV)} (ha : RowsOk es a) : a.flatten.length = a.length * es := flatten_length a ha.len

theorem OutR.glob {es : Nat} {ys : List (List LV)} {H H' : OHeap} {x : LV} (h : OutR es ys H x H') : x.glob = true := by rcases h with ⟨_, rfl, _⟩ | ⟨b, c, rest, _, _, rfl, _⟩ <;> rfl
theorem OutR.one {es : Nat} {ys : List (List LV)} {H H' : OHeap} {x : LV} (h : OutR es ys H x H') : x.one = true := by rcases h with ⟨_, rfl, _⟩ | ⟨b, c, rest, _, _, rfl, _⟩ <;> rfl
theorem OutR.add {es : Nat} {ys : List (List LV)} {H H' : OHeap} {x : LV} (h : OutR es ys H x H') {b : Nat} (o : LO) (hb : H' b = none) : OutR es ys (setH H b o) x (setH H' b o) := by
  rcases h with ⟨h1, h2, rfl⟩ | ⟨b', c, rest, h1, h2, h3, rfl⟩
  · exact .inl ⟨h1, h2, rfl⟩
  · have hne : b' ≠ b := fun hh => by subst hh; simp at hb
    exact .inr ⟨b', c, rest, by simp [hne, h1], h2, h3, setH_comm hne⟩
theorem OutR.del {es : Nat} {ys : List (List LV)} {G G' : OHeap} {x : LV} {b : Nat} {o : LO} (h : OutR es ys (setH G b o) x G') (hb : G b = none) : ∃ G'', OutR es ys G x G'' ∧ G' = setH G'' b o ∧ G'' b = none := by
  rcases h with ⟨h1, h2, rfl⟩ | ⟨b', c, rest, h1, h2, h3, rfl⟩
  · exact ⟨G, .inl ⟨h1, h2, rfl⟩, rfl, hb⟩
  · have hne : b' ≠ b := fun hh => by subst hh; simp at h1
    exact ⟨_, .inr ⟨b', c, rest, by simpa [hne] using h1, h2, h3, rfl⟩, setH_comm (Ne.symm hne), by simp [Ne.symm hne, hb]⟩
theorem OutR.upd {es : Nat} {ys : List (List LV)} {H H' : OHeap} {x : LV} (h : OutR es ys H x H') {b : Nat} (o : LO) (hb : (H b).isSome = true) : OutR es ys (setH H b o) x (setH H' b o) := by
  rcases h with ⟨h1, h2, rfl⟩ | ⟨b', c, rest, h1, h2, h3, rfl⟩
  · exact .inl ⟨h1, h2, rfl⟩
  · have hne : b' ≠ b := fun hh => by subst hh; rw [h1] at hb; cases hb
    exact .inr ⟨b', c, rest, by simp [hne, h1], h2, h3, setH_comm hne⟩
theorem OutR.toNone {es : Nat} {ys : List (List LV)} {H H' : OHeap} {x : LV} (h : OutR es ys H x H') {b : Nat} (hb : H' b = none) : H b = none := by
  rcases h with ⟨_, _, rfl⟩ | ⟨b', c, rest, h1, _, _, rfl⟩
  · exact hb
  · simp only [setH_apply] at hb; split at hb
    · cases hb
    · exact hb
theorem OutR.toSome {es : Nat} {ys : List (List LV)} {H H' : OHeap} {x : LV} (h : OutR es ys H x H') {b : Nat} {o : LO} (hb : H b = some o) : H' b = some o := by
  rcases h with ⟨_, _, rfl⟩ | ⟨b', c, rest, h1, _, _, rfl⟩
  · exact hb
  · simp only [setH_apply]; split
    · rename_i hh; subst hh; rw [h1] at hb; cases hb
    · exact hb

theorem OutR.append {es by_ : Nat} {rows new : List (List LV)} {H H' : OHeap} {x : LV} (h : OutR es rows H x H') (hr : RowsOk es rows) (hn : RowsOk es new) (hne : new ≠ []) (hl : rows.length + new.length < 2 ^ 40) (hb : by_ ≤ 127)
    {Q : LV → OHeap → Prop} (hq : ∀ y H'', OutR es (rows ++ new) H y H'' → Q y H'') : appL H' es by_ x (.isl true es new) Q := by
  have hroom : ∀ n, n < 2 ^ 40 → room n by_ := fun n hn => by
    unfold room
    refine ⟨by omega, Nat.le_trans (Nat.mul_le_mul (Nat.le_of_lt hn) hb) (by decide)⟩
  have hnl : 0 < new.length := List.length_pos_iff.2 hne
  rcases h with ⟨rfl, rfl, rfl⟩ | ⟨b, c, rest, hb', hc, rfl, rfl⟩
  · simp only [appL, srcL, if_true]
    refine ⟨hn.one, fun h0 => by omega, fun _ => ⟨hroom _ (by simpa using hl), fun b c hb hc => hq _ _ (.inr ⟨b, c, [], hb, by simpa using hc, by simp, by simp⟩)⟩⟩
  · simp only [appL, srcL, if_true, setH_apply, Nat.zero_add, List.drop_zero]
    have e1 : (rows.flatten ++ rest).take (rows.length * es) = rows.flatten := List.take_left' hr.flen
    refine ⟨hn.one, ⟨by simp [hr.flen], Nat.le_refl _, by rw [e1]; exact hr.one⟩, fun hfit => ?_, fun hgrow => ⟨hroom _ hl, fun b' c' hbb hc' => ?_⟩⟩
    · refine hq _ _ (.inr ⟨b, c, (rows.flatten ++ rest).drop (rows.length * es + new.flatten.length), hb', by simpa using hfit, by simp, ?_⟩)
      rw [setH_setH]
      congr 2
      unfold seg
      rw [e1]
      simp
    · have hne' : b' ≠ b := fun h => by subst h; simp at hbb
      refine hq _ _ (.inr ⟨b', c', [], by simpa [hne'] using hbb, by simpa using hc', by simp, ?_⟩)
      rw [delH_setH hb', e1]
      simp

/-- Sealed, it is a tree. -/
theorem OutR.sealE {es : Nat} {rows : List (List LV)} {H H' : OHeap} {x : LV} (h : OutR es rows H x H') (hr : RowsOk es rows) {Q : LV → OHeap → Prop} (hq : ∀ f, Q (.isl f es rows) H) : Ends Q x H' := by
  rcases h with ⟨rfl, rfl, rfl⟩ | ⟨b, c, rest, hb, hc, rfl, rfl⟩
  · exact Ends.wk (Wk.nilsl true es) (Ends.of (hq true))
  · refine Ends.wk (Wk.sealB es (b := b) (n := c * es) (cs := rows.flatten ++ rest) (by simp) _) ?_
    rw [delH_setH hb]
    have := sealV_whole (b := b) (c := c) (rest := rest) (es := es) (xs := rows) hr.len hc
    simp only [sealT]
    rw [this]
    exact Ends.of (hq _)

theorem kv_rows (l : List KV) : RowsOk 2 (l.map KV.lv) := ⟨fun r h => by obtain ⟨x, _, rfl⟩ := List.mem_map.1 h; rfl, by
  rw [List.all_eq_true]; intro x hx
  obtain ⟨y, hy, hxy⟩ := List.mem_flatten.1 hx
  obtain ⟨h, _, rfl⟩ := List.mem_map.1 hy
  simp [KV.lv] at hxy
  rcases hxy with rfl | rfl <;> rfl⟩

/-- Records, in some form. -/
def SealKV (t : List (Int × List Int)) (H : OHeap) (x : LV) (H' : OHeap) : Prop := (∃ f l, x = kvsL f l ∧ tell l = t) ∧ H' = H
/-- What an omap of bytes holds. -/
structure BV where
  f : Bool
  v : List Int
def BV.lv (x : BV) : LV := bytesL x.f x.v
/-- The records so far lie in the box. -/
def RecJ (t : List (Int × List Int)) (b : Nat) (H H' : OHeap) : Prop := ∃ x l G, tell l = t ∧ OutR 2 (l.map KV.lv) H x G ∧ G b = none ∧ H' = setH G b (.cells [x] 1)
theorem zip_at {ks : List Int} {bs : List BV} {pre : List (Int × LV)} {p : Int × LV} (h : pre ++ [p] <+: ks.zip (bs.map BV.lv)) : ∃ (h1 : pre.length < ks.length) (h2 : pre.length < bs.length), p = (ks[pre.length], bs[pre.length].lv) ∧
    (ks.zip (bs.map BV.v)).take (pre.length + 1) = (ks.zip (bs.map BV.v)).take pre.length ++ [(ks[pre.length], bs[pre.length].v)] := by
  have hl := h.length_le
  simp at hl
  have h1 : pre.length < ks.length := by omega
  have h2 : pre.length < bs.length := by omega
  refine ⟨h1, h2, ?_, ?_⟩
  · have := h.getElem (i := pre.length) (by simp)
    simpa using this
  · have h3 : pre.length < (ks.zip (bs.map BV.v)).length := by simp; omega
    rw [List.take_add_one, List.getElem?_eq_getElem h3, List.getElem_zip]
    simp
theorem enters76 : Enters Try.prog 76 := ⟨_, Try.func76, by kernel_rfl, by kernel_rfl⟩
theorem records_lv (ks : List Int) (bs : List BV) (sb : Nat) (H0 H : OHeap) (h : OM ks (bs.map BV.lv) sb H0 H) (hl : ks.length < 2 ^ 39) (hv : ∀ x ∈ bs, x.v.length < 2 ^ 40) :
    CallL Try.prog 25 [.ptr sb 0] H (SealKV (ks.zip (bs.map BV.v)) H) := by
  refine CallL.of_wp (n := 1) tok Try.func25 (c := _) rfl (by kernel_rfl) rfl ?_
  refine WP.cut tok ?_
  simp -implicitDefEqProofs [nobox]
  refine WP.cut tok ?_
  simp -implicitDefEqProofs [nobox]
  refine WP.nbox (d := 3) (ver := 1) (cs := [.nilsl]) (by simp [nobox]) fun b hb => ?_
  have hbs : b ≠ sb := fun hh => by subst hh; obtain ⟨kx, vx, hs, _⟩ := h.parts; rw [hs] at hb; cases hb
  refine WP.cut tok ?_
  simp -implicitDefEqProofs [nobox, nboxV]
  refine (allB_lv (.ptr sb 0) _ rfl rfl).mono fun y H' hy => ?_
  obtain ⟨rfl, rfl⟩ := hy
  simp -implicitDefEqProofs [nobox, nboxV]
  refine WP.rangeFunc (X := Int × LV) (f := 76) (lb := [.iptr [.ptr sb 0]]) (by simp) enters76 (fun d => by by_cases hd : d = 3 <;> simp [nobox, hd]) (fun p => [i64 p.1, p.2]) (fun p => rfl)
    (fun pre H' => RecJ ((ks.zip (bs.map BV.v)).take pre.length) b H H') (fun _ _ => False) (fun xs => xs = ks.zip (bs.map BV.lv)) (fun pre p => pre ++ [p] <+: ks.zip (bs.map BV.lv)) ?_ ?_ ?_ ?_ ?_
  · exact ⟨.nilsl, [], H, by simp [tell], .inl ⟨rfl, rfl, rfl⟩, hb, rfl⟩
  · intro l o J' Jx' hl hy h0
    have h2 := (h.add (.cells [.nilsl] 1) hb).add o hl
    refine (iterB_lv ks (bs.map BV.lv) sb _ _ h2 (by omega) l J' Jx' (fun pre k x H' hp hJ => hy pre (k, x) H' hp hJ) h0).mono fun y H' hq => ?_
    exact hq.imp (fun hq => ⟨_, rfl, hq⟩) id
  · intro l pre p H' hp hJ
    obtain ⟨h1, h2, rfl, htk⟩ := zip_at hp
    obtain ⟨x, out, G, hout, hrow, hGb, rfl⟩ := hJ
    refine vc_sound tok _ _ _ _ _ ?_
    simp -implicitDefEqProofs [nobox, nboxV]
    refine (vc_sound tok _ _ _ _ _ ?_ : WP _ _ _ _ _ _ _ _)
    simp -implicitDefEqProofs [nobox, nboxV]
    have hxg := hrow.glob
    refine WP.draws tok mixed [(0, []), (1, []), (2, []), (3, [0]), (4, []), (5, []), (6, []), (7, [])] [0, 0, 0, 4, 14, 30, 63, 127] 55 [] (by kernel_rfl) ?_
    simp -implicitDefEqProofs [hxg, BV.lv]
    refine (cloneBytes_lv _ _ _ (hv _ (List.getElem_mem h2))).mono fun y H' hy => ?_
    obtain ⟨⟨f', rfl⟩, rfl⟩ := hy
    have hw : tell (out ++ [(⟨ks[pre.length], f', bs[pre.length].v⟩ : KV)]) = (ks.zip (bs.map BV.v)).take (pre.length + 1) := by
      rw [htk, ← hout]; simp [tell]
    simp -implicitDefEqProofs [hxg, BV.lv, putAt]
    have hol : out.length = pre.length := by
      have := congrArg List.length hout
      simp [tell] at this; omega
    refine OutR.append (by_ := 32) (new := [KV.lv ⟨ks[pre.length], f', bs[pre.length].v⟩]) (hrow.add (.cells [x] 1) hGb) (kv_rows out) (kv_rows [_]) (by simp) (by simp; omega) (by decide) fun y H'' hy => ?_
    obtain ⟨G2, hy2, rfl, hG2⟩ := hy.del hb
    have hy1 := hy.one
    simp -implicitDefEqProofs [hy.glob, hy1, lcells_one hy1, seg]
    rw [setH_setH]
    exact ⟨y, _, G2, hw, by simpa using hy2, hG2, rfl⟩
  · rintro xs H' rfl hJ
    obtain ⟨x, out, G, hout, hrow, hGb, rfl⟩ := hJ
    simp
    refine (vc_sound tok _ _ _ _ _ ?_ : WP _ _ _ _ _ _ _ _)
    simp -implicitDefEqProofs [nobox, nboxV, hrow.glob]
    refine Ends.wk (Wk.del b _) ?_
    rw [delH_setH hGb]
    refine hrow.sealE (kv_rows out) fun f => ⟨⟨f, out, rfl, ?_⟩, rfl⟩
    rw [hout, List.take_of_length_le]
    simp
  · intro z H' _ hf; exact hf.elim
end Go.Lv
/- judge.does. -/
namespace Go.Lv
open Go Go.Proofs
set_option maxRecDepth 10000
set_option linter.unusedSimpArgs false
set_option linter.unusedVariables false

section
variable {P : Program} {H : OHeap}
theorem Rs.arg {K : Know} {pre post : List LV} {x y : LV} {vs : List Value} (hxy : ∀ v, R K x v → R K y v) (h : Rs K (pre ++ x :: post) vs) : Rs K (pre ++ y :: post) vs := by
  refine ⟨by rw [h.1]; simp, fun i z v hz hv => ?_⟩
  rcases Nat.lt_trichotomy i pre.length with hi | hi | hi
  · rw [List.getElem?_append_left hi] at hz
    exact h.2 i z v (by rw [List.getElem?_append_left hi]; exact hz) hv
  · subst hi
    simp at hz; subst hz
    exact hxy v (h.2 pre.length x v (by simp) hv)
  · rw [List.getElem?_append_right (by omega)] at hz
    obtain ⟨k, hk⟩ : ∃ k, i - pre.length = k + 1 := ⟨i - pre.length - 1, by omega⟩
    rw [hk] at hz
    exact h.2 i z v (by rw [List.getElem?_append_right (by omega), hk]; simpa using hz) hv
/-- A contract at less known arguments serves better known ones. -/
theorem CallL.arg {f : FuncId} (pre : List LV) {post : List LV} {x y : LV} {Q : LV → OHeap → Prop} (hxy : ∀ K v, R K x v → R K y v) (h : CallL P f (pre ++ y :: post) H Q) : CallL P f (pre ++ x :: post) H Q :=
  h.imp (fun h => ⟨h.1, fun K w vs g hr => h.2 K w vs g (hr.arg (hxy K))⟩) (fun h K w vs g hr => h K w vs g (hr.arg (hxy K)))
theorem R.nil_isl {K : Know} {v : Value} (f : Bool) (es : Nat) (h : R K .nilsl v) : R K (.isl f es []) v := by cases h; exact .isln _ _
theorem R.agg_rel {K : Know} {xs ys : List LV} {v : Value} (hl : xs.length = ys.length) (hxy : ∀ (i : Nat) x y v, xs[i]? = some x → ys[i]? = some y → R K x v → R K y v) (h : R K (.agg xs) v) : R K (.agg ys) v := by
  cases h with
  | agg _ vs hvl hh =>
    refine .agg ys vs (by rw [hvl, hl]) fun i y u hy hu => ?_
    have hi : i < xs.length := by rw [hl]; exact (List.getElem?_eq_some_iff.1 hy).1
    exact hxy i xs[i] y u (List.getElem?_eq_getElem hi) hy (hh i xs[i] u (List.getElem?_eq_getElem hi) hu)
end

/-- What is there: keys, rising, and bytes. -/
abbrev Mem := List (Int × List Int)
def mput (m : Mem) (k : Int) (v : List Int) : Mem := m.filter (fun p => decide (p.1 < k)) ++ (k, v) :: m.filter (fun p => decide (k < p.1))
def mdel (m : Mem) (k : Int) : Mem := m.filter (fun p => decide (p.1 < k)) ++ m.filter (fun p => decide (k < p.1))
def mget (m : Mem) (k : Int) : Option (List Int) := (m.find? fun p => decide (p.1 = k)).map (·.2)
/-- judge.does: what is there behind an event; whether what was read is there. -/
def gDo (m : Mem) (x : Ev) : Mem := if x.kind = 2 then (if x.is = true then mput m x.key x.b else mdel m x.key) else m
def gSees (m : Mem) (x : Ev) : Bool :=
  if x.kind = 1 then (match mget m x.key with | some v => x.is && decide (v = x.b) | none => !x.is && decide ([] = x.b)) else if x.kind = 3 then decide (m = tell x.l) else true

theorem zip_lt {α : Type} {ks : List Int} (hr : Rising ks) (xs : List α) (k : Int) : (ks.zip xs).filter (fun p => decide (p.1 < k)) = (ks.zip xs).take (gPos ks k) := by
  obtain ⟨h1, h2⟩ := gPos_lt hr k
  conv => lhs; rw [← List.take_append_drop (gPos ks k) (ks.zip xs)]
  rw [List.filter_append]
  have e1 : ((ks.zip xs).take (gPos ks k)).filter (fun p => decide (p.1 < k)) = (ks.zip xs).take (gPos ks k) := by
    rw [List.filter_eq_self]; intro x hx
    obtain ⟨p, hp, rfl⟩ := List.mem_iff_getElem.1 hx
    rw [List.length_take, List.length_zip] at hp
    simpa using h1 p (by omega) (by omega)
  have e2 : ((ks.zip xs).drop (gPos ks k)).filter (fun p => decide (p.1 < k)) = [] := by
    rw [List.filter_eq_nil_iff]; intro x hx
    obtain ⟨p, hp, rfl⟩ := List.mem_iff_getElem.1 hx
    rw [List.length_drop, List.length_zip] at hp
    have := h2 (gPos ks k + p) (by omega) (by omega)
    simp; omega
  rw [e1, e2, List.append_nil]
theorem zip_gt {α : Type} {ks : List Int} (hr : Rising ks) (xs : List α) (k : Int) : (ks.zip xs).filter (fun p => decide (k < p.1)) = (ks.zip xs).drop (if gHas ks k = true then gPos ks k + 1 else gPos ks k) := by
  obtain ⟨h1, h2⟩ := gPos_lt hr k
  have hat := List.pairwise_iff_getElem.1 hr
  obtain ⟨n, hn⟩ : ∃ n, (if gHas ks k = true then gPos ks k + 1 else gPos ks k) = n := ⟨_, rfl⟩
  rw [hn]
  have hlow : ∀ p, (h : p < ks.length) → p < n → ¬ k < ks[p] := fun p h hp => by
    by_cases hh : gHas ks k = true
    · rw [if_pos hh] at hn
      obtain ⟨hq, he⟩ := gPos_has hr hh
      rcases Nat.lt_or_ge p (gPos ks k) with h' | h'
      · have := h1 p h h'; omega
      · have : p = gPos ks k := by omega
        subst this; omega
    · rw [if_neg hh] at hn
      have := h1 p h (by omega); omega
  have hhigh : ∀ p, (h : p < ks.length) → n ≤ p → k < ks[p] := fun p h hp => by
    by_cases hh : gHas ks k = true
    · rw [if_pos hh] at hn
      obtain ⟨hq, he⟩ := gPos_has hr hh
      have := hat (gPos ks k) p hq h (by omega); omega
    · rw [if_neg hh] at hn
      have h3 := h2 p h (by omega)
      have : ks[p] ≠ k := fun he => hh (by unfold gHas; rw [List.contains_iff_mem, ← he]; exact List.getElem_mem _)
      omega
  conv => lhs; rw [← List.take_append_drop n (ks.zip xs)]
  rw [List.filter_append]
  have e1 : ((ks.zip xs).take n).filter (fun p => decide (k < p.1)) = [] := by
    rw [List.filter_eq_nil_iff]; intro x hx
    obtain ⟨p, hp, rfl⟩ := List.mem_iff_getElem.1 hx
    rw [List.length_take, List.length_zip] at hp
    simpa using hlow p (by omega) (by omega)
  have e2 : ((ks.zip xs).drop n).filter (fun p => decide (k < p.1)) = (ks.zip xs).drop n := by
    rw [List.filter_eq_self]; intro x hx
    obtain ⟨p, hp, rfl⟩ := List.mem_iff_getElem.1 hx
    rw [List.length_drop, List.length_zip] at hp
    simpa using hhigh (n + p) (by omega) (by omega)
  rw [e1, e2, List.nil_append]

/-- Set, as the records tell it. -/
def bset (ks : List Int) (bs : List BV) (k : Int) (v : BV) : List BV := if gHas ks k = true then bs.set (gPos ks k) v else bs.take (gPos ks k) ++ v :: bs.drop (gPos ks k)
def bdel (ks : List Int) (bs : List BV) (k : Int) : List BV := if gHas ks k = true then bs.take (gPos ks k) ++ bs.drop (gPos ks k + 1) else bs
theorem bset_lv (ks : List Int) (bs : List BV) (k : Int) (v : BV) : gSetV ks (bs.map BV.lv) k v.lv = (bset ks bs k v).map BV.lv := by
  unfold gSetV bset; split <;> simp [List.map_take, List.map_drop]
theorem bdel_lv (ks : List Int) (bs : List BV) (k : Int) : gDelV ks (bs.map BV.lv) k = (bdel ks bs k).map BV.lv := by
  unfold gDelV bdel; split <;> simp [List.map_take, List.map_drop]
theorem zip_app {α β : Type} (a c : List α) (b d : List β) (h : a.length = b.length) : (a ++ c).zip (b ++ d) = a.zip b ++ c.zip d := List.zip_append h
theorem zip_take {α β : Type} (a : List α) (b : List β) (n : Nat) : (a.take n).zip (b.take n) = (a.zip b).take n := by
  induction n generalizing a b with
  | zero => simp
  | succ n ih => cases a <;> cases b <;> simp [ih]
theorem zip_drop {α β : Type} (a : List α) (b : List β) (n : Nat) : (a.drop n).zip (b.drop n) = (a.zip b).drop n := by
  induction n generalizing a b with
  | zero => simp
  | succ n ih => cases a <;> cases b <;> simp [ih]
theorem bset_zip {ks : List Int} (hr : Rising ks) (bs : List BV) (hl : ks.length = bs.length) (k : Int) (v : BV) : (gSetK ks k).zip ((bset ks bs k v).map BV.v) = mput (ks.zip (bs.map BV.v)) k v.v := by
  unfold mput
  rw [zip_lt hr, zip_gt hr]
  have hpl := gPos_le ks k
  unfold gSetK bset
  split
  · rename_i hh
    obtain ⟨hp, he⟩ := gPos_has hr hh
    have h1 : ks = ks.take (gPos ks k) ++ k :: ks.drop (gPos ks k + 1) := by
      conv => lhs; rw [← List.take_append_drop (gPos ks k) ks, List.drop_eq_getElem_cons hp, he]
    rw [List.map_set, List.set_eq_take_append_cons_drop, if_pos (by simp; omega)]
    generalize gPos ks k = p at *
    conv => lhs; rw [h1]
    rw [zip_app _ _ _ _ (by simp; omega), List.zip_cons_cons, zip_take, zip_drop]
  · rw [List.map_append, List.map_cons, List.map_take, List.map_drop, zip_app _ _ _ _ (by simp; omega), List.zip_cons_cons, zip_take, zip_drop]
theorem bdel_zip {ks : List Int} (hr : Rising ks) (bs : List BV) (hl : ks.length = bs.length) (k : Int) : (gDelK ks k).zip ((bdel ks bs k).map BV.v) = mdel (ks.zip (bs.map BV.v)) k := by
  unfold mdel
  rw [zip_lt hr, zip_gt hr]
  have hpl := gPos_le ks k
  unfold gDelK bdel
  split
  · rename_i hh
    rw [List.map_append, List.map_take, List.map_drop, zip_app _ _ _ _ (by simp; omega), zip_take, zip_drop]
  · rw [List.take_append_drop]
theorem mget_zip {ks : List Int} (hr : Rising ks) (bs : List BV) (hl : ks.length = bs.length) (k : Int) : mget (ks.zip (bs.map BV.v)) k = if h : gHas ks k = true then (bs[gPos ks k]?).map BV.v else none := by
  have hat := List.pairwise_iff_getElem.1 hr
  split
  · rename_i hh
    obtain ⟨hp, he⟩ := gPos_has hr hh
    have hpb : gPos ks k < bs.length := by omega
    have : (ks.zip (bs.map BV.v)).find? (fun p => decide (p.1 = k)) = some (k, bs[gPos ks k].v) := by
      rw [List.find?_eq_some_iff_getElem]
      refine ⟨by simp, gPos ks k, by simp; omega, by simp [he], fun j hj => ?_⟩
      have := hat j (gPos ks k) (by omega) hp hj
      simp; omega
    unfold mget; rw [this, List.getElem?_eq_getElem hpb]; rfl
  · rename_i hh
    have : (ks.zip (bs.map BV.v)).find? (fun p => decide (p.1 = k)) = none := by
      rw [List.find?_eq_none]; intro x hx
      obtain ⟨p, hp, rfl⟩ := List.mem_iff_getElem.1 hx
      simp at hp ⊢
      intro he; exact hh (by unfold gHas; rw [List.contains_iff_mem, ← he]; exact List.getElem_mem _)
    unfold mget; rw [this]; rfl

/-- What judge.does leaves. -/
def DoesQ (m : Mem) (x : Ev) (sb : Nat) (H : OHeap) (y : LV) (H' : OHeap) : Prop :=
  y = .bool (gSees m x) ∧ ∃ (ks : List Int) (bs : List BV), OM ks (bs.map BV.lv) sb H H' ∧ ks.zip (bs.map BV.v) = gDo m x ∧ (∀ z ∈ bs, z.v.length ≤ 1000) ∧ ks.length ≤ m.length + 1
theorem does_lv (ks : List Int) (bs : List BV) (sb : Nat) (x : Ev) (H H1 : OHeap) (h : OM ks (bs.map BV.lv) sb H H1) (hl : ks.length < 2 ^ 38) (hv : ∀ z ∈ bs, z.v.length ≤ 1000) (hx : x.b.length ≤ 1000) :
    CallL Try.prog 24 [.ptr sb 0, .agg x.lv] H1 (DoesQ (ks.zip (bs.map BV.v)) x sb H) := by
  have hlb : ks.length = bs.length := by simpa using h.1.1
  refine CallL.of_vc (n := 2) tok Try.func24 (c := _) rfl (by kernel_rfl) rfl ?_
  simp -implicitDefEqProofs [Ev.lv]
  have hxl : ∀ {k : Int} {v : BV}, v.v.length ≤ 1000 → ∀ z ∈ bset ks bs k v, z.v.length ≤ 1000 := fun {k v} hvv z hz => by
    unfold bset at hz
    split at hz
    · rcases List.mem_or_eq_of_mem_set hz with h' | rfl
      · exact hv z h'
      · exact hvv
    · rcases List.mem_append.1 hz with h' | h'
      · exact hv z (List.mem_of_mem_take h')
      · rcases List.mem_cons.1 h' with rfl | h'
        · exact hvv
        · exact hv z (List.mem_of_mem_drop h')
  have hdl : ∀ {k : Int}, ∀ z ∈ bdel ks bs k, z.v.length ≤ 1000 := fun {k} z hz => by
    unfold bdel at hz
    split at hz
    · rcases List.mem_append.1 hz with h' | h'
      · exact hv z (List.mem_of_mem_take h')
      · exact hv z (List.mem_of_mem_drop h')
    · exact hv z hz
  have hzl : (ks.zip (bs.map BV.v)).length = ks.length := by simp; omega
  have hpl := gPos_le ks x.key
  refine ⟨fun h2 => ⟨fun hi => ?_, fun hi => ?_⟩, fun h2 => ⟨fun h1 => ?_, fun h1 => ⟨fun h3 => ?_, fun h3 => ?_⟩⟩⟩
  · refine (setB_lv ks _ sb x.key (BV.lv ⟨x.bf, x.b⟩) H H1 h (by omega) rfl rfl).mono fun y H' hy => ?_
    obtain ⟨rfl, hom⟩ := hy
    rw [bset_lv] at hom
    simp at h2
    simp -implicitDefEqProofs [h2]
    refine Ends.of ⟨by simp [gSees, h2], gSetK ks x.key, bset ks bs x.key ⟨x.bf, x.b⟩, hom, ?_, hxl hx, ?_⟩
    · rw [bset_zip h.1.2.1 bs hlb]; simp [gDo, h2, hi]
    · rw [hzl]; unfold gSetK; split <;> simp <;> omega
  · refine (delM_lv ks _ sb x.key H H1 h (by omega)).mono fun y H' hy => ?_
    obtain ⟨rfl, hom⟩ := hy
    rw [bdel_lv] at hom
    simp at h2
    simp -implicitDefEqProofs [h2]
    refine Ends.of ⟨by simp [gSees, h2], gDelK ks x.key, bdel ks bs x.key, hom, ?_, hdl, ?_⟩
    · rw [bdel_zip h.1.2.1 bs hlb]; simp [gDo, h2, hi]
    · rw [hzl]; unfold gDelK; split <;> simp <;> omega
  · refine CallL.ret (getB_lv ks _ sb x.key H H1 h (by omega)) ?_
    simp at h2 h1
    have hdo : gDo (ks.zip (bs.map BV.v)) x = ks.zip (bs.map BV.v) := by simp [gDo, h2]
    have hmg := mget_zip h.1.2.1 bs hlb x.key
    cases hh : gHas ks x.key with
    | true =>
      obtain ⟨hp, he⟩ := gPos_has h.1.2.1 hh
      have hpb : gPos ks x.key < bs.length := by omega
      have hga : gAt .nilsl ks (bs.map BV.lv) x.key = bytesL bs[gPos ks x.key].f bs[gPos ks x.key].v := by simp [gAt, hh, hpb, BV.lv]
      rw [dif_pos hh, List.getElem?_eq_getElem hpb] at hmg
      rw [hga]
      simp -implicitDefEqProofs [putAt]
      refine CallL.ret (sameVal_lv true x.is bs[gPos ks x.key].f x.bf _ _ H1 (by have := hv _ (List.getElem_mem hpb); omega)) ?_
      simp -implicitDefEqProofs
      refine Ends.of ⟨?_, ks, bs, h, hdo.symm, hv, by omega⟩
      simp [gSees, h1, hmg]
    | false =>
      have hga : gAt .nilsl ks (bs.map BV.lv) x.key = .nilsl := by simp [gAt, hh]
      rw [dif_neg (by simp [hh])] at hmg
      rw [hga]
      simp -implicitDefEqProofs [putAt]
      refine CallL.arg [] (y := valL false true []) (fun K v hr => R.agg_rel (xs := [.bool false, .nilsl]) (ys := [.bool false, bytesL true []]) rfl (fun i a b v ha hb hr => ?_) hr) ?_
      · match i with
        | 0 => simp at ha hb; subst ha; subst hb; exact hr
        | 1 => simp at ha hb; subst ha; subst hb; exact R.nil_isl true 1 hr
        | i + 2 => simp at ha
      refine CallL.ret (sameVal_lv false x.is true x.bf [] _ H1 (by simp)) ?_
      simp -implicitDefEqProofs
      refine Ends.of ⟨?_, ks, bs, h, hdo.symm, hv, by omega⟩
      simp [gSees, h1, hmg]
  · refine WP.draws tok mixed [(0, []), (2, []), (3, []), (1, [2, 3]), (4, []), (5, [])] [0, 1, 0, 4, 15, 31] 45 [] (by kernel_rfl) ?_
    simp at h2 h1 h3
    have hdo : gDo (ks.zip (bs.map BV.v)) x = ks.zip (bs.map BV.v) := by simp [gDo, h2]
    simp -implicitDefEqProofs
    refine (records_lv ks bs sb H H1 h (by omega) (fun z hz => by have := hv z hz; omega)).mono fun y H' hy => ?_
    obtain ⟨⟨f, out, rfl, ht⟩, rfl⟩ := hy
    simp -implicitDefEqProofs
    have hol : out.length = ks.length := by have := congrArg List.length ht; simp [tell] at this; omega
    refine CallL.ret (equalKVs_lv f x.lf out x.l H' (by omega) (fun z hz => ?_)) ?_
    · have : (z.k, z.v) ∈ ks.zip (bs.map BV.v) := by rw [← ht]; exact List.mem_map.2 ⟨z, hz, rfl⟩
      have := (List.of_mem_zip this).2
      obtain ⟨w, hw, he⟩ := List.mem_map.1 this
      have := hv w hw
      rw [he] at this; omega
    · simp -implicitDefEqProofs
      refine Ends.of ⟨?_, ks, bs, h, hdo.symm, hv, by omega⟩
      simp [gSees, h3, ht]
  · simp at h2 h1 h3
    have hdo : gDo (ks.zip (bs.map BV.v)) x = ks.zip (bs.map BV.v) := by simp [gDo, h2]
    refine Ends.of ⟨?_, ks, bs, h, hdo.symm, hv, by omega⟩
    simp [gSees, h1, h3]
end Go.Lv
/- Maps from whole numbers to truth values; judge.May. -/
namespace Go.Lv
open Go Go.Proofs
set_option maxRecDepth 10000
set_option linter.unusedSimpArgs false
set_option linter.unusedVariables false

/-- A map's rows: key, value, when it was laid. -/
abbrev MB := List (Int × Bool × Nat)
def MB.lo (m : MB) : List (LV × LV × Nat) := m.map fun x => (i64 x.1, .bool x.2.1, x.2.2)
def MB.find (k : Int) : MB → Nat → Option (Nat × Bool)
  | [], _ => none
  | x :: m, i => if x.1 = k then some (i, x.2.1) else MB.find k m (i + 1)
def MB.get (m : MB) (k : Int) : Bool := match MB.find k m 0 with | some (_, b) => b | none => false
theorem MB.findL (k : Int) : ∀ (m : MB) (i : Nat), Lv.findL (.int .i64) (i64 k) m.lo i = some ((MB.find k m i).map fun x => (x.1, LV.bool x.2))
  | [], i => rfl
  | x :: m, i => by
    have ih := MB.findL k m (i + 1)
    unfold MB.lo at ih ⊢
    simp only [List.map_cons, Lv.findL, MB.find]
    by_cases h : x.1 = k
    · simp [keq, h]
    · have h' : ¬ k = x.1 := fun e => h e.symm
      simp [keq, h, h', ih]
/-- One that is there gets another value. -/
def MB.set (k : Int) (v : Bool) : MB → MB
  | [] => []
  | x :: m => if x.1 = k then (x.1, v, x.2.2) :: m else x :: MB.set k v m
theorem MB.find_set (k : Int) (v : Bool) : ∀ (m : MB) (i j : Nat) (b : Bool), MB.find k m i = some (j, b) → ∃ n, j = i + n ∧ m.modify n (fun x => (x.1, v, x.2.2)) = MB.set k v m
  | [], i, j, b, h => by simp [MB.find] at h
  | x :: m, i, j, b, h => by
    simp only [MB.find] at h
    by_cases hx : x.1 = k
    · rw [if_pos hx] at h
      simp at h
      exact ⟨0, by omega, by simp [MB.set, hx]⟩
    · rw [if_neg hx] at h
      obtain ⟨n, h1, h2⟩ := MB.find_set k v m (i + 1) j b h
      exact ⟨n + 1, by omega, by simp [MB.set, hx, h2]⟩
def MB.put (m : MB) (c : Nat) (k : Int) (v : Bool) : MB := match MB.find k m 0 with | none => m ++ [(k, v, c)] | some _ => MB.set k v m
def MB.clk (m : MB) (c : Nat) (k : Int) : Nat := match MB.find k m 0 with | none => c + 1 | some _ => c
theorem mu3_put (m : MB) (c b : Nat) (k : Int) (v : Bool) (H : OHeap) (R1 : LV → OHeap → Prop) :
    mu3 (some ((MB.find k m 0).map fun x => (x.1, LV.bool x.2))) m.lo c b (i64 k) (.bool v) H R1 = R1 .any (setH H b (.map (MB.put m c k v).lo (MB.clk m c k))) := by
  unfold MB.put MB.clk
  cases hf : MB.find k m 0 with
  | none => simp [MB.lo]
  | some x =>
    obtain ⟨j, bb⟩ := x
    obtain ⟨n, h1, h2⟩ := MB.find_set k v m 0 j bb hf
    have hn : j = n := by omega
    subst hn
    simp only [Option.map_some, mu3_some]
    rw [← h2]
    congr 3
    unfold MB.lo
    apply List.ext_getElem?
    intro n
    simp only [List.getElem?_modify, List.getElem?_map]
    cases m[n]? with
    | none => simp
    | some y => by_cases hn : j = n <;> simp [hn]

theorem MB.find_none (k : Int) : ∀ (m : MB) (i : Nat), MB.find k m i = none ↔ k ∉ m.map (·.1)
  | [], i => by simp [MB.find]
  | x :: m, i => by
    simp only [MB.find]
    by_cases hx : x.1 = k
    · simp [hx]
    · rw [if_neg hx, MB.find_none k m (i + 1)]
      have : ¬ k = x.1 := fun e => hx e.symm
      simp [this]
theorem MB.find_append (k : Int) (y : Int × Bool × Nat) : ∀ (m : MB) (i : Nat), MB.find k (m ++ [y]) i = match MB.find k m i with | some z => some z | none => if y.1 = k then some (i + m.length, y.2.1) else none
  | [], i => by simp [MB.find]
  | x :: m, i => by
    simp only [List.cons_append, MB.find]
    by_cases hx : x.1 = k
    · simp [hx]
    · rw [if_neg hx, if_neg hx, MB.find_append k y m (i + 1)]
      simp only [List.length_cons]
      rw [show i + 1 + m.length = i + (m.length + 1) by omega]
theorem MB.find_setE (k : Int) (v : Bool) (j : Int) : ∀ (m : MB) (i : Nat), (MB.find j (MB.set k v m) i).map (·.2) = if j = k then (MB.find j m i).map (fun _ => v) else (MB.find j m i).map (·.2)
  | [], i => by simp [MB.find, MB.set]
  | x :: m, i => by
    have ih := MB.find_setE k v j m (i + 1)
    simp only [MB.set]
    by_cases hx : x.1 = k
    · rw [if_pos hx]
      simp only [MB.find]
      by_cases hj : j = k
      · subst hj; simp [hx]
      · have h1 : ¬ x.1 = j := fun e => hj (by rw [← e, hx])
        simp [hj, h1]
    · rw [if_neg hx]
      simp only [MB.find]
      by_cases hxj : x.1 = j
      · have : ¬ j = k := fun e => hx (by rw [hxj, e])
        simp [hxj, this]
      · simp only [if_neg hxj, ih]
theorem MB.get_eq (m : MB) (k : Int) : MB.get m k = ((MB.find k m 0).map (·.2)).getD false := by
  unfold MB.get; cases MB.find k m 0 <;> rfl
theorem MB.get_put (m : MB) (c : Nat) (k : Int) (v : Bool) (j : Int) : MB.get (MB.put m c k v) j = if j = k then v else MB.get m j := by
  rw [MB.get_eq, MB.get_eq]
  unfold MB.put
  cases hf : MB.find k m 0 with
  | none =>
    simp only []
    rw [MB.find_append]
    by_cases hj : j = k
    · subst hj; simp [hf]
    · have h1 : ¬ k = j := fun e => hj e.symm
      cases MB.find j m 0 <;> simp [hj, h1]
  | some x =>
    simp only []
    rw [MB.find_setE]
    by_cases hj : j = k
    · subst hj; simp [hf]
    · simp [hj]
theorem MB.set_keys (k : Int) (v : Bool) (m : MB) : (MB.set k v m).map (·.1) = m.map (·.1) := by
  induction m with
  | nil => rfl
  | cons x m ih => simp only [MB.set]; split <;> simp [ih]
theorem MB.set_born (k : Int) (v : Bool) (m : MB) : (MB.set k v m).map (·.2.2) = m.map (·.2.2) := by
  induction m with
  | nil => rfl
  | cons x m ih => simp only [MB.set]; split <;> simp [ih]
/-- A map as it may be. -/
structure MB.ok (m : MB) (c : Nat) : Prop where
  keys : (m.map (·.1)).Nodup
  born : (m.map (·.2.2)).Nodup
  old : ∀ x ∈ m, x.2.2 < c
theorem MB.ok.nil : MB.ok [] 0 := ⟨List.nodup_nil, List.nodup_nil, fun x h => by cases h⟩
theorem MB.ok.put {m : MB} {c : Nat} (h : MB.ok m c) (k : Int) (v : Bool) : MB.ok (MB.put m c k v) (MB.clk m c k) := by
  unfold MB.put MB.clk
  cases hf : MB.find k m 0 with
  | none =>
    have hk := (MB.find_none k m 0).1 hf
    refine ⟨?_, ?_, fun x hx => ?_⟩
    · simp only [List.map_append, List.map_cons, List.map_nil]
      rw [List.nodup_append]
      exact ⟨h.keys, by simp, fun a ha b hb => by simp at hb; subst hb; exact fun e => hk (by rw [← e]; exact ha)⟩
    · simp only [List.map_append, List.map_cons, List.map_nil]
      rw [List.nodup_append]
      exact ⟨h.born, by simp, fun a ha b hb => by
        simp at hb; subst hb
        obtain ⟨x, hx, rfl⟩ := List.mem_map.1 ha
        have := h.old x hx; omega⟩
    · show x.2.2 < c + 1
      rcases List.mem_append.1 hx with hx | hx
      · have := h.old x hx; omega
      · simp at hx; subst hx; simp
  | some y =>
    refine ⟨by rw [MB.set_keys]; exact h.keys, by rw [MB.set_born]; exact h.born, fun x hx => ?_⟩
    have : x.2.2 ∈ (MB.set k v m).map (·.2.2) := List.mem_map.2 ⟨x, hx, rfl⟩
    rw [MB.set_born] at this
    obtain ⟨z, hz, he⟩ := List.mem_map.1 this
    have := h.old z hz
    show x.2.2 < c
    omega
theorem MB.put_keys (m : MB) (c : Nat) (k : Int) (v : Bool) (j : Int) : j ∈ (MB.put m c k v).map (·.1) ↔ j = k ∨ j ∈ m.map (·.1) := by
  unfold MB.put
  cases hf : MB.find k m 0 with
  | none => simp only [List.map_append, List.mem_append]; simp; exact Or.comm
  | some x =>
    simp only []
    rw [MB.set_keys]
    have : k ∈ m.map (·.1) := by
      have : ¬ MB.find k m 0 = none := by rw [hf]; simp
      rw [MB.find_none] at this
      exact Classical.not_not.1 this
    exact ⟨.inr, fun h => h.elim (fun e => by rw [e]; exact this) id⟩
theorem lu3_get (m : MB) (k : Int) (ok : Bool) (H : OHeap) (R1 : LV → OHeap → Prop) :
    lu3 (some ((MB.find k m 0).map fun x => (x.1, LV.bool x.2))) ⟨.bool, 1, 1, [.bool false]⟩ ok H R1 = R1 (okL ok (.bool (MB.get m k)) (MB.find k m 0).isSome) H := by
  unfold MB.get
  cases hf : MB.find k m 0 with
  | none => simp only [Option.map_none, Option.isSome_none]; rw [lu3_none _ _ _ _ _ rfl]
  | some x => simp

/-- judge.May. -/
def gEndedIn (l : List Ev) (tx : Int) : Bool := l.any fun x => decide (x.tx = tx) && gEnds x
def gMay : List Ev → List Ev → Bool
  | _, [] => true
  | pre, x :: l => !(decide (x.tx < 1) || decide (x.kind < 1) || decide (5 < x.kind) || gEndedIn pre x.tx) && gMay (pre ++ [x]) l
theorem may_lv (f : Bool) (l : List Ev) (H : OHeap) (hl : l.length < 2 ^ 40) : CallL Try.prog 8 [evsL f l] H fun y H' => y = .bool (gMay [] l) ∧ H' = H := by
  refine CallL.of_vc (n := 1) tok Try.func8 (c := _) rfl (by kernel_rfl) rfl ?_
  simp -implicitDefEqProofs [evsL]
  intro mb hmb
  simp -implicitDefEqProofs
  refine WP.loopG (σ := Nat × MB × Nat) (fun s e B H' => H' = setH H mb (.map s.2.1.lo s.2.2) ∧ s.1 ≤ l.length ∧ e 3 = .mp mb ∧ e 7 = evsL f l ∧ e 8 = i64 l.length ∧ e 9 = i64 s.1 ∧ (∀ j, MB.get s.2.1 j = gEndedIn (l.take s.1) j) ∧ gMay [] l = gMay (l.take s.1) (l.drop s.1)) (fun s => l.length - s.1) (0, [], 0) ?_ ?_
  · simp [evsL, MB.lo, MB.get, MB.find, gEndedIn]
  · rintro ⟨k, m, c⟩ e B H' ⟨rfl, hk, e3, e7, e8, e9, hm, hs⟩
    simp only [] at hk e9 hm hs
    refine vc_sound tok _ _ _ _ _ ?_
    rcases Nat.lt_or_ge k l.length with hlt | hge
    · have hw := wnext hlt (by omega)
      rw [List.drop_eq_getElem_cons hlt, gMay] at hs
      have htk : l.take (k + 1) = l.take k ++ [l[k]] := by rw [List.take_add_one]; simp [hlt]
      simp -implicitDefEqProofs [e3, e7, e8, e9, evsL, hlt, Ev.lv, seg, MB.findL, lu3_get]
      have bad : (!(decide (l[k].tx < 1) || decide (l[k].kind < 1) || decide (5 < l[k].kind) || gEndedIn (l.take k) l[k].tx)) = false → Ends (fun y H' => y = LV.bool (gMay [] l) ∧ H' = H) (LV.bool false) (setH H mb (LO.map m.lo c)) := fun h => by
        rw [h, Bool.false_and] at hs
        exact Ends.wk (Wk.del mb _) (Ends.of ⟨by rw [hs], delH_setH hmb⟩)
      rw [hm]
      refine ⟨fun h1 => bad (by simp [h1]), fun h1 => ⟨fun h2 => bad (by simp [h2]), fun h2 => ⟨fun h3 => bad (by simp [h3]), fun h3 => ⟨fun h4 => bad (by simp [h4]), fun h4 => ?_⟩⟩⟩⟩
      have hgood : (!(decide (l[k].tx < 1) || decide (l[k].kind < 1) || decide (5 < l[k].kind) || gEndedIn (l.take k) l[k].tx)) = true := by rw [h1, h2, h3, h4]; rfl
      rw [hgood, Bool.true_and, ← htk] at hs
      refine WP.draws tok mixed [(0, []), (1, []), (2, []), (3, []), (4, [1, 2]), (5, [])] [0, 0, 2, 0, 8, 31] 15 [] (by kernel_rfl) ?_
      simp -implicitDefEqProofs [e3, e7, e8, e9, evsL, hlt, Ev.lv, seg]
      refine CallL.ret (ends_lv l[k] _) ?_
      simp -implicitDefEqProofs [e3, e7, e8, e9, evsL, hlt, Ev.lv, seg, MB.findL, mu3_put]
      refine Next.of (k + 1, MB.put m c l[k].tx (gEnds l[k]), MB.clk m c l[k].tx) (by simp only []; omega) ?_
      simp [e3, e7, e8, evsL, hw, hs]
      refine ⟨by rw [setH_setH], by omega, fun j => ?_⟩
      rw [MB.get_put, hm, htk]
      unfold gEndedIn at h4 ⊢
      rw [List.any_append]
      by_cases hj : j = l[k].tx
      · subst hj; rw [if_pos rfl, h4]; simp
      · have : ¬ l[k].tx = j := fun e => hj e.symm
        simp [hj, this]
    · have hno : ¬ k < l.length := by omega
      simp -implicitDefEqProofs [e3, e7, e8, e9, evsL, hno]
      rw [List.drop_of_length_le hge, gMay] at hs
      refine Ends.wk (Wk.del mb _) (Ends.of ⟨by rw [hs], delH_setH hmb⟩)
end Go.Lv
/- judge.clashes: the pairs of events that clash, in order. -/
namespace Go.Lv
open Go Go.Proofs
set_option maxRecDepth 10000
set_option linter.unusedSimpArgs false
set_option linter.unusedVariables false

def clashAt (l : List Ev) (i k : Nat) : Bool := match l[i]?, l[k]? with | some a, some b => gClash a b | _, _ => false
def gInner (l : List Ev) (k i : Nat) : List (Nat × Nat) := ((List.range i).filter fun i => clashAt l i k).map fun i => (i, k)
def gPairs (l : List Ev) (n : Nat) : List (Nat × Nat) := (List.range n).flatMap fun k => gInner l k k
theorem gPairs_succ (l : List Ev) (n : Nat) : gPairs l (n + 1) = gPairs l n ++ gInner l n n := by
  unfold gPairs; rw [List.range_succ, List.flatMap_append]; simp
theorem gInner_succ (l : List Ev) (k i : Nat) : gInner l k (i + 1) = gInner l k i ++ (if clashAt l i k = true then [(i, k)] else []) := by
  unfold gInner; rw [List.range_succ, List.filter_append, List.map_append]
  by_cases h : clashAt l i k = true <;> simp [h]
theorem gInner_prefix (l : List Ev) (k : Nat) {i j : Nat} (h : i ≤ j) : gInner l k i <+: gInner l k j := by
  induction j with
  | zero => have : i = 0 := by omega
            subst this; exact List.prefix_refl _
  | succ j ih =>
    rcases Nat.lt_or_ge j i with h' | h'
    · have : i = j + 1 := by omega
      subst this; exact List.prefix_refl _
    · rw [gInner_succ]; exact (ih h').trans (List.prefix_append _ _)
theorem gPairs_prefix (l : List Ev) {i j : Nat} (h : i ≤ j) : gPairs l i <+: gPairs l j := by
  induction j with
  | zero => have : i = 0 := by omega
            subst this; exact List.prefix_refl _
  | succ j ih =>
    rcases Nat.lt_or_ge j i with h' | h'
    · have : i = j + 1 := by omega
      subst this; exact List.prefix_refl _
    · rw [gPairs_succ]; exact (ih h').trans (List.prefix_append _ _)
theorem gPairs_part (l : List Ev) {n k i : Nat} (hk : k < n) (hi : i ≤ k) : gPairs l k ++ gInner l k i <+: gPairs l n := by
  have h1 : gPairs l (k + 1) <+: gPairs l n := gPairs_prefix l (by omega)
  rw [gPairs_succ] at h1
  exact List.IsPrefix.trans ((List.prefix_append_right_inj _).2 (gInner_prefix l k hi)) h1

/-- Some sealed row of these events. -/
def IsEvs (l : List Ev) (x : LV) : Prop := ∃ g, x = evsL g l
/-- What the iterator does. -/
def PairQ (xs : List (Nat × Nat)) (J : List (Nat × Nat) → OHeap → Prop) (Jx : OHeap → Prop) (y : LV) (H' : OHeap) : Prop := J xs H' ∨ Jx H'
theorem clashes1_lv (f : Bool) (l : List Ev) (hl : l.length < 2 ^ 40) (yl : Nat) (J : List (Nat × Nat) → OHeap → Prop) (Jx : OHeap → Prop)
    (hy : ∀ pre i k H', pre ++ [(i, k)] <+: gPairs l l.length → J pre H' → YieldL Try.prog yl [i64 (i : Nat), i64 (k : Nat)] H' fun r H'' => (r = .bool true ∧ J (pre ++ [(i, k)]) H'') ∨ (r = .bool false ∧ Jx H'')) (H : OHeap) (h0 : J [] H) :
    CallL Try.prog 31 [.yld yl, .iptr [evsL f l]] H (PairQ (gPairs l l.length) J Jx) := by
  refine CallL.of_vc (n := 2) tok Try.func31 (c := _) rfl (by kernel_rfl) rfl ?_
  simp -implicitDefEqProofs [evsL]
  refine WP.loopG (σ := Nat) (fun k e B H' => J (gPairs l k) H' ∧ k ≤ l.length ∧ e 0 = .yld yl ∧ e 1 = .iptr [evsL f l] ∧ e 7 = evsL f l ∧ e 8 = i64 l.length ∧ e 9 = i64 k) (fun k => l.length - k) 0 ?_ ?_
  · simp [evsL, gPairs, h0]
  · rintro k e B H' ⟨hJ, hk, e0, e1, e7, e8, e9⟩
    refine vc_sound tok _ _ _ _ _ ?_
    rcases Nat.lt_or_ge k l.length with hlt | hge
    · have hw := wnext hlt (by omega)
      simp -implicitDefEqProofs [e0, e1, e7, e8, e9, evsL, hlt, Ev.lv, seg, hk]
      refine WP.loopG (σ := Nat) (fun i e B H' => J (gPairs l k ++ gInner l k i) H' ∧ i ≤ k ∧ e 0 = .yld yl ∧ e 1 = .iptr [evsL f l] ∧ e 7 = evsL f l ∧ e 8 = i64 l.length ∧ e 9 = i64 k ∧ e 3 = i64 k ∧ IsEvs (l.take k) (e 16) ∧ e 17 = i64 k ∧ e 18 = i64 i ∧ ∃ ver, e 4 = .bp 4 ver 0 ∧ B 4 = (ver, some l[k].lv)) (fun i => k - i) 0 ?_ ?_
      · simp [evsL, gInner, hJ, e0, e1, e7, e8, e9, Ev.lv]
        exact ⟨_, by rw [evsL, List.map_take]⟩
      · rintro i e B H' ⟨hJ, hi, e0, e1, e7, e8, e9, e3, ⟨g, e16⟩, e17, e18, ver, e4, hB⟩
        refine vc_sound tok _ _ _ _ _ ?_
        rcases Nat.lt_or_ge i k with hik | hik
        · have hwi := wnext hik (by omega)
          have hil : i < l.length := by omega
          have hcl : clashAt l i k = gClash l[i] l[k] := by unfold clashAt; rw [List.getElem?_eq_getElem hil, List.getElem?_eq_getElem hlt]
          have hga : (l.take k)[i]? = some l[i] := by rw [List.getElem?_take]; simp [hik, hil]
          have hgb : i < (l.take k).length := by simp; omega
          have hgc : (l.take k)[i] = l[i] := by simp
          simp -implicitDefEqProofs [e0, e1, e7, e8, e9, e3, e16, e17, e18, e4, hB, evsL, hik, hil, Ev.lv, seg, hga]
          refine CallL.ret (clash_lv l[i] l[k] H') ?_
          have hpart := gPairs_part l hlt (i := i + 1) hik
          have hsucc := gInner_succ l k i
          rw [hcl] at hsucc
          cases hc : gClash l[i] l[k] with
          | false =>
            rw [hc] at hsucc
            simp at hsucc
            simp -implicitDefEqProofs [e0, e1, e7, e8, e9, e3, e16, e17, e18, e4, hB, evsL, hik, hil, Ev.lv, seg, hga]
            refine Next.of (i + 1) (by omega) ?_
            simp [e0, e1, e7, e8, e9, e3, e16, e17, evsL, hwi, hsucc, hJ, e4, hB, Ev.lv]
            exact ⟨by omega, _, by rw [evsL, List.map_take]⟩
          | true =>
            rw [hc, if_pos rfl] at hsucc
            simp -implicitDefEqProofs [e0, e1, e7, e8, e9, e3, e16, e17, e18, e4, hB, evsL, hik, hil, Ev.lv, seg, hga]
            rw [hsucc, ← List.append_assoc] at hpart
            refine (hy _ i k H' hpart hJ).mono fun r H'' hr => ?_
            rcases hr with ⟨rfl, hr⟩ | ⟨rfl, hr⟩
            · simp -implicitDefEqProofs [e0, e1, e7, e8, e9, e3, e16, e17, e18, e4, hB, evsL, hik, hil, Ev.lv, seg, hga]
              refine Next.of (i + 1) (by omega) ?_
              rw [List.append_assoc, ← hsucc] at hr
              simp [e0, e1, e7, e8, e9, e3, e16, e17, evsL, hwi, hr, e4, hB, Ev.lv]
              exact ⟨by omega, _, by rw [evsL, List.map_take]⟩
            · simp -implicitDefEqProofs [e0, e1, e7, e8, e9, e3, e16, e17, e18, e4, hB, evsL, hik, hil, Ev.lv, seg, hga]
              exact Ends.of (show PairQ _ J Jx (.tup []) H'' from .inr hr)
        · have hno : ¬ i < k := by omega
          have hik : i = k := by omega
          subst hik
          simp -implicitDefEqProofs [e0, e1, e7, e8, e9, e3, e16, e17, e18, evsL, hno]
          refine Next.of (i + 1) (by omega) ?_
          rw [← gPairs_succ] at hJ
          simp [e0, e1, e7, e8, evsL, hw, hJ]
          omega
    · have hno : ¬ k < l.length := by omega
      simp -implicitDefEqProofs [e0, e1, e7, e8, e9, evsL, hno]
      have : k = l.length := by omega
      subst this
      exact Ends.of (show PairQ _ J Jx (.tup []) H' from .inl hJ)
end Go.Lv
/- judge.Strict. -/
namespace Go.Lv
open Go Go.Proofs
set_option maxRecDepth 10000
set_option linter.unusedSimpArgs false
set_option linter.unusedVariables false

theorem clashes_lv (f : Bool) (l : List Ev) (H : OHeap) : CallL Try.prog 20 [evsL f l] H (FnIs 31 [.iptr [evsL f l]] H) := by
  refine CallL.of_wp (n := 1) tok Try.func20 (c := _) rfl (by kernel_rfl) rfl ?_
  refine WP.cut tok ?_
  simp -implicitDefEqProofs [nobox]
  refine Then.below (Below.ibox (d := 1) (ver := 1) (cs := [evsL f l]) (by simp [nobox])) ?_
  refine Then.go tok ?_
  simp -implicitDefEqProofs [iboxV]
  exact Ends.of ⟨rfl, rfl⟩

theorem ended1_lv (tx : Int) (x : Ev) (H : OHeap) : CallL Try.prog 51 [.agg x.lv, .iptr [i64 tx]] H fun y H' => y = .bool (decide (x.tx = tx) && gEnds x) ∧ H' = H := by
  refine CallL.of_vc (n := 2) tok Try.func51 (c := _) rfl (by kernel_rfl) rfl ?_
  simp -implicitDefEqProofs [Ev.lv]
  refine ⟨fun h => ?_, fun h => Ends.of ⟨by simp [h], rfl⟩⟩
  refine CallL.ret (ends_lv x H) ?_
  simp -implicitDefEqProofs
  exact Ends.of ⟨by simp [h], rfl⟩

/-- What is known of a predicate on events that is handed to the library. -/
def PredE (v : LV) (p : Ev → Bool) : Prop := ∃ g caps, v = .fn g [] caps ∧ caps.all LV.glob = true ∧ ∀ (h : Ev) (H : OHeap), CallL Try.prog g (.agg h.lv :: caps) H fun x H' => x = .bool (p h) ∧ H' = H
def gIdx {α : Type} (p : α → Bool) : Int → List α → Int
  | _, [] => -1
  | k, h :: l => if p h = true then k else gIdx p (k + 1) l
theorem gIdx_any {α : Type} (p : α → Bool) : ∀ (l : List α) (k : Nat), decide (0 ≤ gIdx p k l) = l.any p
  | [], k => by simp [gIdx]
  | h :: l, k => by
    unfold gIdx
    have := gIdx_any p l (k + 1)
    by_cases hp : p h = true
    · simp [hp]
    · simp [hp] at this ⊢; exact this
theorem indexE_lv (v : LV) (p : Ev → Bool) (hp : PredE v p) (f : Bool) (l : List Ev) (H : OHeap) (hl : l.length < 2 ^ 40) :
    CallL Try.prog 80 [evsL f l, v] H fun x H' => x = i64 (gIdx p 0 l) ∧ H' = H := by
  obtain ⟨g, caps, rfl, hgl, hp⟩ := hp
  refine CallL.of_vc (n := 2) tok Try.func80 (c := _) rfl (by kernel_rfl) rfl ?_
  simp -implicitDefEqProofs [evsL]
  refine WP.loopG (σ := Nat) (fun k e B H' => H' = H ∧ k ≤ l.length ∧ e 0 = evsL f l ∧ e 1 = .fn g [] caps ∧ e 7 = i64 l.length ∧ e 8 = i64 k ∧ gIdx p k (l.drop k) = gIdx p 0 l) (fun k => l.length - k) 0 ?_ ?_
  · simp [evsL]
  · rintro k e B H' ⟨rfl, hk, h0, h1, h7, h8, hs⟩
    refine vc_sound tok _ _ _ _ _ ?_
    rcases Nat.lt_or_ge k l.length with hlt | hge
    · rw [List.drop_eq_getElem_cons hlt, gIdx] at hs
      have hw := wnext hlt (by omega)
      simp -implicitDefEqProofs [h0, h1, h7, h8, evsL, hlt, Ev.lv]
      refine ⟨by simpa using hgl, CallL.ret (hp l[k] H') ?_⟩
      cases hpk : p l[k] with
      | true =>
        rw [if_pos hpk] at hs
        simp -implicitDefEqProofs
        exact Ends.of ⟨by rw [hs], rfl⟩
      | false =>
        rw [if_neg (by simp [hpk])] at hs
        simp -implicitDefEqProofs [h8]
        refine Next.of (k + 1) (by omega) ?_
        simp [h0, h1, h7, evsL, hw, hs]
        omega
    · have : ¬ k < l.length := by omega
      have hd : l.drop k = [] := by simp; omega
      rw [hd, gIdx] at hs
      simp -implicitDefEqProofs [h0, h1, h7, h8, evsL, this]
      exact Ends.of ⟨by rw [← hs], rfl⟩
theorem containsE_lv (v : LV) (p : Ev → Bool) (hp : PredE v p) (f : Bool) (l : List Ev) (H : OHeap) (hl : l.length < 2 ^ 40) :
    CallL Try.prog 50 [evsL f l, v] H fun x H' => x = .bool (l.any p) ∧ H' = H := by
  have hp' := hp
  obtain ⟨g, caps, rfl, hgl, _⟩ := hp'
  refine CallL.of_vc (n := 2) tok Try.func50 (c := _) rfl (by kernel_rfl) rfl ?_
  simp -implicitDefEqProofs
  refine CallL.ret (indexE_lv _ p hp f l H hl) ?_
  simp -implicitDefEqProofs
  have := gIdx_any p l 0
  exact Ends.of ⟨by rw [← this]; rfl, rfl⟩
theorem ended_lv (f : Bool) (l : List Ev) (tx : Int) (H : OHeap) (hl : l.length < 2 ^ 40) : CallL Try.prog 28 [evsL f l, i64 tx] H fun y H' => y = .bool (gEndedIn l tx) ∧ H' = H := by
  refine CallL.of_wp (n := 2) tok Try.func28 (c := _) rfl (by kernel_rfl) rfl ?_
  refine WP.cut tok ?_
  simp -implicitDefEqProofs [nobox]
  refine Then.below (Below.ibox (d := 3) (ver := 1) (cs := [i64 tx]) (by simp [nobox])) ?_
  refine Then.go tok ?_
  simp -implicitDefEqProofs [iboxV, evsL]
  refine CallL.ret (containsE_lv _ (fun x => decide (x.tx = tx) && gEnds x) ⟨_, _, rfl, by simp, fun x H => ended1_lv tx x H⟩ f l H hl) ?_
  simp -implicitDefEqProofs
  exact Ends.of ⟨rfl, rfl⟩

def gStrict (l : List Ev) : Bool := gMay [] l && (gPairs l l.length).all fun p => match l[p.1]? with | some a => !(decide (a.kind = 2)) || gEndedIn ((l.take p.2).drop p.1) a.tx | none => true
theorem enters31 : Enters Try.prog 31 := ⟨_, Try.func31, by kernel_rfl, by kernel_rfl⟩
theorem strict_lv (f : Bool) (l : List Ev) (H : OHeap) (hl : l.length < 2 ^ 40) : CallL Try.prog 16 [evsL f l] H fun y H' => y = .bool (gStrict l) ∧ H' = H := by
  refine CallL.of_wp (n := 1) tok Try.func16 (c := _) rfl (by kernel_rfl) rfl ?_
  refine WP.cut tok ?_
  simp -implicitDefEqProofs [nobox]
  refine Then.below (Below.ibox (d := 1) (ver := 1) (cs := [evsL f l]) (by simp [nobox])) ?_
  refine WP.nbox (d := 2) (ver := 1) (cs := [.bool false]) (by simp [nobox]) fun b hb => ?_
  refine WP.cut tok ?_
  simp -implicitDefEqProofs [nobox, nboxV, iboxV]
  refine CallL.ret (may_lv f l _ hl) ?_
  cases hm : gMay [] l with
  | false =>
    simp -implicitDefEqProofs [nobox, nboxV, iboxV, seg]
    refine Ends.wk (Wk.del b _) (Ends.of ⟨by simp [gStrict, hm], ?_⟩)
    first | rw [setH_setH, delH_setH hb] | rw [delH_setH hb]
  | true =>
    simp -implicitDefEqProofs [nobox, nboxV, iboxV]
    refine WP.cut tok ?_
    simp -implicitDefEqProofs [nobox, nboxV, iboxV]
    refine (clashes_lv f l _).mono fun y H' hy => ?_
    obtain ⟨rfl, rfl⟩ := hy
    simp -implicitDefEqProofs [nobox, nboxV, iboxV]
    have good : ∀ pre p, pre ++ [p] <+: gPairs l l.length → ∃ (h1 : p.1 < p.2) (h2 : p.2 < l.length), True := fun pre p hp => by
      have hmem : p ∈ gPairs l l.length := hp.subset (by simp)
      unfold gPairs at hmem
      obtain ⟨k, hk, hpk⟩ := List.mem_flatMap.1 hmem
      unfold gInner at hpk
      obtain ⟨i, hi, rfl⟩ := List.mem_map.1 hpk
      rw [List.mem_filter] at hi
      simp at hk hi
      exact ⟨hi.1, hk, trivial⟩
    have hall : ∀ (p : Nat × Nat) (hp : p ∈ gPairs l l.length), (match l[p.1]? with | some a => !(decide (a.kind = 2)) || gEndedIn ((l.take p.2).drop p.1) a.tx | none => true) = false → gStrict l = false := fun p hp hf => by
      have : ((gPairs l l.length).all fun p => match l[p.1]? with | some a => !(decide (a.kind = 2)) || gEndedIn ((l.take p.2).drop p.1) a.tx | none => true) = false := by
        rw [List.all_eq_false]; exact ⟨p, hp, by rw [hf]; simp⟩
      unfold gStrict; rw [this, Bool.and_false]
    refine WP.rangeFunc (X := Nat × Nat) (f := 31) (lb := [.iptr [evsL f l]]) (by simp) enters31 (fun d => by by_cases h1 : d = 1 <;> by_cases h2 : d = 2 <;> simp [nobox, h1, h2]) (fun p => [i64 (p.1 : Nat), i64 (p.2 : Nat)]) (fun p => rfl)
      (fun pre H' => H' = setH H b (.cells [.bool false] 1) ∧ (pre.all fun p => match l[p.1]? with | some a => !(decide (a.kind = 2)) || gEndedIn ((l.take p.2).drop p.1) a.tx | none => true) = true)
      (fun z H' => z = .ret ∧ H' = setH H b (.cells [.bool false] 1) ∧ gStrict l = false) (fun xs => xs = gPairs l l.length) (fun pre p => pre ++ [p] <+: gPairs l l.length) ?_ ?_ ?_ ?_ ?_
    · exact ⟨rfl, rfl⟩
    · intro yl o J' Jx' hyl hy h0
      refine (clashes1_lv f l hl yl J' Jx' (fun pre i k H' hp hJ => hy pre (i, k) H' hp hJ) _ h0).mono fun y H' hq => ?_
      exact hq.imp (fun hq => ⟨_, rfl, hq⟩) id
    · rintro yl pre ⟨i, k⟩ H' hp ⟨rfl, hpre⟩
      obtain ⟨hik, hkl, _⟩ := good pre (i, k) hp
      simp only [] at hik hkl
      have hil : i < l.length := by omega
      refine vc_sound tok _ _ _ _ _ ?_
      simp -implicitDefEqProofs [nobox, nboxV, iboxV]
      refine (vc_sound tok _ _ _ _ _ ?_ : WP _ _ _ _ _ _ _ _)
      simp -implicitDefEqProofs [nobox, nboxV, iboxV]
      refine WP.draws tok mixed [(0, []), (1, []), (2, []), (3, []), (4, []), (5, []), (6, []), (7, []), (8, []), (9, []), (10, []), (11, []), (12, []), (13, []), (14, []), (15, []), (16, []), (17, []), (18, [])] [0, 0, 3, 7, 15, 31, 63, 127, 127, 127, 1023, 127, 127, 6271, 14463, 30847, 65535, 131071, 262143] 458751 [] (by kernel_rfl) ?_
      have hkl' : k ≤ l.length := by omega
      have hik' : i ≤ k := by omega
      simp -implicitDefEqProofs [evsL, hil, hkl', hik', Ev.lv, seg]
      have hla : l[i]? = some l[i] := List.getElem?_eq_getElem hil
      have hrow : List.drop i (List.take k (List.map Ev.lv l)) = ((l.take k).drop i).map Ev.lv := by rw [List.map_drop, List.map_take]
      rw [hrow]
      refine ⟨fun hk2 => ?_, fun hk2 => ?_⟩
      · refine CallL.ret (ended_lv _ ((l.take k).drop i) l[i].tx _ (by simp; omega)) ?_
        cases he : gEndedIn ((l.take k).drop i) l[i].tx with
        | true =>
          simp -implicitDefEqProofs [evsL, hil, hkl', hik', Ev.lv, seg]
          intro x y hxy
          have := List.all_eq_true.1 hpre (x, y) hxy
          simpa using this
        | false =>
          simp -implicitDefEqProofs [evsL, hil, hkl', hik', Ev.lv, seg]
          exact ⟨by rw [setH_setH], hall (i, k) (hp.subset (by simp)) (by simp only []; rw [hla]; simp only []; rw [hk2, he]; rfl)⟩
      · refine ⟨fun x y hxy => ?_, .inl (by simpa using hk2)⟩
        have := List.all_eq_true.1 hpre (x, y) hxy
        simpa using this
    · rintro xs H' rfl ⟨rfl, hpre⟩
      have hgs : gStrict l = true := by unfold gStrict; rw [hm, hpre]; rfl
      simp
      refine (vc_sound tok _ _ _ _ _ ?_ : WP _ _ _ _ _ _ _ _)
      simp -implicitDefEqProofs [nobox, nboxV, iboxV, seg]
      refine Ends.wk (Wk.del b _) (Ends.of ⟨by rw [hgs], ?_⟩)
      rw [setH_setH, delH_setH hb]
    · rintro z H' hz ⟨rfl, rfl, hgs⟩
      simp -implicitDefEqProofs [nobox, nboxV, iboxV]
      exact Ends.wk (Wk.del b _) (Ends.of ⟨by rw [hgs], delH_setH hb⟩)
end Go.Lv
/- Maps that are owned beside an omap; judge.committed. -/
namespace Go.Lv
open Go Go.Proofs
set_option maxRecDepth 10000
set_option linter.unusedSimpArgs false
set_option linter.unusedVariables false

/-- A transaction, the block of its map, the map. -/
structure Ah where
  k : Int
  b : Nat
  m : MB
  c : Nat
def Ah.lo (x : Ah) : LO := .map x.m.lo x.c
def blocks (S : List Ah) : List Nat := S.map (·.b)
def mapsH (S : List Ah) (H : OHeap) : OHeap := fun b => match S.find? fun e => e.b == b with | some e => some e.lo | none => H b
theorem mapsH_mem {S : List Ah} {H : OHeap} (hn : (blocks S).Nodup) {e : Ah} (he : e ∈ S) : mapsH S H e.b = some e.lo := by
  have : S.find? (fun x => x.b == e.b) = some e := by
    induction S with
    | nil => cases he
    | cons a S ih =>
      have hn' := List.nodup_cons.1 hn
      rcases List.mem_cons.1 he with rfl | he
      · simp
      · have : a.b ≠ e.b := fun h => hn'.1 (by show a.b ∈ S.map (·.b); rw [h]; exact List.mem_map.2 ⟨e, he, rfl⟩)
        have hne : (a.b == e.b) = false := by simpa using this
        rw [List.find?_cons, hne]
        exact ih hn'.2 he
  unfold mapsH; rw [this]
theorem mapsH_not {S : List Ah} {H : OHeap} {b : Nat} (h : b ∉ blocks S) : mapsH S H b = H b := by
  have : S.find? (fun x => x.b == b) = none := by
    rw [List.find?_eq_none]; intro x hx hh
    simp at hh
    exact h (List.mem_map.2 ⟨x, hx, hh⟩)
  unfold mapsH; rw [this]
@[simp] theorem mapsH_nil (H : OHeap) : mapsH [] H = H := rfl
theorem mapsH_ins {A C : List Ah} {e : Ah} {H : OHeap} (hn : (blocks (A ++ e :: C)).Nodup) : mapsH (A ++ e :: C) H = setH (mapsH (A ++ C) H) e.b e.lo := by
  have hsub : (blocks (A ++ C)).Nodup := by
    unfold blocks at hn ⊢
    rw [List.map_append] at hn ⊢
    exact hn.sublist (List.Sublist.append (List.Sublist.refl _) (by simp))
  funext b
  simp only [setH_apply]
  split
  · rename_i hb; subst hb; exact mapsH_mem hn (by simp)
  · rename_i hb
    by_cases hm : b ∈ blocks (A ++ C)
    · obtain ⟨x, hx, rfl⟩ := List.mem_map.1 hm
      rw [mapsH_mem hsub hx, mapsH_mem hn (by rcases List.mem_append.1 hx with h | h <;> simp [h])]
    · rw [mapsH_not hm, mapsH_not]
      intro hh
      obtain ⟨x, hx, rfl⟩ := List.mem_map.1 hh
      rcases List.mem_append.1 hx with h | h
      · exact hm (List.mem_map.2 ⟨x, List.mem_append.2 (.inl h), rfl⟩)
      · rcases List.mem_cons.1 h with rfl | h
        · exact hb rfl
        · exact hm (List.mem_map.2 ⟨x, List.mem_append.2 (.inr h), rfl⟩)

/-- An omap whose values are maps that are owned, too. -/
structure OMs (S : List Ah) (sb : Nat) (H H' : OHeap) : Prop where
  om : OM (S.map (·.k)) (S.map fun e => .mp e.b) sb (mapsH S H) H'
  nodup : (blocks S).Nodup
  free : ∀ e ∈ S, H e.b = none
  ok : ∀ e ∈ S, MB.ok e.m e.c

theorem OMs.sb_none {S : List Ah} {sb : Nat} {H H' : OHeap} (h : OMs S sb H H') : H sb = none := by
  by_cases hm : sb ∈ blocks S
  · obtain ⟨x, hx, rfl⟩ := List.mem_map.1 hm
    exact h.free x hx
  · have := h.om.sb_none; rwa [mapsH_not hm] at this
theorem OMs.toSome {S : List Ah} {sb : Nat} {H H' : OHeap} (h : OMs S sb H H') {b : Nat} {o : LO} (hb : H b = some o) : H' b = some o := by
  refine h.om.toSome ?_
  rw [mapsH_not, hb]
  intro hm
  obtain ⟨x, hx, rfl⟩ := List.mem_map.1 hm
  rw [h.free x hx] at hb; cases hb
theorem OMs.toNone {S : List Ah} {sb : Nat} {H H' : OHeap} (h : OMs S sb H H') {b : Nat} (hb : H' b = none) : H b = none := by
  cases hh : H b with
  | none => rfl
  | some o => rw [h.toSome hh] at hb; cases hb
theorem mapsH_setH {S : List Ah} {H : OHeap} {b : Nat} {o : LO} (h : b ∉ blocks S) : mapsH S (setH H b o) = setH (mapsH S H) b o := by
  funext i
  simp only [setH_apply]
  split
  · rename_i hi; subst hi; rw [mapsH_not h]; simp
  · rename_i hi
    unfold mapsH
    split <;> simp [hi]
theorem OMs.at_map {S : List Ah} {sb : Nat} {H H' : OHeap} (h : OMs S sb H H') {e : Ah} (he : e ∈ S) : H' e.b = some e.lo := h.om.toSome (mapsH_mem h.nodup he)
theorem OMs.not_block {S : List Ah} {sb : Nat} {H H' : OHeap} (h : OMs S sb H H') {b : Nat} (hb : H' b = none) : b ∉ blocks S := fun hm => by
  obtain ⟨x, hx, rfl⟩ := List.mem_map.1 hm
  rw [h.at_map hx] at hb; cases hb
theorem OMs.add {S : List Ah} {sb : Nat} {H H' : OHeap} (h : OMs S sb H H') {b : Nat} (o : LO) (hb : H' b = none) : OMs S sb (setH H b o) (setH H' b o) := by
  have hm := h.not_block hb
  refine ⟨by rw [mapsH_setH hm]; exact h.om.add o hb, h.nodup, fun e he => ?_, h.ok⟩
  have : e.b ≠ b := fun hh => hm (by rw [← hh]; exact List.mem_map.2 ⟨e, he, rfl⟩)
  simp [this, h.free e he]

/-- The committed ones, rising. -/
def commitsOf (l : List Ev) : List Int := (l.filter fun x => decide (x.kind = 4)).map (·.tx)
def insR (k : Int) : List Int → List Int
  | [] => [k]
  | x :: l => if k < x then k :: x :: l else if k = x then x :: l else x :: insR k l
def gTxs (l : List Ev) : List Int := (commitsOf l).foldr insR []
theorem insR_mem (k : Int) (l : List Int) (j : Int) : j ∈ insR k l ↔ j = k ∨ j ∈ l := by
  induction l with
  | nil => simp [insR]
  | cons x l ih =>
    simp only [insR]
    split
    · simp
    · split
      · rename_i h1 h2; subst h2; simp
      · simp [ih]; constructor
        · rintro (h | h | h) <;> simp [h]
        · rintro (h | h | h) <;> simp [h]
theorem insR_rising (k : Int) (l : List Int) (h : Rising l) : Rising (insR k l) := by
  induction l with
  | nil => exact List.pairwise_singleton _ _
  | cons x l ih =>
    obtain ⟨h1, h2⟩ := List.pairwise_cons.1 h
    simp only [insR]
    split
    · rename_i hk
      refine List.pairwise_cons.2 ⟨fun a ha => ?_, h⟩
      rcases List.mem_cons.1 ha with rfl | ha
      · exact hk
      · have := h1 a ha; omega
    · split
      · exact h
      · rename_i hk hk2
        refine List.pairwise_cons.2 ⟨fun a ha => ?_, ih h2⟩
        rcases (insR_mem k l a).1 ha with rfl | ha
        · omega
        · exact h1 a ha
theorem foldr_insR (xs : List Int) : Rising (xs.foldr insR []) ∧ ∀ j, j ∈ xs.foldr insR [] ↔ j ∈ xs := by
  induction xs with
  | nil => exact ⟨List.Pairwise.nil, fun j => by simp⟩
  | cons x xs ih => exact ⟨insR_rising _ _ ih.1, fun j => by simp [insR_mem, ih.2]⟩
theorem gTxs_rising (l : List Ev) : Rising (gTxs l) := (foldr_insR _).1
theorem gTxs_mem (l : List Ev) (j : Int) : j ∈ gTxs l ↔ gCommitted l j = true := by
  unfold gTxs gCommitted
  rw [(foldr_insR _).2]
  unfold commitsOf
  rw [List.any_eq_true]
  constructor
  · intro h
    obtain ⟨x, hx, rfl⟩ := List.mem_map.1 h
    rw [List.mem_filter] at hx
    exact ⟨x, hx.1, by simpa using hx.2⟩
  · rintro ⟨x, hx, hh⟩
    simp at hh
    exact List.mem_map.2 ⟨x, List.mem_filter.2 ⟨hx, by simp [hh.2]⟩, hh.1⟩
/-- Rising lists of the same numbers are one. -/
theorem rising_ext {a b : List Int} (ha : Rising a) (hb : Rising b) (h : ∀ j, j ∈ a ↔ j ∈ b) : a = b := by
  induction a generalizing b with
  | nil => cases b with
    | nil => rfl
    | cons y b => have := (h y).2 (by simp); cases this
  | cons x a ih =>
    cases b with
    | nil => have := (h x).1 (by simp); cases this
    | cons y b =>
      obtain ⟨a1, a2⟩ := List.pairwise_cons.1 ha
      obtain ⟨b1, b2⟩ := List.pairwise_cons.1 hb
      have hxy : x = y := by
        rcases List.mem_cons.1 ((h x).1 (by simp)) with h1 | h1
        · exact h1
        · rcases List.mem_cons.1 ((h y).2 (by simp)) with h2 | h2
          · exact h2.symm
          · have := a1 y h2; have := b1 x h1; omega
      subst hxy
      congr 1
      refine ih a2 b2 fun j => ⟨fun hj => ?_, fun hj => ?_⟩
      · rcases List.mem_cons.1 ((h j).1 (List.mem_cons_of_mem _ hj)) with rfl | h1
        · have := a1 j hj; omega
        · exact h1
      · rcases List.mem_cons.1 ((h j).2 (List.mem_cons_of_mem _ hj)) with rfl | h1
        · have := b1 j hj; omega
        · exact h1

/-- What judge.committed hands back. -/
def CommQ (l : List Ev) (H : OHeap) (y : LV) (H' : OHeap) : Prop := ∃ sb S, y = .ptr sb 0 ∧ OMs S sb H H' ∧ S.map (·.k) = gTxs l ∧ ∀ e ∈ S, e.m = [] ∧ e.c = 0
theorem committedJ_lv (f : Bool) (l : List Ev) (H : OHeap) (hl : l.length < 2 ^ 38) (hmay : gMay [] l = true) : CallL Try.prog 19 [evsL f l] H (CommQ l H) := by
  refine CallL.of_wp (n := 1) tok Try.func19 (c := _) rfl (by kernel_rfl) rfl ?_
  refine WP.cut tok ?_
  simp -implicitDefEqProofs [nobox]
  refine WP.cut tok ?_
  simp -implicitDefEqProofs [nobox]
  refine WP.nbox (d := 7) (ver := 1) (cs := [.nilsl, .nilsl]) (by simp [nobox]) fun sb hsb => ?_
  refine WP.cut tok ?_
  simp -implicitDefEqProofs [nobox, nboxV, evsL]
  refine WP.loopG (σ := Nat × List Ah) (fun s e B H' => OMs s.2 sb H H' ∧ s.1 ≤ l.length ∧ e 3 = .ptr sb 0 ∧ e 8 = evsL f l ∧ e 9 = i64 l.length ∧ e 10 = i64 s.1 ∧ s.2.map (·.k) = gTxs (l.take s.1) ∧ (∀ e ∈ s.2, e.m = [] ∧ e.c = 0) ∧ gMay (l.take s.1) (l.drop s.1) = true) (fun s => l.length - s.1) (0, []) ?_ ?_
  · simp [evsL, gTxs, commitsOf, hmay]
    exact ⟨⟨⟨rfl, List.Pairwise.nil, rfl⟩, .nilsl, .nilsl, H, H, hsb, .inl ⟨rfl, rfl, rfl⟩, .inl ⟨rfl, rfl, rfl⟩, rfl⟩, List.nodup_nil, (fun e he => by cases he), (fun e he => by cases he)⟩
  · rintro ⟨n, S⟩ e B H' ⟨hS, hn, e3, e8, e9, e10, hkeys, hem, hmay⟩
    simp only [] at hS hn e10 hkeys hem hmay
    refine vc_sound tok _ _ _ _ _ ?_
    rcases Nat.lt_or_ge n l.length with hlt | hge
    · have hw := wnext hlt (by omega)
      have htk : l.take (n + 1) = l.take n ++ [l[n]] := by rw [List.take_add_one]; simp [hlt]
      rw [List.drop_eq_getElem_cons hlt, gMay, Bool.and_eq_true, ← htk] at hmay
      obtain ⟨hm1, hmay⟩ := hmay
      have hend : gEndedIn (l.take n) l[n].tx = false := by simp at hm1; exact hm1.2
      simp -implicitDefEqProofs [e3, e8, e9, e10, evsL, hlt, Ev.lv, seg]
      refine ⟨fun hk => ?_, fun hk => ?_⟩
      · have hk : l[n].kind = 4 := by simpa using hk
        intro b hb
        simp -implicitDefEqProofs [e3, e8, e9, e10, evsL, hlt, Ev.lv, seg]
        have hnot : gHas (S.map (·.k)) l[n].tx = false := by
          rw [← Bool.not_eq_true]
          intro hh
          unfold gHas at hh
          rw [List.contains_iff_mem, hkeys, gTxs_mem] at hh
          obtain ⟨x, hx, hh⟩ := List.any_eq_true.1 hh
          simp at hh
          have : gEndedIn (l.take n) l[n].tx = true := List.any_eq_true.2 ⟨x, hx, by simp [gEnds, hh.1, hh.2]⟩
          rw [hend] at this; cases this
        have hbn := hS.not_block hb
        have hlen : S.length ≤ n := by
          have h1 : (gTxs (l.take n)).length ≤ (commitsOf (l.take n)).length := by
            unfold gTxs
            generalize commitsOf (l.take n) = xs
            induction xs with
            | nil => simp
            | cons x xs ih =>
              have : ∀ (k : Int) (ys : List Int), (insR k ys).length ≤ ys.length + 1 := fun k ys => by
                induction ys with
                | nil => simp [insR]
                | cons y ys ih => simp only [insR]; split <;> (try split) <;> simp <;> omega
              have := this x (xs.foldr insR [])
              simp only [List.foldr_cons, List.length_cons]; omega
          have h2 : (commitsOf (l.take n)).length ≤ n := by unfold commitsOf; rw [List.length_map]; exact Nat.le_trans (List.length_filter_le _ _) (by simp; omega)
          have := congrArg List.length hkeys
          simp at this; omega
        refine (setM_lv _ _ sb l[n].tx (.mp b) _ _ (hS.om.add (.map [] 0) hb) (by simp; omega) rfl rfl).mono fun y H3 hy => ?_
        obtain ⟨rfl, hom⟩ := hy
        obtain ⟨S', hS'⟩ : ∃ S' : List Ah, S' = S.take (gPos (S.map (·.k)) l[n].tx) ++ ⟨l[n].tx, b, [], 0⟩ :: S.drop (gPos (S.map (·.k)) l[n].tx) := ⟨_, rfl⟩
        have hk' : gSetK (S.map (·.k)) l[n].tx = S'.map (·.k) := by rw [hS']; simp [gSetK, hnot, List.map_take, List.map_drop]
        have hv' : gSetV (S.map (·.k)) (S.map fun e => LV.mp e.b) l[n].tx (.mp b) = S'.map fun e => LV.mp e.b := by rw [hS']; simp [gSetV, hnot, List.map_take, List.map_drop]
        have hmem : ∀ x, x ∈ S' ↔ x = ⟨l[n].tx, b, [], 0⟩ ∨ x ∈ S := fun x => by
          rw [hS']
          conv => rhs; rw [← List.take_append_drop (gPos (S.map (·.k)) l[n].tx) S]
          simp only [List.mem_append, List.mem_cons]
          constructor
          · rintro (h | h | h) <;> simp [h]
          · rintro (h | h | h) <;> simp [h]
        have hnd : (blocks S').Nodup := by
          rw [hS']
          unfold blocks
          rw [List.map_append, List.map_cons]
          refine (List.perm_middle.nodup_iff).2 ?_
          rw [← List.map_append, List.take_append_drop]
          exact List.nodup_cons.2 ⟨hbn, hS.nodup⟩
        have hmaps : mapsH S' H = setH (mapsH S H) b (.map [] 0) := by
          have := mapsH_ins (A := S.take (gPos (S.map (·.k)) l[n].tx)) (C := S.drop (gPos (S.map (·.k)) l[n].tx)) (e := ⟨l[n].tx, b, [], 0⟩) (H := H) (by rw [← hS']; exact hnd)
          rw [← hS', List.take_append_drop] at this
          rw [this]; rfl
        rw [hk', hv', ← hmaps] at hom
        simp -implicitDefEqProofs [e3, e8, e9, e10, evsL, hlt, Ev.lv, seg]
        refine Next.of (n + 1, S') (by simp only []; omega) ?_
        have hb' : H b = none := hS.toNone hb
        have homs : OMs S' sb H H3 := ⟨hom, hnd, (fun e he => by rcases (hmem e).1 he with rfl | he; exact hb'; exact hS.free e he),
          (fun e he => by rcases (hmem e).1 he with rfl | he; exact MB.ok.nil; exact hS.ok e he)⟩
        have hks : S'.map (·.k) = gTxs (l.take (n + 1)) := by
          refine rising_ext hom.1.2.1 (gTxs_rising _) fun j => ?_
          rw [gTxs_mem, htk]
          have h1 : j ∈ S.map (·.k) ↔ gCommitted (l.take n) j = true := by rw [hkeys, gTxs_mem]
          unfold gCommitted at h1 ⊢
          rw [List.any_append, Bool.or_eq_true, ← h1]
          simp only [List.mem_map, hmem]
          constructor
          · rintro ⟨a, rfl | ha, rfl⟩
            · right; simp [hk]
            · left; exact ⟨a, ha, rfl⟩
          · rintro (⟨a, ha, rfl⟩ | h)
            · exact ⟨a, .inr ha, rfl⟩
            · simp [hk] at h; exact ⟨_, .inl rfl, h⟩
        simp [e3, e8, e9, evsL, hw, homs, hks, hmay]
        refine ⟨by omega, fun e he => ?_⟩
        rcases (hmem e).1 he with rfl | he
        · exact ⟨rfl, rfl⟩
        · exact hem e he
      · have hk : ¬ l[n].kind = 4 := by simpa using hk
        refine Next.of (n + 1, S) (by simp only []; omega) ?_
        have hks : S.map (·.k) = gTxs (l.take (n + 1)) := by
          rw [hkeys, htk]; unfold gTxs commitsOf; rw [List.filter_append]; simp [hk]
        simp [e3, e8, e9, evsL, hw, hS, hks, hmay]
        exact ⟨by omega, hem⟩
    · have hno : ¬ n < l.length := by omega
      simp -implicitDefEqProofs [e3, e8, e9, e10, evsL, hno]
      refine (Then.go tok ?_)
      simp -implicitDefEqProofs [e3]
      rw [List.take_of_length_le hge] at hkeys
      exact Ends.of ⟨sb, S, rfl, hS, hkeys, hem⟩
end Go.Lv
/-
  DERIVED: THE SHELF's CONTRACTS AT THIS DUMP, IN PLAIN WORDS (tools/lay-plain.mjs out of 'YtnmgjclaegpnoaaShx.lean', which tools/lay-shelf.mjs wrote): THE SAME DECLARATIONS UNDER THE SAME NAMES: 'import', 'namespace', 'open', 'def', 'theorem' AND NOTHING ELSE: no command of the shelf's: FOR A HAND-IN. Each laying: the table of numbers ('.._ren') and one theorem, a field a fact of the dump's own or the kernel's comparison; each contract: ONE APPLICATION.
-/
namespace Go.Proofs
open Go.Shelf
def Try.lays189_ren : Go.Shelf.Ren := ⟨fun | 189 => 23 | 125 => 37 | 257 => 36 | 128 => 70 | 129 => 71 | 294 => 61 | 295 => 62 | 296 => 63 | 297 => 64 | 298 => 65 | 299 => 66 | 216 => 67 | 300 => 68 | 301 => 69 | 328 => 86 | 329 => 87 | 330 => 88 | 331 => 89 | 332 => 90 | 215 => 91 | 343 => 99 | n => n, fun | 28 => 38 | 3 => 3 | 46 => 78 | 0 => 0 | 51 => 109 | 53 => 111 | 4 => 4 | 183 => 103 | 182 => 102 | 131 => 73 | 5 => 5 | 9 => 9 | 218 => 122 | 222 => 126 | 228 => 134 | 229 => 135 | n => n, fun | n => n⟩
theorem Try.lays189 : Go.Proofs.Lays.n189 Try.prog Try.lays189_ren := {
  mixed := by kernel_rfl
  f125 := Try.func37.trans (congrArg some (by kernel_rfl))
  f128 := Try.func70.trans (congrArg some (by kernel_rfl))
  f129 := Try.func71.trans (congrArg some (by kernel_rfl))
  f189 := Try.func23.trans (congrArg some (by kernel_rfl))
  f215 := Try.func91.trans (congrArg some (by kernel_rfl))
  f216 := Try.func67.trans (congrArg some (by kernel_rfl))
  f257 := Try.func36.trans (congrArg some (by kernel_rfl))
  f294 := Try.func61.trans (congrArg some (by kernel_rfl))
  f295 := Try.func62.trans (congrArg some (by kernel_rfl))
  f296 := Try.func63.trans (congrArg some (by kernel_rfl))
  f297 := Try.func64.trans (congrArg some (by kernel_rfl))
  f298 := Try.func65.trans (congrArg some (by kernel_rfl))
  f299 := Try.func66.trans (congrArg some (by kernel_rfl))
  f300 := Try.func68.trans (congrArg some (by kernel_rfl))
  f301 := Try.func69.trans (congrArg some (by kernel_rfl))
  f328 := Try.func86.trans (congrArg some (by kernel_rfl))
  f329 := Try.func87.trans (congrArg some (by kernel_rfl))
  f330 := Try.func88.trans (congrArg some (by kernel_rfl))
  f331 := Try.func89.trans (congrArg some (by kernel_rfl))
  f332 := Try.func90.trans (congrArg some (by kernel_rfl))
  f343 := Try.func99.trans (congrArg some (by kernel_rfl))
  t0 := Try.underlying0
  a0 := Try.isAgg0
  z0 := Try.sizeOf0
  v0 := Try.zeroValue0
  t3 := Try.underlying3
  a3 := Try.isAgg3
  z3 := Try.sizeOf3
  v3 := Try.zeroValue3
  t4 := Try.underlying4
  a4 := Try.isAgg4
  z4 := Try.sizeOf4
  v4 := Try.zeroValue4
  t5 := Try.underlying5
  a5 := Try.isAgg5
  z5 := Try.sizeOf5
  v5 := Try.zeroValue5
  t9 := Try.underlying9
  a9 := Try.isAgg9
  z9 := Try.sizeOf9
  v9 := Try.zeroValue9
  t28 := Try.underlying38
  a28 := Try.isAgg38
  z28 := Try.sizeOf38
  v28 := Try.zeroValue38
  t46 := Try.underlying78
  a46 := Try.isAgg78
  z46 := Try.sizeOf78
  v46 := Try.zeroValue78
  t51 := Try.underlying109
  a51 := Try.isAgg109
  z51 := Try.sizeOf109
  v51 := Try.zeroValue109
  t53 := Try.underlying111
  a53 := Try.isAgg111
  z53 := Try.sizeOf111
  v53 := Try.zeroValue111
  t131 := Try.underlying73
  a131 := Try.isAgg73
  z131 := Try.sizeOf73
  v131 := Try.zeroValue73
  t182 := Try.underlying102
  a182 := Try.isAgg102
  z182 := Try.sizeOf102
  v182 := Try.zeroValue102
  t183 := Try.underlying103
  a183 := Try.isAgg103
  z183 := Try.sizeOf103
  v183 := Try.zeroValue103
  t218 := Try.underlying122
  a218 := Try.isAgg122
  z218 := Try.sizeOf122
  v218 := Try.zeroValue122
  t222 := Try.underlying126
  a222 := Try.isAgg126
  z222 := Try.sizeOf126
  v222 := Try.zeroValue126
  t228 := Try.underlying134
  a228 := Try.isAgg134
  z228 := Try.sizeOf134
  v228 := Try.zeroValue134
  t229 := Try.underlying135
  a229 := Try.isAgg135
  z229 := Try.sizeOf135
  v229 := Try.zeroValue135 }
end Go.Proofs
/- slices.Sort at []int, from the shelf's contract. -/
namespace Go.Lv
open Go Go.Proofs
set_option maxRecDepth 10000
set_option linter.unusedSimpArgs false

section
variable {B : Box} {H : OHeap} {K : Know} {jj : Nat → Nat} {w : World}
theorem grow_lt {os : Array Obj} {b : Nat} (h : b < w.heap.size) : (Sort.grow w os).heap[b]? = w.heap[b]? := by
  show (w.heap ++ os)[b]? = _
  rw [Array.getElem?_append_left h]
theorem Good.grow (g : Good K jj B H w) (os : Array Obj) : Good K jj B H (Sort.grow w os) := {
  know b o v h := by rw [World.cell?_of_block (w := w) (grow_lt (g.klt h))]; exact g.know b o v h
  own b o h := (g.own b o h).same (grow_lt (g.own b o h).lt)
  apart := g.apart
  box d ver cs h := (g.box d ver cs h).same (grow_lt (g.box d ver cs h).lt)
  boxH := g.boxH
  boxne := g.boxne }
theorem Fr.grow {D : Nat → Prop} (os : Array Obj) : Fr D w K D (Sort.grow w os) K :=
  ⟨rfl, rfl, rfl, by show w.heap.size ≤ (w.heap ++ os).size; simp, fun b hb _ => grow_lt hb, K.le_refl, fun _ _ h h' => absurd h h', fun _ h => .inl h⟩
end

theorem sort_lv (zs : List Int) (rest : List LV) (b m c : Nat) (H : OHeap) (hH : H b = some (.cells (zs.map i64 ++ rest) m)) (hz : zs.length < 2 ^ 40) :
    CallL Try.prog 23 [.sl b 0 zs.length c] H fun x H' => x = .tup [] ∧ H' = setH H b (.cells ((zs.mergeSort fun x y => decide (x ≤ y)).map i64 ++ rest) m) := by
  refine .inl ⟨⟨_, Try.func23, by kernel_rfl, by kernel_rfl⟩, fun K w vs g hr => ?_⟩
  obtain ⟨hl, hrr⟩ := hr
  obtain ⟨v, rfl⟩ : ∃ v, vs = [v] := List.length_eq_one_iff.1 hl
  have r := hrr 0 _ _ rfl rfl
  cases r
  obtain ⟨arr, T, fz, hb, hsz, hle, hcs, hfz⟩ := g.own b _ hH
  have hlen : zs.length ≤ arr.size := by rw [hsz]; simp at hle; omega
  have hcell : ∀ j, j < zs.length → arr[j]? = some (.int .i64 (zs[j]!)) := fun j hj => by
    obtain ⟨v, h1, _, h3⟩ := hcs j (i64 zs[j]) (by rw [List.getElem?_append_left (by simpa using hj)]; simp [hj])
    rw [h1]; cases h3; simp [hj]
  have hH' : Sort.Holds (Value.int .i64) w b 0 zs.toArray := fun j hj => by
    have hj' : j < zs.length := by simpa using hj
    refine ⟨?_, hfz _⟩
    simp only [World.cell?, hb, Nat.zero_add]
    rw [hcell j hj']; simp [hj']
  have hc := Any.slices_Sort_int Try.lays189 b 0 c zs w hH' (Array.getElem?_eq_some_iff.1 hb).1 (by omega)
  refine Calls.mono hc ?_
  rintro en w' ⟨rfl, n, os, rfl⟩
  have hms : (zs.mergeSort fun x y => decide (x ≤ y)).length = zs.length := List.length_mergeSort _
  generalize (zs.mergeSort fun x y => decide (x ≤ y)) = ys at hms
  have hblk : (Sort.putRow (Value.int .i64) (Sort.ahead w n) b 0 ys.toArray).heap[b]? = some (.cells (Sort.putCells (Value.int .i64) 0 ys.toArray arr) T fz) := by
    show (w.heap.modify b _)[b]? = _
    simp [Array.getElem?_modify, hb, Sort.onCells]
  have hwr : Wrote w b (Sort.putRow (Value.int .i64) (Sort.ahead w n) b 0 ys.toArray) := ⟨rfl, rfl, rfl, by simp [Sort.ahead], fun b' hne => by
    show (w.heap.modify b _)[b']? = _
    simp only [Array.getElem?_modify]
    rw [if_neg (fun x => hne x.symm)]⟩
  have hown : ownObj K (Sort.putRow (Value.int .i64) (Sort.ahead w n) b 0 ys.toArray) b (.cells (ys.map i64 ++ rest) m) := by
    refine ⟨_, T, fz, hblk, by simp [Sort.putCells, hsz], by simp at hle ⊢; omega, fun i x hx => ?_, fun o => by rw [frozen_of_block hb hblk]; exact hfz o⟩
    simp only [Sort.putCells, Array.getElem?_mapIdx, Nat.zero_le, true_and, Nat.zero_add, List.size_toArray]
    rcases Nat.lt_or_ge i ys.length with hi | hi
    · rw [List.getElem?_append_left (by simpa using hi)] at hx
      simp [hi] at hx; subst hx
      have ha : arr[i]? = some arr[i] := Array.getElem?_eq_getElem (by omega)
      refine ⟨.int .i64 ys[i], by rw [ha]; simp [hi], rfl, .int _ _⟩
    · rw [List.getElem?_append_right (by simpa using hi)] at hx
      obtain ⟨v, h1, h2, h3⟩ := hcs i x (by rw [List.getElem?_append_right (by simp; omega)]; simpa [hms] using hx)
      refine ⟨v, ?_, h2, h3⟩
      rw [h1]; simp; intro hh; omega
  obtain ⟨g1, f1⟩ := g.wroteH (by rw [hH]; rfl) hown hwr
  exact ⟨.tuple #[], .tup [], K, _, rfl, g1.grow os, .tup [] [] rfl (fun i x v h => by simp at h), f1.trans (Fr.grow os), rfl, rfl⟩

theorem sortNil_lv (H : OHeap) : CallL Try.prog 23 [.nilsl] H fun x H' => x = .tup [] ∧ H' = H := by
  refine .inl ⟨⟨_, Try.func23, by kernel_rfl, by kernel_rfl⟩, fun K w vs g hr => ?_⟩
  obtain ⟨hl, hrr⟩ := hr
  obtain ⟨v, rfl⟩ : ∃ v, vs = [v] := List.length_eq_one_iff.1 hl
  have r := hrr 0 _ _ rfl rfl
  cases r
  refine Calls.mono (Any.slices_Sort_int_none Try.lays189 none 0 w) ?_
  rintro en w' ⟨rfl, rfl⟩
  exact ⟨.tuple #[], .tup [], K, H, rfl, g, .tup [] [] rfl (fun i x v h => by simp at h), Fr.refl _ _ _, rfl, rfl⟩
end Go.Lv
/- What the walk of judge.Before needs: blocks that are let go, sealing with boxes, maps that turn. -/
namespace Go.Lv
open Go Go.Proofs
set_option maxRecDepth 10000
set_option linter.unusedSimpArgs false
set_option linter.unusedVariables false

section
variable {N : Nat} {e : Env} {B : Box} {H H' : OHeap} {K : Know} {jj : Nat → Nat} {w : World}
/-- All that is there there is here. -/
def subH (H H' : OHeap) : Prop := ∀ b o, H b = some o → H' b = some o
theorem Good.sub (g : Good K jj B H' w) (h : subH H H') : Good K jj B H w ∧ Fr (dom H' B jj) w K (dom H B jj) w K := by
  have hd : ∀ x, dom H B jj x → dom H' B jj x := fun x hx => by
    rcases hx with hx | hx
    · obtain ⟨o, ho⟩ := Option.isSome_iff_exists.1 hx
      exact .inl (by rw [h x o ho]; rfl)
    · exact .inr hx
  refine ⟨⟨g.know, fun b o ho => g.own b o (h b o ho), fun b o hb => g.apart b o (hd b hb), g.box, fun d hdd => ?_, g.boxne⟩, (Fr.refl _ w K).weak hd⟩
  have := g.boxH d hdd
  cases hh : H (jj d) with
  | none => rfl
  | some o => rw [h _ _ hh] at this; cases this
theorem Wk.sub (h : subH H H') (r : LV) : Wk r H' r H := fun K w v g hr => ⟨K, (g.sub h).1, hr, (g.sub h).2⟩
theorem Below.sub (h : subH H H') : Below (N := N) e e B B H' H := fun K jj w tmps g t => ⟨K, jj, (g.sub h).1, t, (g.sub h).2⟩
theorem subH.refl (H : OHeap) : subH H H := fun _ _ h => h
theorem subH.trans {A C D : OHeap} (h : subH A C) (h' : subH C D) : subH A D := fun b o hb => h' b o (h b o hb)
theorem subH.set {b : Nat} {o : LO} (hb : H b = none) : subH H (setH H b o) := fun i o' hi => by
  simp only [setH_apply]; split
  · rename_i hh; subst hh; rw [hb] at hi; cases hi
  · exact hi

/-- The private boxes' cells, in which a row of the call's own is read as sealed. -/
def sealBx (b es : Nat) (cs : List LV) (B : Box) : Box := fun d => ((B d).1, (B d).2.map fun l => l.map (sealV b es cs))
theorem Below.sealBx {b n : Nat} {cs : List LV} (es : Nat) (hH : H b = some (.cells cs n)) : Below (N := N) e (sealE b es cs e) B (Lv.sealBx b es cs B) H (delH H b) := fun K jj w tmps g t => by
  obtain ⟨K', hle, g', f, vs, h1, h2⟩ := sealK g hH
  have hsome : ∀ d, (Lv.sealBx b es cs B d).2.isSome = (B d).2.isSome := fun d => by unfold Lv.sealBx; simp
  have hdom : ∀ x, dom (delH H b) (Lv.sealBx b es cs B) jj x ↔ dom (delH H b) B jj x := fun x => by
    unfold dom; simp only [hsome]
  refine ⟨K', jj, ⟨g'.know, g'.own, fun b' o h => g'.apart b' o ((hdom b').1 h), fun d ver cs' h => ?_, fun d h => g'.boxH d (by rw [← hsome]; exact h), fun d d' h h' => g'.boxne d d' (by rw [← hsome]; exact h) (by rw [← hsome]; exact h')⟩, ⟨t.size, fun i => ?_⟩, f.weak fun x hx => (hdom x).1 hx⟩
  · unfold Lv.sealBx at h
    simp at h
    obtain ⟨hv, l, hl, rfl⟩ := h
    obtain ⟨arr, T, fz, a1, a2, a3, a4, a5⟩ := g'.box d (B d).1 l (by rw [← hl])
    refine ⟨arr, T, fz, a1, by simpa using a2, by simp, fun i x hx => ?_, a5⟩
    simp at hx
    obtain ⟨y, hy, rfl⟩ := hx
    obtain ⟨v, b1, b2, b3⟩ := a4 i y hy
    exact ⟨v, b1, b2, R.sealB h1 h2 b3⟩
  · have h := (t.get i).mono hle
    simp only [sealE]
    cases he : e i with
    | bp d ver off =>
      rw [he] at h
      refine ⟨h.1, fun hv hs => h.2 hv (by rw [← hsome]; exact hs)⟩
    | _ => rw [he] at h; exact (R.sealT h1 h2 (h.r (by simp))).re
end

theorem blocks_inj {S : List Ah} (hn : (blocks S).Nodup) {x y : Ah} (hx : x ∈ S) (hy : y ∈ S) (h : x.b = y.b) : x = y := by
  induction S with
  | nil => cases hx
  | cons a S ih =>
    obtain ⟨h1, h2⟩ := List.nodup_cons.1 hn
    rcases List.mem_cons.1 hx with hx' | hx' <;> rcases List.mem_cons.1 hy with hy' | hy'
    · rw [hx', hy']
    · subst hx'; exact (h1 (List.mem_map.2 ⟨y, hy', h.symm⟩)).elim
    · subst hy'; exact (h1 (List.mem_map.2 ⟨x, hx', h⟩)).elim
    · exact ih h2 hx' hy'
section
variable {P : Program} {ρ : Option Nat} {N : Nat} {e : Env} {B : Box} {H : OHeap}
/-- Less is said of a private box's cells. -/
theorem Below.boxRel {d ver : Nat} {cs cs' : List LV} (hB : B d = (ver, some cs)) (hl : cs.length = cs'.length) (hrel : ∀ (K : Know) (i : Nat) x y v, cs[i]? = some x → cs'[i]? = some y → R K x v → R K y v) :
    Below (N := N) e e B (fun i => if i = d then (ver, some cs') else B i) H H := fun K jj w tmps g t => by
  have hsome : ∀ i, ((fun i => if i = d then (ver, some cs') else B i) i).2.isSome = (B i).2.isSome := fun i => by
    by_cases hi : i = d
    · simp [hi, hB]
    · simp [hi]
  have hver : ∀ i, ((fun i => if i = d then (ver, some cs') else B i) i).1 = (B i).1 := fun i => by
    by_cases hi : i = d
    · simp [hi, hB]
    · simp [hi]
  have hdom : ∀ x, dom H (fun i => if i = d then (ver, some cs') else B i) jj x ↔ dom H B jj x := fun x => by
    unfold dom; simp only [hsome]
  refine ⟨K, jj, ⟨g.know, g.own, fun b' o h => g.apart b' o ((hdom b').1 h), fun i v l h => ?_, fun i h => g.boxH i (by rw [← hsome]; exact h), fun i i' h h' => g.boxne i i' (by rw [← hsome]; exact h) (by rw [← hsome]; exact h')⟩, ⟨t.size, fun i => ?_⟩, (Fr.refl _ w K).weak fun x hx => (hdom x).1 hx⟩
  · by_cases hi : i = d
    · subst hi
      simp at h
      obtain ⟨rfl, rfl⟩ := h
      obtain ⟨arr, T, fz, a1, a2, a3, a4, a5⟩ := g.box i ver cs hB
      refine ⟨arr, T, fz, a1, by rw [a2, hl], by rw [← hl, ← a2]; omega, fun j x hx => ?_, a5⟩
      have hj : j < cs.length := by rw [hl]; exact (List.getElem?_eq_some_iff.1 hx).1
      obtain ⟨v, b1, b2, b3⟩ := a4 j cs[j] (List.getElem?_eq_getElem hj)
      exact ⟨v, b1, b2, hrel K j cs[j] x v (List.getElem?_eq_getElem hj) hx b3⟩
    · simp [hi] at h
      exact g.box i v l h
  · have h := t.get i
    cases he : e i with
    | bp d' ver' off =>
      rw [he] at h
      exact ⟨by rw [hver]; exact h.1, fun hv hs => h.2 (by rw [hv, hver]) (by rw [← hsome]; exact hs)⟩
    | _ => rw [he] at h; exact (h.r (by simp)).re
/-- By way of something that is known. -/
theorem WP.via {c : Code} {Q : Post} (S : Env → Box → OHeap → Prop) (h : ∃ e' B' H', Below (N := N) e e' B B' H H' ∧ S e' B' H') (k : ∀ e' B' H', S e' B' H' → WP P ρ N c Q e' B' H') : WP P ρ N c Q e B H :=
  let ⟨e', B', H', hb, hs⟩ := h
  WP.below hb (k e' B' H' hs)
end

theorem OutV.append {ys : List LV} {H H' : OHeap} {x z : LV} (h : OutV ys H x H') (hl : ys.length < 2 ^ 40) (h1 : ys.all LV.one = true) (hz : z.one = true) {Q : LV → OHeap → Prop} (hq : ∀ y H'', OutV (ys ++ [z]) H y H'' → Q y H'') : appL H' 1 8 x (.isl true 1 [[z]]) Q := by
  rcases h with ⟨rfl, rfl, rfl⟩ | ⟨b, c, rest, hb, hc, rfl, rfl⟩
  · simp only [appL, srcL, if_true]
    refine ⟨by simp [hz], fun h0 => by simp at h0, fun _ => ⟨by unfold room; simp, fun b c hb hc => hq _ _ (.inr ⟨b, c, [], hb, by simpa using hc, by simp, by simp⟩)⟩⟩
  · simp only [appL, srcL, if_true, List.flatten_cons, List.flatten_nil, List.append_nil, List.all_cons, hz, List.all_nil, Bool.and_true, true_and, setH_apply, List.length_cons, List.length_nil, Nat.zero_add, Nat.mul_one, List.drop_zero]
    have e1 : (ys ++ rest).take ys.length = ys := List.take_left' rfl
    refine ⟨⟨by simp, by omega, by rw [e1]; exact h1⟩, fun hroom => ?_, fun hgrow => ⟨by unfold room; omega, fun b' c' hb' hc' => ?_⟩⟩
    · refine hq _ _ (.inr ⟨b, c, rest.drop 1, hb, by simpa using hroom, by simp, ?_⟩)
      rw [setH_setH]
      congr 2
      unfold seg
      rw [e1]
      simp [List.drop_append, List.drop_of_length_le (show ys.length ≤ ys.length + 1 by omega)]
    · have hne' : b' ≠ b := fun h => by subst h; simp at hb'
      refine hq _ _ (.inr ⟨b', c', [], by simpa [hne'] using hb', by simpa using hc', by simp, ?_⟩)
      rw [delH_setH hb, e1]
      simp

/-- One map turns. -/
def turnAt (b : Nat) (m : MB) (c : Nat) (x : Ah) : Ah := if x.b = b then { x with m := m, c := c } else x
theorem turnAt_b (b : Nat) (m : MB) (c : Nat) (x : Ah) : (turnAt b m c x).b = x.b := by unfold turnAt; split <;> rfl
theorem turnAt_k (b : Nat) (m : MB) (c : Nat) (x : Ah) : (turnAt b m c x).k = x.k := by unfold turnAt; split <;> rfl
theorem blocks_turn (S : List Ah) (b : Nat) (m : MB) (c : Nat) : blocks (S.map (turnAt b m c)) = blocks S := by
  unfold blocks; rw [List.map_map]; exact List.map_congr_left fun x _ => turnAt_b b m c x
theorem mapsH_turn {S : List Ah} {H : OHeap} (hn : (blocks S).Nodup) {e : Ah} (he : e ∈ S) (m : MB) (c : Nat) : mapsH (S.map (turnAt e.b m c)) H = setH (mapsH S H) e.b (.map m.lo c) := by
  have hn' : (blocks (S.map (turnAt e.b m c))).Nodup := by rw [blocks_turn]; exact hn
  funext i
  simp only [setH_apply]
  split
  · rename_i hi; subst hi
    have := mapsH_mem (H := H) hn' (List.mem_map.2 ⟨e, he, rfl⟩ : turnAt e.b m c e ∈ S.map (turnAt e.b m c))
    rw [turnAt_b] at this
    rw [this]
    unfold turnAt; rw [if_pos rfl]; rfl
  · rename_i hi
    by_cases hm : i ∈ blocks S
    · obtain ⟨x, hx, rfl⟩ := List.mem_map.1 hm
      have := mapsH_mem (H := H) hn' (List.mem_map.2 ⟨x, hx, rfl⟩ : turnAt e.b m c x ∈ S.map (turnAt e.b m c))
      rw [turnAt_b] at this
      rw [this, mapsH_mem hn hx]
      unfold turnAt; rw [if_neg hi]
    · rw [mapsH_not hm, mapsH_not (by rw [blocks_turn]; exact hm)]
theorem OMs.turn {S : List Ah} {sb : Nat} {H H' : OHeap} (h : OMs S sb H H') {e : Ah} (he : e ∈ S) (k : Int) (v : Bool) :
    OMs (S.map (turnAt e.b (MB.put e.m e.c k v) (MB.clk e.m e.c k))) sb H (setH H' e.b (.map (MB.put e.m e.c k v).lo (MB.clk e.m e.c k))) := by
  have hk : ∀ m c, (S.map (turnAt e.b m c)).map (·.k) = S.map (·.k) := fun m c => by rw [List.map_map]; exact List.map_congr_left fun x _ => turnAt_k _ _ _ x
  have hb : ∀ m c, (S.map (turnAt e.b m c)).map (fun x => LV.mp x.b) = S.map fun x => LV.mp x.b := fun m c => by
    rw [List.map_map]; exact List.map_congr_left fun x _ => by show LV.mp (turnAt _ _ _ x).b = _; rw [turnAt_b]
  refine ⟨?_, by rw [blocks_turn]; exact h.nodup, fun x hx => ?_, fun x hx => ?_⟩
  · rw [hk, hb, mapsH_turn h.nodup he]
    exact h.om.upd _ (by rw [mapsH_mem h.nodup he]; rfl)
  · obtain ⟨y, hy, rfl⟩ := List.mem_map.1 hx
    rw [turnAt_b]; exact h.free y hy
  · obtain ⟨y, hy, rfl⟩ := List.mem_map.1 hx
    unfold turnAt
    split
    · exact (h.ok e he).put k v
    · exact h.ok y hy

/-- What Get tells of it. -/
theorem OMs.get {S : List Ah} {sb : Nat} {H H' : OHeap} (h : OMs S sb H H') (k : Int) : (gHas (S.map (·.k)) k = false ∧ gAt .nilm (S.map (·.k)) (S.map fun e => .mp e.b) k = .nilm ∧ ∀ e ∈ S, e.k ≠ k) ∨
    (gHas (S.map (·.k)) k = true ∧ ∃ e ∈ S, e.k = k ∧ gAt .nilm (S.map (·.k)) (S.map fun e => .mp e.b) k = .mp e.b) := by
  cases hh : gHas (S.map (·.k)) k with
  | false =>
    refine .inl ⟨rfl, by simp [gAt, hh], fun e he hk => ?_⟩
    have : gHas (S.map (·.k)) k = true := by unfold gHas; rw [List.contains_iff_mem, ← hk]; exact List.mem_map.2 ⟨e, he, rfl⟩
    rw [hh] at this; cases this
  | true =>
    obtain ⟨hp, he⟩ := gPos_has h.om.1.2.1 hh
    have hp' : gPos (S.map (·.k)) k < S.length := by simpa using hp
    refine .inr ⟨rfl, S[gPos (S.map (·.k)) k], List.getElem_mem _, by simpa using he, ?_⟩
    simp [gAt, hh, hp']
theorem OMs.key_inj {S : List Ah} {sb : Nat} {H H' : OHeap} (h : OMs S sb H H') {x y : Ah} (hx : x ∈ S) (hy : y ∈ S) (hk : x.k = y.k) : x = y := by
  obtain ⟨i, hi, rfl⟩ := List.mem_iff_getElem.1 hx
  obtain ⟨j, hj, rfl⟩ := List.mem_iff_getElem.1 hy
  have hat := List.pairwise_iff_getElem.1 h.om.1.2.1
  rcases Nat.lt_trichotomy i j with h1 | h1 | h1
  · have := hat i j (by simpa using hi) (by simpa using hj) h1; simp at this; omega
  · subst h1; rfl
  · have := hat j i (by simpa using hj) (by simpa using hi) h1; simp at this; omega

/-- Who is ahead of whom. -/
def txAt (l : List Ev) (i : Nat) : Int := match l[i]? with | some x => x.tx | none => 0
def gEdges (l : List Ev) (ps : List (Nat × Nat)) (j tx : Int) : Bool := ps.any fun p => decide (txAt l p.1 = j) && decide (txAt l p.2 = tx)
/-- The maps behind these pairs. -/
structure Behind (l : List Ev) (ps : List (Nat × Nat)) (S : List Ah) : Prop where
  keys : S.map (·.k) = gTxs l
  ahead : ∀ e ∈ S, ∀ j, j ∈ e.m.map (·.1) ↔ j ∈ gTxs l ∧ gEdges l ps j e.k = true
theorem Behind.skip {l : List Ev} {ps : List (Nat × Nat)} {S : List Ah} (h : Behind l ps S) {p : Nat × Nat} (hp : ¬ (txAt l p.1 ∈ gTxs l ∧ txAt l p.2 ∈ gTxs l)) : Behind l (ps ++ [p]) S := by
  refine ⟨h.keys, fun e he j => ?_⟩
  rw [h.ahead e he j]
  have hek : e.k ∈ gTxs l := by rw [← h.keys]; exact List.mem_map.2 ⟨e, he, rfl⟩
  unfold gEdges
  rw [List.any_append]
  constructor
  · rintro ⟨h1, h2⟩; exact ⟨h1, by rw [h2, Bool.true_or]⟩
  · rintro ⟨h1, h2⟩
    refine ⟨h1, ?_⟩
    rw [Bool.or_eq_true] at h2
    rcases h2 with h2 | h2
    · exact h2
    · simp at h2
      exact absurd ⟨by rw [h2.1]; exact h1, by rw [h2.2]; exact hek⟩ hp
theorem Behind.put {l : List Ev} {ps : List (Nat × Nat)} {S : List Ah} {sb : Nat} {H H' : OHeap} (hS : OMs S sb H H') (h : Behind l ps S) {p : Nat × Nat} {e : Ah} (he : e ∈ S) (hk : e.k = txAt l p.2) (hj : txAt l p.1 ∈ gTxs l) (v : Bool) :
    Behind l (ps ++ [p]) (S.map (turnAt e.b (MB.put e.m e.c (txAt l p.1) v) (MB.clk e.m e.c (txAt l p.1)))) := by
  refine ⟨by rw [← h.keys, List.map_map]; exact List.map_congr_left fun x _ => turnAt_k _ _ _ x, fun x hx j => ?_⟩
  obtain ⟨y, hy, rfl⟩ := List.mem_map.1 hx
  rw [turnAt_k]
  unfold gEdges
  rw [List.any_append, Bool.or_eq_true]
  by_cases hyb : y.b = e.b
  · have hye : y = e := blocks_inj hS.nodup hy he hyb
    subst hye
    have : (turnAt y.b (MB.put y.m y.c (txAt l p.1) v) (MB.clk y.m y.c (txAt l p.1)) y).m = MB.put y.m y.c (txAt l p.1) v := by unfold turnAt; rw [if_pos rfl]
    rw [this, MB.put_keys, h.ahead y hy j]
    unfold gEdges
    simp only [List.any_cons, List.any_nil, Bool.or_false, Bool.and_eq_true, decide_eq_true_eq]
    constructor
    · rintro (rfl | ⟨h1, h2⟩)
      · exact ⟨hj, .inr ⟨rfl, hk.symm⟩⟩
      · exact ⟨h1, .inl h2⟩
    · rintro ⟨h1, h2 | h2⟩
      · exact .inr ⟨h1, h2⟩
      · exact .inl h2.1.symm
  · have : turnAt e.b (MB.put e.m e.c (txAt l p.1) v) (MB.clk e.m e.c (txAt l p.1)) y = y := by unfold turnAt; rw [if_neg hyb]
    rw [this, h.ahead y hy j]
    have hyk : y.k ≠ e.k := fun hh => hyb (by rw [hS.key_inj hy he hh])
    unfold gEdges
    simp only [List.any_cons, List.any_nil, Bool.or_false, Bool.and_eq_true, decide_eq_true_eq]
    constructor
    · rintro ⟨h1, h2⟩; exact ⟨h1, .inl h2⟩
    · rintro ⟨h1, h2 | h2⟩
      · exact ⟨h1, h2⟩
      · exact absurd (by rw [hk, h2.2]) hyk
end Go.Lv
/- judge.Before. -/
namespace Go.Lv
open Go Go.Proofs
set_option maxRecDepth 10000
set_option linter.unusedSimpArgs false
set_option linter.unusedVariables false

def intsL (f : Bool) (l : List Int) : LV := rowL f (l.map i64)
@[simp] theorem glob_intsL (f : Bool) (b : List Int) : (intsL f b).glob = true := rfl
@[simp] theorem one_intsL (f : Bool) (b : List Int) : (intsL f b).one = true := rfl
@[simp] theorem lcells_intsL (f : Bool) (b : List Int) : lcells (intsL f b) = some [intsL f b] := rfl
/-- Who waits for whom. -/
structure Wt where
  tx : Int
  f : Bool
  fr : List Int
def Wt.lv (x : Wt) : List LV := [i64 x.tx, intsL x.f x.fr]
def waitsL (f : Bool) (l : List Wt) : LV := .isl f 2 (l.map Wt.lv)
@[simp] theorem glob_waitsL (f : Bool) (b : List Wt) : (waitsL f b).glob = true := rfl
@[simp] theorem one_waitsL (f : Bool) (b : List Wt) : (waitsL f b).one = true := rfl
@[simp] theorem lcells_waitsL (f : Bool) (b : List Wt) : lcells (waitsL f b) = some [waitsL f b] := rfl
def wtell (l : List Wt) : List (Int × List Int) := l.map fun x => (x.tx, x.fr)
theorem wt_rows (l : List Wt) : RowsOk 2 (l.map Wt.lv) := ⟨fun r h => by obtain ⟨x, _, rfl⟩ := List.mem_map.1 h; rfl, by
  rw [List.all_eq_true]; intro x hx
  obtain ⟨y, hy, hxy⟩ := List.mem_flatten.1 hx
  obtain ⟨h, _, rfl⟩ := List.mem_map.1 hy
  simp [Wt.lv] at hxy
  rcases hxy with rfl | rfl <;> rfl⟩
/-- Waits, in some form. -/
def SealW (t : List (Int × List Int)) (H : OHeap) (x : LV) (H' : OHeap) : Prop := (∃ f l, x = waitsL f l ∧ wtell l = t) ∧ H' = H
def gAhead (l : List Ev) (tx : Int) : List Int := (gTxs l).filter fun j => gEdges l (gPairs l l.length) j tx
def gBefore (l : List Ev) : List (Int × List Int) := if gMay [] l = true then (gTxs l).map fun tx => (tx, gAhead l tx) else []

theorem Ends.shrinkW {t : List (Int × List Int)} {H H' H1 : OHeap} {r : LV} (hs : subH H H') (h : Ends (SealW t H') r H1) : Ends (SealW t H) r H1 := by
  obtain ⟨r', H2, hw, h1, rfl⟩ := h
  exact ⟨r', H, hw.trans (Wk.sub hs r'), h1, rfl⟩
/-- The omap that Before holds, behind these pairs. -/
def BefJ (l : List Ev) (sb : Nat) (H : OHeap) (ps : List (Nat × Nat)) (H' : OHeap) : Prop := ∃ S, OMs S sb H H' ∧ Behind l ps S
/-- The lists that are built, behind so many. -/
def OutJ (t : List (Int × List Int)) (b : Nat) (H H' : OHeap) : Prop := ∃ x l G, wtell l = t ∧ OutR 2 (l.map Wt.lv) H x G ∧ G b = none ∧ H' = setH G b (.cells [x] 1)
theorem enters34 : Enters Try.prog 34 := ⟨_, Try.func34, by kernel_rfl, by kernel_rfl⟩

theorem pairs_good (l : List Ev) (pre : List (Nat × Nat)) (p : Nat × Nat) (hp : pre ++ [p] <+: gPairs l l.length) : p.1 < p.2 ∧ p.2 < l.length := by
  have hmem : p ∈ gPairs l l.length := hp.subset (by simp)
  unfold gPairs at hmem
  obtain ⟨k, hk, hpk⟩ := List.mem_flatMap.1 hmem
  unfold gInner at hpk
  obtain ⟨i, hi, rfl⟩ := List.mem_map.1 hpk
  rw [List.mem_filter] at hi
  simp at hk hi
  exact ⟨hi.1, hk⟩
/-- The row that is built of a map's keys, while the map is walked. -/
structure ForJ (m : MB) (b r ob c : Nat) (x : LV) (G : OHeap) (k : Int) (zs : MB) (e : Env) (B : Box) (Hc : OHeap) : Prop where
  sub : ∀ z ∈ zs, z ∈ m
  nodup : (zs.map (·.2.2)).Nodup
  e10 : e 10 = .ptr ob 0
  e61 : e 61 = .ptr r 0
  row : ∃ y ver, OutV (zs.map fun z => i64 z.1) (setH (setH G ob (.cells [x] 1)) r (.iter b c (zs.map (·.2.2)) c)) y Hc ∧ e 13 = .bp 13 ver 0 ∧ B 13 = (ver, some [i64 k, y])
/-- .. and behind it. -/
structure ForD (ob : Nat) (x : LV) (G : OHeap) (k : Int) (fr : List Int) (e : Env) (B : Box) (Hc : OHeap) : Prop where
  e10 : e 10 = .ptr ob 0
  box : ∃ f ver, e 13 = .bp 13 ver 0 ∧ B 13 = (ver, some [i64 k, intsL f fr])
  heap : Hc = setH G ob (.cells [x] 1)
theorem born_at {m : MB} (hn : (m.map (·.2.2)).Nodup) {z : Int × Bool × Nat} (hz : z ∈ m) : m.lo.find? (fun x => x.2.2 == z.2.2) = some (i64 z.1, .bool z.2.1, z.2.2) := by
  induction m with
  | nil => cases hz
  | cons a m ih =>
    obtain ⟨h1, h2⟩ := List.nodup_cons.1 hn
    unfold MB.lo at ih ⊢
    rcases List.mem_cons.1 hz with rfl | hz
    · simp
    · have hne : (a.2.2 == z.2.2) = false := by
        have : a.2.2 ≠ z.2.2 := fun h => h1 (List.mem_map.2 ⟨z, hz, h.symm⟩)
        simpa using this
      rw [List.map_cons, List.find?_cons]
      simp only [hne]
      exact ih h2 hz
theorem sort_set {xs ys : List Int} (hn : xs.Nodup) (hy : Rising ys) (h : ∀ j, j ∈ xs ↔ j ∈ ys) : (xs.mergeSort fun x y => decide (x ≤ y)) = ys := by
  have hs : (xs.mergeSort fun x y => decide (x ≤ y)).Pairwise (· ≤ ·) := by
    have := List.pairwise_mergeSort (le := fun (x y : Int) => decide (x ≤ y)) (by intro a b c; simp; omega) (by intro a b; simp; omega) xs
    simpa using this
  have hp := List.mergeSort_perm xs (fun x y => decide (x ≤ y))
  have hnd : (xs.mergeSort fun x y => decide (x ≤ y)).Nodup := hp.nodup_iff.2 hn
  refine rising_ext ?_ hy fun j => by rw [hp.mem_iff, h]
  generalize (xs.mergeSort fun x y => decide (x ≤ y)) = zs at hs hnd
  induction zs with
  | nil => exact List.Pairwise.nil
  | cons a zs ih =>
    obtain ⟨a1, a2⟩ := List.pairwise_cons.1 hs
    obtain ⟨b1, b2⟩ := List.nodup_cons.1 hnd
    refine List.pairwise_cons.2 ⟨fun z hz => ?_, ih a2 b2⟩
    have := a1 z hz
    have : a ≠ z := fun h => b1 (by rw [h]; exact hz)
    omega
theorem nodup_map_of {m zs : MB} (hk : (m.map (·.1)).Nodup) (hb : (zs.map (·.2.2)).Nodup) (hs : ∀ z ∈ zs, z ∈ m) : (zs.map (·.1)).Nodup := by
  have inj : ∀ {m : MB}, (m.map (·.1)).Nodup → ∀ a ∈ m, ∀ b ∈ m, a.1 = b.1 → a = b := by
    intro m hk a ha b hb h
    induction m with
    | nil => cases ha
    | cons x m ih =>
      obtain ⟨h1, h2⟩ := List.nodup_cons.1 hk
      rcases List.mem_cons.1 ha with ha' | ha' <;> rcases List.mem_cons.1 hb with hb' | hb'
      · rw [ha', hb']
      · subst ha'; exact (h1 (List.mem_map.2 ⟨b, hb', h.symm⟩)).elim
      · subst hb'; exact (h1 (List.mem_map.2 ⟨a, ha', h⟩)).elim
      · exact ih h2 ha' hb'
  induction zs with
  | nil => exact List.nodup_nil
  | cons z zs ih =>
    obtain ⟨h1, h2⟩ := List.nodup_cons.1 hb
    refine List.nodup_cons.2 ⟨fun hm => ?_, ih h2 fun z hz => hs z (List.mem_cons_of_mem _ hz)⟩
    obtain ⟨y, hy, he⟩ := List.mem_map.1 hm
    have : y = z := inj hk y (hs y (List.mem_cons_of_mem _ hy)) z (hs z (by simp)) he
    subst this
    exact h1 (List.mem_map.2 ⟨y, hy, rfl⟩)

theorem nodup_sub_len : ∀ {xs ys : List Int}, xs.Nodup → (∀ a ∈ xs, a ∈ ys) → xs.length ≤ ys.length
  | [], ys, _, _ => by simp
  | a :: xs, ys, hn, h => by
    obtain ⟨h1, h2⟩ := List.nodup_cons.1 hn
    have ha : a ∈ ys := h a (by simp)
    have := nodup_sub_len (xs := xs) (ys := ys.erase a) h2 fun b hb => by
      have hba : b ≠ a := fun e => h1 (by rw [← e]; exact hb)
      exact (List.mem_erase_of_ne hba).2 (h b (List.mem_cons_of_mem _ hb))
    rw [List.length_erase_of_mem ha] at this
    have hpos : 0 < ys.length := List.length_pos_of_mem ha
    simp only [List.length_cons]; omega
theorem filter_new {m zs : MB} {z : Int × Bool × Nat} (hz : z ∈ m) (hn : z.2.2 ∉ zs.map (·.2.2)) : (m.filter fun w => !decide (w.2.2 ∈ (zs ++ [z]).map (·.2.2))).length < (m.filter fun w => !decide (w.2.2 ∈ zs.map (·.2.2))).length := by
  have e1 : (m.filter fun w => !decide (w.2.2 ∈ (zs ++ [z]).map (·.2.2))) = (m.filter fun w => !decide (w.2.2 ∈ zs.map (·.2.2))).filter fun w => !decide (w.2.2 = z.2.2) := by
    rw [List.filter_filter]
    apply List.filter_congr
    intro w _
    rw [List.map_append, List.map_cons, List.map_nil]
    by_cases h1 : w.2.2 ∈ zs.map (·.2.2) <;> by_cases h2 : w.2.2 = z.2.2 <;> simp [h1, h2]
  rw [e1, List.length_filter_lt_length_iff_exists]
  exact ⟨z, List.mem_filter.2 ⟨hz, by simpa using hn⟩, by simp⟩

theorem gTxs_len (l : List Ev) : (gTxs l).length ≤ l.length := by
  have h1 : (gTxs l).length ≤ (commitsOf l).length := by
    unfold gTxs
    generalize commitsOf l = xs
    induction xs with
    | nil => simp
    | cons x xs ih =>
      have : ∀ (k : Int) (ys : List Int), (insR k ys).length ≤ ys.length + 1 := fun k ys => by
        induction ys with
        | nil => simp [insR]
        | cons y ys ih => simp only [insR]; split <;> (try split) <;> simp <;> omega
      have := this x (xs.foldr insR [])
      simp only [List.foldr_cons, List.length_cons]; omega
  have h2 : (commitsOf l).length ≤ l.length := by unfold commitsOf; rw [List.length_map]; exact List.length_filter_le _ _
  omega

theorem before_lv (f : Bool) (l : List Ev) (H : OHeap) (hl : l.length < 2 ^ 37) : CallL Try.prog 11 [evsL f l] H (SealW (gBefore l) H) := by
  refine CallL.of_wp (n := 1) tok Try.func11 (c := _) rfl (by kernel_rfl) rfl ?_
  refine WP.cut tok ?_
  simp -implicitDefEqProofs [nobox]
  refine Then.below (Below.ibox (d := 1) (ver := 1) (cs := [evsL f l]) (by simp [nobox])) ?_
  refine WP.cut tok ?_
  simp -implicitDefEqProofs [nobox, iboxV]
  refine CallL.ret (may_lv f l _ (by omega)) ?_
  cases hm : gMay [] l with
  | false =>
    simp -implicitDefEqProofs [nobox, iboxV]
    refine Ends.wk (Wk.nilsl true 2) (Ends.of ⟨⟨true, [], rfl, ?_⟩, rfl⟩)
    simp [gBefore, hm, wtell]
  | true =>
    simp -implicitDefEqProofs [nobox, iboxV]
    refine WP.cut tok ?_
    simp -implicitDefEqProofs [nobox, iboxV]
    refine (committedJ_lv f l H (by omega) hm).mono fun y H1 hy => ?_
    obtain ⟨sb, S0, rfl, hS0, hk0, he0⟩ := hy
    simp -implicitDefEqProofs [nobox, iboxV, seg]
    refine WP.nbox (d := 3) (ver := 1) (cs := [.ptr sb 0]) (by simp [nobox]) fun pb hpb => ?_
    have hH1 : OMs S0 sb (setH H pb (.cells [.ptr sb 0] 1)) (setH H1 pb (.cells [.ptr sb 0] 1)) := hS0.add _ hpb
    have hHpb : H pb = none := hS0.toNone hpb
    have hB0 : Behind l [] S0 := ⟨hk0, fun e he j => by rw [(he0 e he).1]; simp [gEdges]⟩
    refine WP.cut tok ?_
    simp -implicitDefEqProofs [nobox, iboxV, nboxV]
    refine (clashes_lv f l _).mono fun y H2 hy => ?_
    obtain ⟨rfl, rfl⟩ := hy
    simp -implicitDefEqProofs [nobox, iboxV, nboxV]
    obtain ⟨Hb, hHb⟩ : ∃ Hb, Hb = setH H pb (.cells [.ptr sb 0] 1) := ⟨_, rfl⟩
    have hpbb : Hb pb = some (.cells [.ptr sb 0] 1) := by rw [hHb]; simp
    rw [← hHb] at hH1
    refine WP.rangeFunc (X := Nat × Nat) (f := 31) (lb := [.iptr [evsL f l]]) (by simp) enters31 (fun d => by by_cases h1 : d = 1 <;> by_cases h3 : d = 3 <;> simp [nobox, h1, h3]) (fun p => [i64 (p.1 : Nat), i64 (p.2 : Nat)]) (fun p => rfl)
      (BefJ l sb Hb) (fun _ _ => False) (fun xs => xs = gPairs l l.length) (fun pre p => pre ++ [p] <+: gPairs l l.length) ?_ ?_ ?_ ?_ ?_
    · exact ⟨S0, hH1, hB0⟩
    · intro yl o J' Jx' hyl hy h0
      refine (clashes1_lv f l (by omega) yl J' Jx' (fun pre i k H' hp hJ => hy pre (i, k) H' hp hJ) _ h0).mono fun y H' hq => ?_
      exact hq.imp (fun hq => ⟨_, rfl, hq⟩) id
    · rintro yl pre ⟨i, k⟩ H' hp ⟨S, hS, hBh⟩
      obtain ⟨hik, hkl⟩ := pairs_good l pre (i, k) hp
      simp only [] at hik hkl
      have hil : i < l.length := by omega
      have hpb' := hS.toSome hpbb
      have hSl : S.length < 2 ^ 38 := by have h1 := congrArg List.length hBh.keys; have h2 := gTxs_len l; simp at h1; omega
      have hti : txAt l i = l[i].tx := by unfold txAt; rw [List.getElem?_eq_getElem hil]
      have htk : txAt l k = l[k].tx := by unfold txAt; rw [List.getElem?_eq_getElem hkl]
      refine vc_sound tok _ _ _ _ _ ?_
      simp -implicitDefEqProofs [nobox, nboxV, iboxV]
      refine (vc_sound tok _ _ _ _ _ ?_ : WP _ _ _ _ _ _ _ _)
      simp -implicitDefEqProofs [nobox, nboxV, iboxV]
      refine WP.draws tok mixed [(0, []), (1, []), (2, []), (3, []), (4, []), (5, []), (6, []), (7, []), (8, []), (9, []), (10, []), (11, [])] [0, 0, 0, 6, 14, 30, 63, 127, 255, 255, 511, 2047] 4031 [] (by kernel_rfl) ?_
      simp -implicitDefEqProofs [evsL, hil, hkl, Ev.lv, seg, hpb']
      refine CallL.ret (getM_lv _ _ sb l[k].tx _ H' hS.om (by simp; omega)) ?_
      simp -implicitDefEqProofs [evsL, hil, hkl, Ev.lv, seg, hpb']
      refine WP.draws tok mixed [(0, []), (1, []), (2, []), (3, []), (4, []), (5, []), (6, []), (7, []), (8, []), (9, []), (10, []), (11, [])] [0, 0, 0, 6, 14, 30, 63, 127, 255, 255, 511, 2047] 4031 [] (by kernel_rfl) ?_
      simp -implicitDefEqProofs [evsL, hil, hkl, Ev.lv, seg, hpb']
      refine CallL.ret (getM_lv _ _ sb l[i].tx _ H' hS.om (by simp; omega)) ?_
      have hmemk : ∀ j, j ∈ gTxs l ↔ ∃ e ∈ S, e.k = j := fun j => by
        rw [← hBh.keys, List.mem_map]
      rcases hS.get l[k].tx with ⟨hh, hga, hno⟩ | ⟨hh, e, he, hek, hga⟩
      · rw [hh, hga]
        simp -implicitDefEqProofs [evsL, hil, hkl, Ev.lv, seg, hpb']
        refine ⟨S, hS, hBh.skip fun hc => ?_⟩
        obtain ⟨e, he, hek⟩ := (hmemk _).1 hc.2
        exact hno e he (by rw [hek]; exact htk)
      · rw [hh, hga]
        rcases hS.get l[i].tx with ⟨hh2, hga2, hno2⟩ | ⟨hh2, e2, he2, hek2, hga2⟩
        · rw [hh2, hga2]
          simp -implicitDefEqProofs [evsL, hil, hkl, Ev.lv, seg, hpb']
          refine ⟨S, hS, hBh.skip fun hc => ?_⟩
          obtain ⟨e, he, hek⟩ := (hmemk _).1 hc.1
          exact hno2 e he (by rw [hek]; exact hti)
        · rw [hh2, hga2]
          have hme := hS.at_map he
          unfold Ah.lo at hme
          simp -implicitDefEqProofs [evsL, hil, hkl, Ev.lv, seg, hpb', hme, MB.findL, mu3_put]
          have h1 := hS.turn he (txAt l i) true
          have h2 := hBh.put hS (p := (i, k)) he (by rw [hek]; exact htk.symm) ((hmemk _).2 ⟨e2, he2, by rw [hek2]; exact hti.symm⟩) true
          simp only [] at h2
          rw [hti] at h1 h2
          exact ⟨_, h1, h2⟩
    · rintro xs H' rfl ⟨S, hS, hBh⟩
      have hSl : S.length < 2 ^ 38 := by have h1 := congrArg List.length hBh.keys; have h2 := gTxs_len l; simp at h1; omega
      have hpb' := hS.toSome hpbb
      simp
      refine (WP.cut tok ?_ : WP _ _ _ _ _ _ _ _)
      simp -implicitDefEqProofs [nobox, nboxV, iboxV]
      refine WP.nbox (d := 10) (ver := 1) (cs := [.nilsl]) (by simp [nobox]) fun ob hob => ?_
      have hne : ob ≠ pb := fun hh => by subst hh; rw [hpb'] at hob; cases hob
      refine WP.cut tok ?_
      simp -implicitDefEqProofs [nobox, nboxV, iboxV, hpb', Ne.symm hne]
      refine (allM_lv (.ptr sb 0) _ rfl rfl).mono fun y H2 hy => ?_
      obtain ⟨rfl, rfl⟩ := hy
      simp -implicitDefEqProofs [nobox, nboxV, iboxV]
      obtain ⟨T, hT⟩ : ∃ T, T = (gTxs l).map fun tx => (tx, gAhead l tx) := ⟨_, rfl⟩
      have hTl : T.length = S.length := by rw [hT, ← hBh.keys]; simp
      have hzl : ((S.map (·.k)).zip (S.map fun e => LV.mp e.b)).length = S.length := by simp
      refine WP.rangeFunc (X := Int × LV) (f := 34) (lb := [.iptr [.ptr sb 0]]) (by simp) enters34 (fun d => by by_cases h1 : d = 1 <;> by_cases h3 : d = 3 <;> by_cases h10 : d = 10 <;> simp [nobox, h1, h3, h10]) (fun p => [i64 p.1, p.2]) (fun p => rfl)
        (fun pre H2 => OutJ (T.take pre.length) ob H' H2) (fun _ _ => False) (fun xs => xs = (S.map (·.k)).zip (S.map fun e => LV.mp e.b)) (fun pre p => pre ++ [p] <+: (S.map (·.k)).zip (S.map fun e => LV.mp e.b)) ?_ ?_ ?_ ?_ ?_
      · exact ⟨.nilsl, [], H', by simp [wtell], .inl ⟨rfl, rfl, rfl⟩, hob, rfl⟩
      · intro yl o J' Jx' hyl hy h0
        have h2 := (hS.om.add (.cells [.nilsl] 1) hob).add o hyl
        refine (iterM_lv _ _ sb _ _ h2 (by simp; omega) yl J' Jx' (fun pre k x H' hp hJ => hy pre (k, x) H' hp hJ) h0).mono fun y H' hq => ?_
        exact hq.imp (fun hq => ⟨_, rfl, hq⟩) id
      · intro yl pre p H2 hp hJ
        have hpl : pre.length < S.length := by have := hp.length_le; simp at this; omega
        obtain ⟨e, he⟩ : ∃ e, e = S[pre.length] := ⟨_, rfl⟩
        have hpe : p = (e.k, .mp e.b) := by
          have := hp.getElem (i := pre.length) (by simp)
          rw [he]; simpa using this
        subst hpe
        have heS : e ∈ S := by rw [he]; exact List.getElem_mem _
        obtain ⟨x, out, G, hout, hrow, hGb, rfl⟩ := hJ
        have hme : G e.b = some (.map e.m.lo e.c) := hrow.toSome (hS.at_map heS)
        have hbo : e.b ≠ ob := fun hh => by rw [hh, hGb] at hme; cases hme
        refine vc_sound tok _ _ _ _ _ ?_
        simp -implicitDefEqProofs [nobox, nboxV, iboxV]
        refine (WP.block (WP.cut tok ?_) : WP _ _ _ _ _ _ _ _)
        simp -implicitDefEqProofs [nobox, nboxV, iboxV, putAt]
        refine WP.cut tok ?_
        simp -implicitDefEqProofs [nobox, nboxV, iboxV, putAt, hbo, hme, rg2_map]
        intro r hr
        have hro : r ≠ ob := fun hh => by rw [if_pos hh] at hr; cases hr
        rw [if_neg hro] at hr
        have hrb : e.b ≠ r := fun hh => by rw [hh, hr] at hme; cases hme
        have hmok := hS.ok e heS
        refine WP.loopG (σ := MB) (fun zs e' B' Hc => ForJ e.m e.b r ob e.c x G e.k zs e' B' Hc) (fun zs => (e.m.filter fun z => decide (z.2.2 ∉ zs.map (·.2.2))).length) [] ?_ ?_
        · refine ⟨fun z hz => (by cases hz), List.nodup_nil, by simp, by simp, .nilsl, 1, .inl ⟨rfl, rfl, rfl⟩, by simp, by simp [seg, nobox]⟩
        · rintro zs e' B' Hc ⟨hsub, hnd, e10, e61, y, ver, hrowy, e13, hB13⟩
          have hHr : Hc r = some (.iter e.b e.c (zs.map (·.2.2)) e.c) := hrowy.toSome (by simp)
          have hHb : Hc e.b = some (.map e.m.lo e.c) := hrowy.toSome (by simp [hrb, hbo, hme])
          refine vc_sound tok _ _ _ _ _ ?_
          simp -implicitDefEqProofs [e10, e61, e13]
          refine nx1_intro hHr hHb ?_ (fun hend => ?_) (fun z hz hzs => ?_)
          · cases hmm : e.m with
            | nil => exact .inr (.inl rfl)
            | cons a m => exact .inr (.inr ⟨(i64 a.1, .bool a.2.1, a.2.2), by simp [MB.lo], hmok.old a (by rw [hmm]; simp)⟩)
          · simp -implicitDefEqProofs [e10, e61, e13]
            have hall : ∀ w ∈ e.m, w.2.2 ∈ zs.map (·.2.2) := fun w hw => by
              refine Classical.byContradiction fun hn => ?_
              exact hend (i64 w.1, .bool w.2.1, w.2.2) (List.mem_map.2 ⟨w, hw, rfl⟩) hn (hmok.old w hw)
            have hzw : ∀ w ∈ e.m, w ∈ zs := fun w hw => by
              obtain ⟨v, hv, hb⟩ := List.mem_map.1 (hall w hw)
              have h1 := born_at hmok.born hw
              have h2 := born_at hmok.born (hsub v hv)
              have hvw : v = w := by
                have inj : ∀ {m : MB}, (m.map (·.2.2)).Nodup → ∀ a ∈ m, ∀ b ∈ m, a.2.2 = b.2.2 → a = b := by
                  intro m hk a ha b hb h
                  induction m with
                  | nil => cases ha
                  | cons x m ih =>
                    obtain ⟨h1, h2⟩ := List.nodup_cons.1 hk
                    rcases List.mem_cons.1 ha with ha' | ha' <;> rcases List.mem_cons.1 hb with hb' | hb'
                    · rw [ha', hb']
                    · subst ha'; exact (h1 (List.mem_map.2 ⟨b, hb', h.symm⟩)).elim
                    · subst hb'; exact (h1 (List.mem_map.2 ⟨a, ha', h⟩)).elim
                    · exact ih h2 ha' hb'
                exact inj hmok.born v (hsub v hv) w hw hb
              rw [← hvw]; exact hv
            have hkn := nodup_map_of hmok.keys hnd hsub
            have hgr : Rising (gAhead l e.k) := (gTxs_rising l).sublist List.filter_sublist
            have hset : ((zs.map (·.1)).mergeSort fun x y => decide (x ≤ y)) = gAhead l e.k := sort_set hkn hgr fun j => by
              have : j ∈ zs.map (·.1) ↔ j ∈ e.m.map (·.1) := ⟨fun h => by obtain ⟨w, hw, rfl⟩ := List.mem_map.1 h; exact List.mem_map.2 ⟨w, hsub w hw, rfl⟩,
                fun h => by obtain ⟨w, hw, rfl⟩ := List.mem_map.1 h; exact List.mem_map.2 ⟨w, hzw w hw, rfl⟩⟩
              rw [this, hBh.ahead e heS j]
              unfold gAhead
              rw [List.mem_filter]
            have hzl2 : zs.length < 2 ^ 39 := by
              have h1 := nodup_sub_len (xs := zs.map (·.1)) (ys := gTxs l) hkn fun a ha => by
                obtain ⟨w, hw, rfl⟩ := List.mem_map.1 ha
                exact ((hBh.ahead e heS w.1).1 (List.mem_map.2 ⟨w, hsub w hw, rfl⟩)).1
              have h2 := gTxs_len l
              rw [List.length_map] at h1
              omega
            refine WP.cut tok ?_
            have hyg := hrowy.glob
            simp -implicitDefEqProofs [e10, e61, e13, hB13, hyg]
            rcases hrowy with ⟨hz0, rfl, rfl⟩ | ⟨fb, fc, rest, hfb, hfc, rfl, rfl⟩
            case' inl =>
              refine (sortNil_lv _).mono fun q H3 hq => ?_
              obtain ⟨rfl, rfl⟩ := hq
              simp -implicitDefEqProofs [e10, e61, e13, hB13]
              have hz0' : zs = [] := by simpa using hz0
              have hg0 : gAhead l e.k = [] := by rw [← hset, hz0']; simp
              have hsb1 : subH (setH G ob (.cells [x] 1)) (setH (setH G ob (.cells [x] 1)) r (.iter e.b e.c (zs.map (·.2.2)) e.c)) := subH.set (by simp [hro, hr])
              refine WP.via (ForD ob x G e.k (gAhead l e.k)) ⟨_, _, _, Below.trans (Below.boxRel (d := 13) (ver := ver) (cs := [i64 e.k, .nilsl]) (cs' := [i64 e.k, intsL true []]) hB13 rfl (fun K i a b v ha hb hr => ?rel)) (Below.sub hsb1), by simp [e10], ⟨true, ver, by simp [e13], by simp [hg0]⟩, rfl⟩ ?_
              case rel =>
                match i with
                | 0 => simp at ha hb; subst ha; subst hb; exact hr
                | 1 => simp at ha hb; subst ha; subst hb; exact R.nil_isl true 1 hr
                | i + 2 => simp at ha
            case' inr =>
              have hH3 : (setH (setH (setH G ob (LO.cells [x] 1)) r (LO.iter e.b e.c (zs.map (·.2.2)) e.c)) fb (LO.cells (List.map (fun z => i64 z.1) zs ++ rest) fc)) fb = some (LO.cells ((zs.map (·.1)).map i64 ++ rest) fc) := by simp
              have hsl := sort_lv (zs.map (·.1)) rest fb fc fc _ hH3 (by simp; omega)
              rw [hset, List.length_map] at hsl
              simp only [List.length_map]
              refine hsl.mono fun q H3 hq => ?_
              obtain ⟨rfl, rfl⟩ := hq
              simp -implicitDefEqProofs [e10, e61, e13, hB13]
              have hfo : ob ≠ fb := fun hh => by rw [← hh] at hfb; simp [Ne.symm hro] at hfb
              have hfr : fb ≠ r := fun hh => by rw [hh] at hfb; simp at hfb
              have hGf : G fb = none := by simpa [hfr, Ne.symm hfo] using hfb
              have hnl : (gAhead l e.k).length = zs.length := by rw [← hset, List.length_mergeSort, List.length_map]
              have hsub2 : subH (setH G ob (.cells [x] 1)) (delH (setH (setH (setH (setH G ob (LO.cells [x] 1)) r (LO.iter e.b e.c (List.map (fun x => x.snd.snd) zs) e.c)) fb (LO.cells (List.map (fun z => i64 z.fst) zs ++ rest) fc)) fb (LO.cells (List.map i64 (gAhead l e.k) ++ rest) fc)) fb) := by
                rw [setH_setH, delH_setH hfb]
                exact subH.set (by simp [hro, hr])
              have hwhole := sealV_whole (b := fb) (c := fc) (rest := rest) (es := 1) (xs := ((gAhead l e.k).map i64).map fun x => [x]) (fun x hx => by obtain ⟨n, _, rfl⟩ := List.mem_map.1 hx; rfl) (by simp; rw [hnl]; simpa using hfc)
              rw [row_flat, List.length_map, List.length_map, hnl] at hwhole
              refine WP.via (ForD ob x G e.k (gAhead l e.k)) ⟨_, _, _, Below.trans (Below.sealBx (b := fb) (n := fc) (cs := (gAhead l e.k).map i64 ++ rest) 1 (by simp)) (Below.sub hsub2), ?a1, ⟨decide (fc = List.length zs), ver, ?a2, ?a3⟩, rfl⟩ ?_
              case a1 => simp [e10, sealT, sealV, hfo]
              case a2 => simp [e13, sealT, sealV]
              case a3 =>
                simp only [sealBx, hB13, Option.map_some, List.map_cons, List.map_nil, List.length_map, hwhole]
                rfl
            all_goals
              rintro e2 B2 H2 ⟨f10, ⟨ff, fver, f13, fB⟩, rfl⟩
              refine vc_sound tok _ _ _ _ _ ?_
              have hxg := hrow.glob
              simp -implicitDefEqProofs [f10, f13, fB, hxg]
              have hol : out.length = pre.length := by have := congrArg List.length hout; simp [wtell] at this; omega
              refine OutR.append (by_ := 32) (new := [Wt.lv ⟨e.k, ff, gAhead l e.k⟩]) (hrow.add (.cells [x] 1) hGb) (wt_rows out) (wt_rows [_]) (by simp) (by simp; omega) (by decide) fun y H'' hy => ?_
              obtain ⟨G2, hy2, rfl, hG2⟩ := hy.del hob
              have hy1 := hy.one
              simp -implicitDefEqProofs [f10, f13, fB, hy.glob, hy1, lcells_one hy1, seg]
              have hTn : T.take (pre.length + 1) = T.take pre.length ++ [(e.k, gAhead l e.k)] := by
                have h1 : pre.length < T.length := by omega
                rw [List.take_add_one, List.getElem?_eq_getElem h1]
                have : T[pre.length] = (e.k, gAhead l e.k) := by
                  have h3 : T = S.map fun s => (s.k, gAhead l s.k) := by rw [hT, ← hBh.keys, List.map_map]; rfl
                  have h4 : T[pre.length]? = some (e.k, gAhead l e.k) := by rw [h3, he]; simp [hpl]
                  rw [List.getElem?_eq_getElem h1] at h4
                  exact Option.some.inj h4
                rw [this]; rfl
              rw [setH_setH]
              refine ⟨y, out ++ [⟨e.k, ff, gAhead l e.k⟩], G2, ?_, by simpa using hy2, hG2, rfl⟩
              rw [hTn, ← hout]; simp [wtell]
          · obtain ⟨z, hzm, rfl⟩ := List.mem_map.1 hz
            simp only [] at hzs
            simp -implicitDefEqProofs [e10, e61, e13]
            refine en1_intro (q := r) (m := e.b) (since := e.c) (c := e.c) (st := z.2.2) (seen := zs.map (·.2.2) ++ [z.2.2]) (es := e.m.lo) (y := (i64 z.1, .bool z.2.1, z.2.2)) (by simp) (by simp [hrb, hHb]) (by simp) (born_at hmok.born hzm) ?_
            have hzn : z.2.2 ∉ zs.map (·.2.2) := hzs
            have hup := hrowy.upd (.iter e.b e.c ((zs ++ [z]).map (·.2.2)) e.c) (b := r) (by simp)
            rw [setH_setH] at hup
            have hy1 := hrowy.one
            have hyg := hrowy.glob
            have hlz : zs.length ≤ 2 ^ 39 := by
              have h1 := nodup_sub_len (xs := zs.map (·.1)) (ys := gTxs l) (nodup_map_of hmok.keys hnd hsub) fun a ha => by
                obtain ⟨w, hw, rfl⟩ := List.mem_map.1 ha
                exact ((hBh.ahead e heS w.1).1 (List.mem_map.2 ⟨w, hsub w hw, rfl⟩)).1
              have h2 := gTxs_len l
              rw [List.length_map] at h1
              omega
            simp -implicitDefEqProofs [e10, e61, e13, hB13, hy1, hyg]
            refine OutV.append (z := i64 z.1) (by simpa using hup) (by simp; omega) (by simp) rfl fun y' H3 hy' => ?_
            have hy1' := hy'.one
            simp -implicitDefEqProofs [e10, e61, e13, hB13, hy1', lcells_one hy1', seg]
            refine Next.of (zs ++ [z]) ?_ ?_
            · simpa using filter_new hzm hzn
            · refine ⟨fun w hw => ?_, ?_, by simp [e10], by simp [e61], y', ver, ?_, by simp [e13], ?_⟩
              · rcases List.mem_append.1 hw with h | h
                · exact hsub w h
                · simp at h; subst h; exact hzm
              · rw [List.map_append, List.map_cons, List.map_nil, List.nodup_append]
                exact ⟨hnd, by simp, fun a ha b hb => by simp at hb; subst hb; exact fun h => hzn (by rw [← h]; exact ha)⟩
              · simpa using hy'
              · simp [hB13, seg]
      · rintro xs H2 rfl ⟨x, out, G, hout, hrow, hGb, rfl⟩
        have hxg := hrow.glob
        simp
        refine (vc_sound tok _ _ _ _ _ ?_ : WP _ _ _ _ _ _ _ _)
        simp -implicitDefEqProofs [nobox, nboxV, iboxV, hxg]
        refine Ends.wk (Wk.del ob _) ?_
        rw [delH_setH hGb]
        have hsubH : subH H H' := by
          refine subH.trans (hHb ▸ subH.set hHpb) fun b o hb => hS.toSome hb
        refine Ends.shrinkW hsubH (hrow.sealE (wt_rows out) fun f => ⟨⟨f, out, rfl, ?_⟩, rfl⟩)
        rw [hout, List.take_of_length_le (by rw [hzl, hTl]; exact Nat.le_refl _), hT]
        simp [gBefore, hm]
      · intro z H' _ hf; exact hf.elim
    · intro z H' _ hf; exact hf.elim
end Go.Lv
/- judge.Replay. -/
namespace Go.Lv
open Go Go.Proofs
set_option maxRecDepth 10000
set_option linter.unusedSimpArgs false
set_option linter.unusedVariables false

def gStep (s : Mem × Bool) (x : Ev) : Mem × Bool := (gDo s.1 x, s.2 && gSees s.1 x)
def gRun1 (l : List Ev) (s : Mem × Bool) (c : Ev) : Mem × Bool := if c.kind = 4 then (l.filter fun x => decide (x.tx = c.tx)).foldl gStep s else s
def gReplay (l : List Ev) : Mem × Bool := if gMay [] l = true then l.foldl (gRun1 l) ([], true) else ([], false)
/-- What Replay hands back. -/
def ReplQ (t : Mem × Bool) (H : OHeap) (x : LV) (H' : OHeap) : Prop := (∃ f kv, x = .tup [kvsL f kv, .bool t.2] ∧ tell kv = t.1 ∧ kv.length ≤ 1000000 ∧ ∀ y ∈ kv, y.v.length ≤ 1000) ∧ H' = H
theorem Wk.tupNil2 {H : OHeap} (es : Nat) (x : LV) : Wk (.tup [.nilsl, x]) H (.tup [.isl true es [], x]) H := Wk.of fun K v h => by
  cases h with
  | tup _ vs hl hh =>
    refine .tup _ vs (by simpa using hl) fun i y u hy hu => ?_
    match i with
    | 0 => simp at hy; subst hy; exact R.nil_isl true es (hh 0 _ u rfl hu)
    | 1 => simp at hy; subst hy; exact hh 1 _ u rfl hu
    | i + 2 => simp at hy
theorem Ends.shrinkR {t : Mem × Bool} {H H' H1 : OHeap} {r : LV} (hs : subH H H') (h : Ends (ReplQ t H') r H1) : Ends (ReplQ t H) r H1 := by
  obtain ⟨r', H2, hw, h1, rfl⟩ := h
  exact ⟨r', H, hw.trans (Wk.sub hs r'), h1, rfl⟩

/-- The omap of records, in the midst of a run. -/
def MemJ (s : Mem) (n : Nat) (sb : Nat) (H H' : OHeap) : Prop := ∃ (ks : List Int) (bs : List BV), OM ks (bs.map BV.lv) sb H H' ∧ ks.zip (bs.map BV.v) = s ∧ (∀ z ∈ bs, z.v.length ≤ 1000) ∧ ks.length ≤ n
theorem replay_lv (f : Bool) (l : List Ev) (H : OHeap) (hl : l.length ≤ 1000) (hb : ∀ x ∈ l, x.b.length ≤ 1000) : CallL Try.prog 12 [evsL f l] H (ReplQ (gReplay l) H) := by
  refine CallL.of_wp (n := 1) tok Try.func12 (c := _) rfl (by kernel_rfl) rfl ?_
  refine WP.cut tok ?_
  simp -implicitDefEqProofs [nobox]
  refine WP.cut tok ?_
  simp -implicitDefEqProofs [nobox]
  refine CallL.ret (may_lv f l _ (by omega)) ?_
  cases hm : gMay [] l with
  | false =>
    simp -implicitDefEqProofs [nobox]
    refine Ends.wk (Wk.tupNil2 2 _) (Ends.of ⟨⟨true, [], ?_, ?_, by simp, by simp⟩, rfl⟩)
    · simp [gReplay, hm, kvsL]
    · simp [gReplay, hm, tell]
  | true =>
    simp -implicitDefEqProofs [nobox]
    refine WP.cut tok ?_
    simp -implicitDefEqProofs [nobox]
    refine WP.nbox (d := 14) (ver := 1) (cs := [.nilsl, .nilsl]) (by simp [nobox]) fun sb hsb => ?_
    refine WP.cut tok ?_
    simp -implicitDefEqProofs [nobox, nboxV]
    refine WP.cut tok ?_
    simp -implicitDefEqProofs [nobox, nboxV, evsL]
    refine WP.loopG (σ := Nat) (fun n e B H' => MemJ ((l.take n).foldl (gRun1 l) ([], true)).1 (n * l.length) sb H H' ∧ n ≤ l.length ∧ e 0 = evsL f l ∧ e 4 = .ptr sb 0 ∧ e 5 = .bool ((l.take n).foldl (gRun1 l) ([], true)).2 ∧ e 15 = evsL f l ∧ e 16 = i64 l.length ∧ e 17 = i64 n) (fun n => l.length - n) 0 ?_ ?_
    · simp [evsL]
      refine ⟨⟨[], [], ⟨⟨rfl, List.Pairwise.nil, rfl⟩, .nilsl, .nilsl, H, H, hsb, .inl ⟨rfl, rfl, rfl⟩, .inl ⟨rfl, rfl, rfl⟩, rfl⟩, rfl, (fun z hz => by cases hz), by simp⟩, ?_⟩
      rfl
    · rintro n e B H' ⟨hJ, hn, e0, e4, e5, e15, e16, e17⟩
      refine vc_sound tok _ _ _ _ _ ?_
      rcases Nat.lt_or_ge n l.length with hlt | hge
      · have hw := wnext hlt (by omega)
        have htk : (l.take (n + 1)).foldl (gRun1 l) ([], true) = gRun1 l ((l.take n).foldl (gRun1 l) ([], true)) l[n] := by
          rw [List.take_add_one, List.getElem?_eq_getElem hlt, List.foldl_append]; rfl
        generalize (l.take n).foldl (gRun1 l) ([], true) = st at hJ e5 htk
        have hmul : (n + 1) * l.length = n * l.length + l.length := by rw [Nat.add_mul]; omega
        have hmb : n * l.length ≤ 1000 * 1000 := Nat.mul_le_mul (by omega) hl
        simp -implicitDefEqProofs [e0, e4, e5, e15, e16, e17, evsL, hlt, Ev.lv, seg]
        refine ⟨fun hk => ?_, fun hk => ?_⟩
        · have hk : l[n].kind = 4 := by simpa using hk
          have hrun : gRun1 l st l[n] = (l.filter fun x => decide (x.tx = l[n].tx)).foldl gStep st := by unfold gRun1; rw [if_pos hk]
          refine WP.loopG (σ := Nat) (fun j e B H' => MemJ (((l.take j).filter fun x => decide (x.tx = l[n].tx)).foldl gStep st).1 (n * l.length + j) sb H H' ∧ j ≤ l.length ∧ e 0 = evsL f l ∧ e 4 = .ptr sb 0 ∧ e 5 = .bool (((l.take j).filter fun x => decide (x.tx = l[n].tx)).foldl gStep st).2 ∧ e 15 = evsL f l ∧ e 16 = i64 l.length ∧ e 17 = i64 n ∧ e 24 = evsL f l ∧ e 25 = i64 l.length ∧ e 26 = i64 j ∧ ∃ ver, e 7 = .bp 7 ver 0 ∧ B 7 = (ver, some l[n].lv)) (fun j => l.length - j) 0 ?_ ?_
          · simp [evsL, e0, e4, e5, e15, e16, e17, hJ, Ev.lv]
          · rintro j e B H' ⟨hJ, hj, e0, e4, e5, e15, e16, e17, e24, e25, e26, ver, e7, hB⟩
            refine vc_sound tok _ _ _ _ _ ?_
            rcases Nat.lt_or_ge j l.length with hjl | hjg
            · have hwj := wnext hjl (by omega)
              have hfl : ((l.take (j + 1)).filter fun x => decide (x.tx = l[n].tx)).foldl gStep st = if l[j].tx = l[n].tx then gStep (((l.take j).filter fun x => decide (x.tx = l[n].tx)).foldl gStep st) l[j] else ((l.take j).filter fun x => decide (x.tx = l[n].tx)).foldl gStep st := by
                rw [List.take_add_one, List.getElem?_eq_getElem hjl, List.filter_append]
                by_cases h : l[j].tx = l[n].tx <;> simp [h]
              generalize ((l.take j).filter fun x => decide (x.tx = l[n].tx)).foldl gStep st = sj at hJ e5 hfl
              simp -implicitDefEqProofs [e0, e4, e5, e15, e16, e17, e24, e25, e26, e7, hB, evsL, hjl, Ev.lv, seg]
              refine ⟨fun ht => ?_, fun ht => ?_⟩
              · have ht : l[j].tx = l[n].tx := by simpa using ht
                rw [if_pos ht] at hfl
                obtain ⟨ks, bs, hom, hz, hv, hkl⟩ := hJ
                have hzl : (ks.zip (bs.map BV.v)).length = ks.length := by have := hom.1.1; simp at this ⊢; omega
                refine (does_lv ks bs sb l[j] H H' hom (by omega) hv (hb _ (List.getElem_mem hjl))).mono fun y H3 hy => ?_
                obtain ⟨rfl, ks', bs', hom', hz', hv', hkl'⟩ := hy
                rw [hz] at hz'
                have hJ' : MemJ (gDo sj.1 l[j]) (n * l.length + (j + 1)) sb H H3 := ⟨ks', bs', hom', hz', hv', by omega⟩
                rw [hz]
                have hs2 : gStep sj l[j] = (gDo sj.1 l[j], sj.2 && gSees sj.1 l[j]) := rfl
                cases hg : gSees sj.1 l[j] with
                | true =>
                  simp -implicitDefEqProofs [e0, e4, e5, e15, e16, e17, e24, e25, e26, e7, hB, evsL, hjl, Ev.lv, seg]
                  refine Next.of (j + 1) (by omega) ?_
                  rw [hg, Bool.and_true] at hs2
                  rw [hfl, hs2]
                  simp [e0, e4, e5, e15, e16, e17, e24, e25, evsL, hwj, hJ', e7, hB, Ev.lv]
                  omega
                | false =>
                  simp -implicitDefEqProofs [e0, e4, e5, e15, e16, e17, e24, e25, e26, e7, hB, evsL, hjl, Ev.lv, seg]
                  refine Next.of (j + 1) (by omega) ?_
                  rw [hg, Bool.and_false] at hs2
                  rw [hfl, hs2]
                  simp [e0, e4, e5, e15, e16, e17, e24, e25, evsL, hwj, hJ', e7, hB, Ev.lv]
                  omega
              · have ht : ¬ l[j].tx = l[n].tx := by simpa using ht
                rw [if_neg ht] at hfl
                refine Next.of (j + 1) (by omega) ?_
                rw [hfl]
                have hJ' : MemJ sj.1 (n * l.length + (j + 1)) sb H H' := by
                  obtain ⟨ks, bs, hom, hz, hv, hkl⟩ := hJ
                  exact ⟨ks, bs, hom, hz, hv, by omega⟩
                simp [e0, e4, e5, e15, e16, e17, e24, e25, evsL, hwj, hJ', e7, hB, Ev.lv]
                omega
            · have hno : ¬ j < l.length := by omega
              have hjl : j = l.length := by omega
              subst hjl
              simp -implicitDefEqProofs [e0, e4, e5, e15, e16, e17, e24, e25, e26, evsL, hno]
              refine Next.of (n + 1) (by omega) ?_
              rw [List.take_of_length_le (Nat.le_refl _)] at hJ e5
              rw [← hrun, ← htk] at hJ e5
              rw [← hmul] at hJ
              simp [e0, e4, e5, e15, e16, evsL, hw, hJ]
              omega
        · have hk : ¬ l[n].kind = 4 := by simpa using hk
          have hrun : gRun1 l st l[n] = st := by unfold gRun1; rw [if_neg hk]
          rw [hrun] at htk
          refine Next.of (n + 1) (by omega) ?_
          rw [htk]
          have hJ' : MemJ st.1 ((n + 1) * l.length) sb H H' := by
            obtain ⟨ks, bs, hom, hz, hv, hkl⟩ := hJ
            exact ⟨ks, bs, hom, hz, hv, by omega⟩
          simp [e0, e4, e5, e15, e16, evsL, hw, hJ']
          omega
      · have hno : ¬ n < l.length := by omega
        simp -implicitDefEqProofs [e0, e4, e5, e15, e16, e17, evsL, hno]
        refine Then.go tok ?_
        rw [List.take_of_length_le hge] at hJ e5
        have hrep : l.foldl (gRun1 l) ([], true) = gReplay l := by unfold gReplay; rw [if_pos hm]
        rw [hrep] at hJ e5
        obtain ⟨ks, bs, hom, hz, hv, hkl⟩ := hJ
        have hmb : n * l.length ≤ 1000 * 1000 := Nat.mul_le_mul (by omega) hl
        simp -implicitDefEqProofs [e0, e4, e5]
        refine (records_lv ks bs sb H H' hom (by omega) (fun z hz => by have := hv z hz; omega)).mono fun y H3 hy => ?_
        obtain ⟨⟨g, kv, rfl, ht⟩, rfl⟩ := hy
        simp -implicitDefEqProofs [e0, e4, e5]
        refine Ends.shrinkR (fun b o hb => hom.toSome hb) (Ends.of ⟨⟨g, kv, rfl, by rw [ht, hz], ?_, ?_⟩, rfl⟩)
        · have h1 := congrArg List.length ht
          have h2 := hom.1.1
          simp [tell] at h1 h2
          omega
        · intro y hy
          have h1 : (y.k, y.v) ∈ ks.zip (bs.map BV.v) := by rw [← ht]; exact List.mem_map.2 ⟨y, hy, rfl⟩
          obtain ⟨z, hz1, hz2⟩ := List.mem_map.1 (List.of_mem_zip h1).2
          rw [← hz2]; exact hv z hz1
end Go.Lv
/- A literal row that is owned; what stands beside a yield; wait.reached. -/
namespace Go.Lv
open Go Go.Proofs
set_option maxRecDepth 10000
set_option linter.unusedSimpArgs false
set_option linter.unusedVariables false

section
variable {P : Program} {e : Env} {B : Box} {H : OHeap} {o : Oper}
/-- A literal row as a block of the call's own. -/
theorem step_buildOwn {T : Tab} (hT : TOK P T) {t el : TypeId} {n : Nat} {ps : Array (Nat × Operand)} {ti ei : TI} (ho : o.op = .buildSlice t n ps) (hti : T t = some ti) (hk : ti.kind = .slice el) (hei : T el = some ei) (hle : n * ei.size ≤ 16777216)
    {cells : List LV} (hf : fillL (fun i => some (i * ei.size, ei.size)) (zerosL ei.zero n) (evParts e ps) = some cells) {Q : LV → Box → OHeap → Prop}
    (h : ∀ b, H b = none → Q (.sl b 0 n n) B (setH H b (.cells cells (n * ei.size)))) : Step P o e B H Q := by
  intro K jj w a N g te
  have hok := hT t ti hti
  have hoe := hT el ei hei
  obtain ⟨z, hz, hzr, hzs, _, _, hone⟩ := hoe.run_zero K
  obtain ⟨hl, hp⟩ := te.parts ps
  have hzz := Rs.zeros hzr n (.inr trivial)
  rw [hoe.len] at hzz
  obtain ⟨arr', h3, h4, h5, h6⟩ := fillL_ok hzz (zerosL_one hone n) hl hp hf
  rw [zerosL_length, hoe.len] at h6
  have hsz : arr'.size = n * ei.size := by have := h4.1; simp at this; omega
  have hown := ownObj.alloc (K := K) (w := w) (T := el) (arr := arr') (cs := cells) (by rw [List.take_of_length_le (by rw [← h4.1]; exact Nat.le_refl _)]; exact h4) (by rw [hsz, h6]; exact Nat.le_refl _) (h4.one (List.all_eq_true.2 h5))
  rw [hsz] at hown
  obtain ⟨g1, g2, g3⟩ := g.newH hown
  refine ⟨.value (.slice (some ⟨w.heap.size, 0, none⟩) n n), _, w.alloc (.cells arr' el), ?_, .inl rfl, _, B, _, K, jj, g2, (R.sl _ _ _ _).re, te, g3, h _ g1⟩
  simp only [execOp, ho, Instr.buildSlice]
  refine run_value ?_
  have hle' : ¬ n * ei.size > 2 ^ 24 := by omega
  simp only [Sem.run_bind, hok.run_slice hk w, Result.andThen_ok, hoe.run_size w, if_neg hle']
  by_cases h0 : n * ei.size = 0
  · have e2 : ∀ zz : Array Value, (Array.range (n * ei.size)).map (fun x => zz[x % zz.size]!) = #[] := fun zz => by rw [h0]; simp
    rw [e2] at h3
    simp only [if_pos h0, pure_bind, e2]
    rw [h3]
    rfl
  · simp only [if_neg h0, Sem.run_bind, hz w, Result.andThen_ok, Sem.run_pure]
    rw [h3]
    rfl
end

theorem uni_set {H : OHeap} {b : Nat} {o : LO} (hb : H b = none) : setH H b o = uni H (setH noH b o) ∧ disj H (setH noH b o) := by
  refine ⟨?_, fun i hi => ?_⟩
  · funext i
    simp only [setH_apply, uni]
    by_cases h : i = b
    · subst h; rw [hb]; simp
    · rw [if_neg h, if_neg h]; cases H i <;> simp [noH]
  · simp only [setH_apply]
    by_cases h : i = b
    · subst h; rw [hb] at hi; cases hi
    · rw [if_neg h]; rfl
theorem uni_set2 {H : OHeap} {b b' : Nat} {o o' : LO} (hb : H b = none) (hb' : H b' = none) (hne : b' ≠ b) : setH (setH H b o) b' o' = uni H (setH (setH noH b o) b' o') ∧ disj H (setH (setH noH b o) b' o') := by
  refine ⟨?_, fun i hi => ?_⟩
  · funext i
    simp only [setH_apply, uni]
    by_cases h : i = b'
    · subst h; rw [hb']; simp
    · by_cases h2 : i = b
      · subst h2; rw [if_neg h, if_neg h, hb]; simp
      · rw [if_neg h, if_neg h, if_neg h2, if_neg h2]; cases H i <;> simp [noH]
  · simp only [setH_apply]
    by_cases h : i = b'
    · subst h; rw [hb'] at hi; cases hi
    · by_cases h2 : i = b
      · subst h2; rw [hb] at hi; cases hi
      · rw [if_neg h, if_neg h2]; rfl
/-- A yield, with a block and a row of the iterator's own beside what the loop owns. -/
theorem OutV.yield {P : Program} {l : Nat} {args : List LV} {ys : List LV} {Hj Hc : OHeap} {mb : Nat} {o : LO} {s : LV} {Q : LV → OHeap → Prop} (h : OutV ys (setH Hj mb o) s Hc) (hmb : Hj mb = none) (hy : YieldL P l args Hj Q) :
    YieldL P l args Hc fun r H'' => ∃ H1, Q r H1 ∧ H1 mb = none ∧ OutV ys (setH H1 mb o) s H'' := by
  rcases h with ⟨h1, h2, rfl⟩ | ⟨b, c, rest, h1, h2, h3, rfl⟩
  · obtain ⟨e1, e2⟩ := uni_set (o := o) hmb
    rw [e1]
    refine (hy.frame _ e2).mono fun r H'' ⟨H1, hH, hd, hq⟩ => ?_
    have hm1 : H1 mb = none := disj_left hd (b := mb) (o := o) (by simp)
    exact ⟨H1, hq, hm1, .inl ⟨h1, h2, by rw [hH, ← (uni_set hm1).1]⟩⟩
  · have hbm : b ≠ mb := fun hh => by subst hh; simp at h1
    have hb : Hj b = none := by simpa [hbm] using h1
    obtain ⟨e1, e2⟩ := uni_set2 (o := o) (o' := .cells (ys ++ rest) c) hmb hb hbm
    rw [e1]
    refine (hy.frame _ e2).mono fun r H'' ⟨H1, hH, hd, hq⟩ => ?_
    have hm1 : H1 mb = none := disj_left hd (b := mb) (o := o) (by simp [Ne.symm hbm])
    have hb1 : H1 b = none := disj_left hd (b := b) (o := .cells (ys ++ rest) c) (by simp)
    exact ⟨H1, hq, hm1, .inr ⟨b, c, rest, by simp [hbm, hb1], h2, h3, by rw [hH, ← (uni_set2 hm1 hb1 hbm).1]⟩⟩

/-- From one to another, by the lists. -/
inductive RPath (t : List (Int × List Int)) : Int → Int → Prop
  | one {a b : Int} {r : List Int} : (a, r) ∈ t → b ∈ r → RPath t a b
  | more {a c b : Int} {r : List Int} : RPath t a c → (c, r) ∈ t → b ∈ r → RPath t a b
/-- All that one waits for is there. -/
def SuccIn (t : List (Int × List Int)) (x : Int) (pre : List Int) : Prop := ∀ r, (x, r) ∈ t → ∀ b ∈ r, b ∈ pre
/-- The search: who is to be looked at, who was handed on. -/
structure Srch (t : List (Int × List Int)) (from_ : Int) (cur : Option Int) (td pre : List Int) : Prop where
  nodup : pre.Nodup
  reach : ∀ j ∈ pre, RPath t from_ j
  here : ∀ x ∈ td, x = from_ ∨ x ∈ pre
  closed : ∀ x, x = from_ ∨ x ∈ pre → x ∈ td ∨ cur = some x ∨ SuccIn t x pre
theorem Srch.start (t : List (Int × List Int)) (from_ : Int) : Srch t from_ none [from_] [] :=
  ⟨List.nodup_nil, (fun j hj => by cases hj), (fun x hx => by simp at hx; exact .inl hx), (fun x hx => by rcases hx with rfl | hx; exact .inl (by simp); cases hx)⟩
theorem Srch.done {t : List (Int × List Int)} {from_ : Int} {pre : List Int} (h : Srch t from_ none [] pre) (b : Int) : b ∈ pre ↔ RPath t from_ b := by
  refine ⟨h.reach b, fun hp => ?_⟩
  have cl : ∀ x, x = from_ ∨ x ∈ pre → SuccIn t x pre := fun x hx => by
    rcases h.closed x hx with h1 | h1 | h1
    · cases h1
    · cases h1
    · exact h1
  induction hp with
  | one h1 h2 => exact cl _ (.inl rfl) _ h1 _ h2
  | more _ h1 h2 ih => exact cl _ (.inr ih) _ h1 _ h2

theorem Srch.pop {t : List (Int × List Int)} {from_ x : Int} {td pre : List Int} (h : Srch t from_ none (td ++ [x]) pre) : Srch t from_ (some x) td pre :=
  ⟨h.nodup, h.reach, fun y hy => h.here y (by simp [hy]), fun y hy => by
    rcases h.closed y hy with h1 | h1 | h1
    · rcases List.mem_append.1 h1 with h2 | h2
      · exact .inl h2
      · simp at h2; subst h2; exact .inr (.inl rfl)
    · cases h1
    · exact .inr (.inr h1)⟩
theorem Srch.push {t : List (Int × List Int)} {from_ x b : Int} {r : List Int} {td pre : List Int} (h : Srch t from_ (some x) td pre) (hx : x = from_ ∨ x ∈ pre) (hr : (x, r) ∈ t) (hb : b ∈ r) (hn : b ∉ pre) : Srch t from_ (some x) (td ++ [b]) (pre ++ [b]) := by
  refine ⟨?_, fun j hj => ?_, fun y hy => ?_, fun y hy => ?_⟩
  · rw [List.nodup_append]
    exact ⟨h.nodup, by simp, fun a ha c hc => by simp at hc; subst hc; exact fun e => hn (by rw [← e]; exact ha)⟩
  · rcases List.mem_append.1 hj with h1 | h1
    · exact h.reach j h1
    · simp at h1; subst h1
      rcases hx with rfl | hx
      · exact .one hr hb
      · exact .more (h.reach x hx) hr hb
  · rcases List.mem_append.1 hy with h1 | h1
    · rcases h.here y h1 with h2 | h2
      · exact .inl h2
      · exact .inr (by simp [h2])
    · simp at h1; subst h1; exact .inr (by simp)
  · have hs : ∀ {y}, SuccIn t y pre → SuccIn t y (pre ++ [b]) := fun hs r hr b hb => by simp [hs r hr b hb]
    rcases hy with rfl | hy
    · rcases h.closed y (.inl rfl) with h1 | h1 | h1
      · exact .inl (by simp [h1])
      · exact .inr (.inl h1)
      · exact .inr (.inr (hs h1))
    · rcases List.mem_append.1 hy with h2 | h2
      · rcases h.closed y (.inr h2) with h1 | h1 | h1
        · exact .inl (by simp [h1])
        · exact .inr (.inl h1)
        · exact .inr (.inr (hs h1))
      · simp at h2; subst h2; exact .inl (by simp)
theorem Srch.finish {t : List (Int × List Int)} {from_ x : Int} {td pre : List Int} (h : Srch t from_ (some x) td pre) (hs : SuccIn t x pre) : Srch t from_ none td pre :=
  ⟨h.nodup, h.reach, h.here, fun y hy => by
    rcases h.closed y hy with h1 | h1 | h1
    · exact .inl h1
    · cases h1; exact .inr (.inr hs)
    · exact .inr (.inr h1)⟩
/-- All that are waited for. -/
def targets (t : List (Int × List Int)) : List Int := t.flatMap (·.2)
theorem RPath.target {t : List (Int × List Int)} {a b : Int} (h : RPath t a b) : b ∈ targets t := by
  cases h with
  | one h1 h2 => exact List.mem_flatMap.2 ⟨_, h1, h2⟩
  | more _ h1 h2 => exact List.mem_flatMap.2 ⟨_, h1, h2⟩
end Go.Lv
