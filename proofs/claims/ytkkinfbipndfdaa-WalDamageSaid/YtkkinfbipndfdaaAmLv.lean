/- append to a slice that a slot holds with all its cells. -/
import Derived.Test.YtkkinfbipndfdaaAmL
set_option linter.unusedVariables false
set_option linter.unusedSimpArgs false
namespace Go.AM
open Go.RowKit

section
variable {R : Type} {P : Program} {E : Env} {w0 : World} {ω0 : Entry} {w : World} {g : Gh} {st : St} {vs : Array Value}

/-- The cells of an append. -/
theorem vec_cells {W : World} {G : Gh} {N n m e : Nat} {cs : List AVal} {f' : Nat → AVal} {val : Nat → Option Value} (hlen : cs.length = n * e) (hel : ∀ i, i < m → (f' i).cells.length = e) (hpl : ∀ i, i < m → plainAgg (f' i) = true)
    (h0 : ∀ (o : Nat) c, cs[o]? = some c → plain c = true ∧ isOwn0 c = false ∧ ∃ x, val o = some x ∧ Rep W G.I G.η N c x)
    (h1 : ∀ i, i < m → ∀ (j : Nat) c, (f' i).cells[j]? = some c → ∃ x, val (n * e + (i * e + j)) = some x ∧ Rep W G.I G.η N c x) :
    ∀ (o : Nat) c, (cs ++ cellsOf m f')[o]? = some c → plain c = true ∧ isOwn0 c = false ∧ ∃ x, val o = some x ∧ Rep W G.I G.η N c x := fun o c hc => by
  by_cases ho : o < cs.length
  · rw [List.getElem?_append_left ho] at hc; exact h0 o c hc
  · rw [List.getElem?_append_right (by omega)] at hc
    obtain ⟨i0, r0, c0, h5, h6, h7, rfl⟩ := cellsOf_get m hel _ c hc
    obtain ⟨x, h8, h9⟩ := h1 i0 h5 r0 c0 h7
    refine ⟨by rw [plain_dis]; exact plain_cells (hpl i0 h5) c0 (List.mem_of_getElem? h7), by rw [isOwn0_eq]; exact isOwn_dis _, x, ?_, h9.dis⟩
    rw [show o = n * e + (i0 * e + r0) by omega]; exact h8

theorem append_vec [VR : Vars] {t u ty e : TypeId} {i : TI} (h : Rel w0 ω0 w g st vs) (hte : P.underlying t = some (.slice e)) (hu : ∃ d, P.underlying u = some d ∧ ∀ q, d ≠ .int q) (hT : TIOk P e i) {x : Operand} {tt d n m : Nat} {cs : List AVal} {f' : Nat → AVal} {X : Value} {L : List Value}
    (hx : vecAt st.ts x = some (tt, i.size, n, cs)) (hL : Src w g st.H.length i.size m f' L) (hlenX : (Builtin.lenOf X).run P w = .ok m w)
    (h1 : ∀ w' : World, w'.heap = w.heap → (Builtin.firstCells i.size m X).run P w' = .ok L.toArray w')
    (hb : (n + m) * i.bytes ≤ 140737488355328) (hm : n + m ≤ 9223372036854775807) :
    ∃ Y w' g', (Builtin.append_ #[t, u] ty #[Act.eval ⟨vs, []⟩ x, X]).run P w = .ok Y w' ∧
      Rel w0 ω0 w' g' (putD { st with ts := (st.ts.map (kill d)).set tt .undef } (some d) (.vec i.size (n + m) (cs ++ cellsOf m f'))) (Act.put ⟨vs, []⟩ (some d) Y).tmps := by
  obtain ⟨rfl, ht⟩ := vecAt_some hx
  obtain ⟨hv, ⟨he, hlen, hr⟩, htl⟩ := h.vecOf ht
  have hX : Act.eval ⟨vs, []⟩ (.tmp tt) = vs.getD tt undef := rfl
  rw [hX]
  have hf : Rel w0 ω0 w g { st with ts := st.ts.set tt .undef } vs := h.slots (by simp) (fun s a hs => set_undef hs)
  have hlen2 : (cs ++ cellsOf m f').length = (n + m) * i.size := by rw [List.length_append, hlen, cellsOf_len m hL.elen, Nat.add_mul]
  have hLl := hL.len
  have hmul : (n + m) * i.size = n * i.size + m * i.size := Nat.add_mul _ _ _
  -- the base's cells
  obtain ⟨L0, ad, cap, hV, hc, hL0, hfc, hwas⟩ : ∃ (L0 : List Value) (ad : Option Addr) (cap : Nat), vs.getD tt undef = .slice ad n cap ∧ n ≤ cap ∧ L0.length = n * i.size ∧ (∀ w' : World, w'.heap = w.heap → (Builtin.firstCells i.size n (.slice ad n cap)).run P w' = .ok L0.toArray w') ∧
      ((ad = none ∧ n = 0 ∧ cap = 0) ∨ (ad = some ⟨g.β tt, 0, none⟩ ∧ (∀ o, o < cap * i.size → g.ω (g.β tt) o = .box tt ∧ (w.cell? ⟨g.β tt, o, none⟩).isSome = true) ∧ (∀ o, o < n * i.size → w.cell? ⟨g.β tt, o, none⟩ = L0[o]?) ∧
        ∀ (o : Nat) c, cs[o]? = some c → plain c = true ∧ isOwn0 c = false ∧ ∃ x, L0[o]? = some x ∧ Rep w g.I g.η st.H.length c x)) := by
    rcases hr with ⟨e1, e2⟩ | ⟨cap, e1, e2, e3, e4⟩
    · subst e2
      exact ⟨[], none, 0, e1, Nat.le_refl _, by simp, fun w' _ => by simp [Builtin.firstCells], .inl ⟨rfl, rfl, rfl⟩⟩
    · have hnc : n * i.size ≤ cap * i.size := Nat.mul_le_mul_right _ e2
      have hget : ∀ o, o < n * i.size → w.cell? ⟨g.β tt, o, none⟩ = ((List.range (n * i.size)).map fun o => (w.cell? ⟨g.β tt, o, none⟩).getD undef)[o]? := fun o ho => by
        rw [List.getElem?_map, List.getElem?_range ho]
        obtain ⟨v, hv⟩ := Option.isSome_iff_exists.1 (e3 o (by omega)).2
        rw [hv, Option.map_some, hv]; rfl
      refine ⟨(List.range (n * i.size)).map fun o => (w.cell? ⟨g.β tt, o, none⟩).getD undef, some ⟨g.β tt, 0, none⟩, cap, e1, e2, by simp, fun w' hw => ?_, .inr ⟨rfl, e3, hget, fun o c hcc => ?_⟩⟩
      · refine run_firstCells_some w' i.size n ⟨g.β tt, 0, none⟩ n cap _ (by simp) (fun j v hj => ?_)
        have hjl := lt_of_some hj
        simp only [List.length_map, List.length_range] at hjl
        rw [addr_add, Nat.zero_add, cells_in hw, hget j hjl]; exact hj
      · obtain ⟨c1, c2, x, c3, c4⟩ := e4 o c hcc
        exact ⟨c1, c2, x, by rw [← hget o (by have := lt_of_some hcc; omega)]; exact c3, c4⟩
  rw [hV]
  have hcase := append_run (w := w) (ty := ty) hte hu hT hc hlenX hfc h1 hb hm (fun hfit => ⟨fun a ha => by
    rcases hwas with ⟨e1, _⟩ | ⟨e1, e3, _, _⟩
    · rw [e1] at ha; cases ha
    · rw [e1] at ha; cases ha
      right
      have hfl : (n + m) * i.size ≤ cap * i.size := Nat.mul_le_mul_right _ hfit
      refine ⟨g.β tt, 0, rfl, fun j hj => ?_⟩
      rw [Nat.zero_add]
      have hj2 : n * i.size + j < cap * i.size := by omega
      obtain ⟨o1, o2⟩ := e3 _ hj2
      exact ⟨o2, h.base.soft _ _ (by rw [o1]; simp) (by rw [o1]; simp) (fun id e => by rw [o1] at e; cases e)⟩, hL.one⟩)
  rcases hcase with ⟨hfit, hrun⟩ | ⟨hgt, c, dr, zs, hc2, hzs, hrun⟩
  · -- in place
    rcases hwas with ⟨rfl, rfl, rfl⟩ | ⟨rfl, e3, hget, e4⟩
    · have hm0 : m = 0 := by omega
      subst hm0
      have hcs0 : cs = [] := List.eq_nil_of_length_eq_zero (by rw [hlen]; simp)
      have hce : cs ++ cellsOf 0 f' = [] := by rw [hcs0]; rfl
      refine ⟨_, _, g, hrun, ?_⟩
      rw [hce]
      have := (h.slots (ts' := (st.ts.map (kill d)).set tt .undef) (by simp) (fun s a hs => by
        rcases kill_set d tt st.ts s a hs with e5 | e5
        · exact set_undef e5
        · exact .inr e5)).vecNil (d := d) he
      exact this
    · have hfl : (n + m) * i.size ≤ cap * i.size := Nat.mul_le_mul_right _ hfit
      have hp := hf.vecPoke (t := tt) (e := i.size) (cap := cap) (off := n * i.size) (xs := L) (by simpa using htl) e3 (by omega) hv (A := .undef) trivial
      simp only [List.set_set] at hp
      have hbox : ∀ j, j < L.length → g.ω (g.β tt) (n * i.size + j) = .box tt := fun j hj => (e3 _ (by omega)).1
      have hcell : ∀ j, j < L.length → (w.cell? ⟨g.β tt, n * i.size + j, none⟩).isSome = true := fun j hj => (e3 _ (by omega)).2
      have hmono : ∀ {a : AVal} {v : Value}, Rep w g.I g.η st.H.length a v → Rep (w.setCells (g.β tt) (n * i.size) L) g.I g.η st.H.length a v := fun hh => Rep.write h (Y := fun q => q = .box tt) hbox (by simp) (by simp) hh
      have hold : ∀ o, o < n * i.size → (w.setCells (g.β tt) (n * i.size) L).cell? ⟨g.β tt, o, none⟩ = w.cell? ⟨g.β tt, o, none⟩ := fun o ho => World.cell?_setCells_out (g.β tt) L (n * i.size) w _ (fun _ _ => by simp only; omega)
      have hnew : ∀ j (hj : j < L.length), (w.setCells (g.β tt) (n * i.size) L).cell? ⟨g.β tt, n * i.size + j, none⟩ = some L[j] := fun j hj => World.cell?_setCells_in (g.β tt) L (n * i.size) w hcell j hj
      have hfin := hp.vecMove (t := tt) (d := d) (e := i.size) (n' := n + m) (cap := cap) (cs' := cs ++ cellsOf m f') (by simp [List.getD, htl]) he hlen2 hfit (fun o ho => ⟨(e3 o ho).1, by
        by_cases h5 : n * i.size ≤ o ∧ o < n * i.size + L.length
        · have := hnew (o - n * i.size) (by omega)
          rw [show n * i.size + (o - n * i.size) = o by omega] at this
          rw [this]; rfl
        · rw [World.cell?_setCells_out (g.β tt) L (n * i.size) w _ (fun _ _ => by simp only; omega)]; exact (e3 o ho).2⟩)
        (vec_cells hlen hL.elen (fun i0 hi0 => (hL.pl i0 hi0).1) (fun o c hcc => by
          obtain ⟨c1, c2, x, c3, c4⟩ := e4 o c hcc
          have ho := lt_of_some hcc
          exact ⟨c1, c2, x, by rw [hold o (by omega), hget o (by omega)]; exact c3, hmono c4⟩) (fun i0 hi0 j c hcc => by
          obtain ⟨x, c3, c4⟩ := hL.rep i0 hi0 j c hcc
          have hjl := lt_of_some c3
          refine ⟨x, ?_, hmono c4⟩
          rw [hnew _ hjl, ← List.getElem?_eq_getElem hjl]; exact c3))
      simp only [map_kill_twice] at hfin
      refine ⟨_, _, g.renB tt d, hrun, ?_⟩
      simp only [putIn, Nat.zero_add]
      exact hfin
  · -- a new row
    have hd2 := (h.slots (ts' := (st.ts.set tt .undef)) (by simp) (fun s a hs => set_undef hs)).of_heap (w' := { w with drawn := dr }) rfl rfl rfl rfl
    have harr : (L0 ++ L ++ zs).length = c * i.size := by
      have : c * i.size = (n + m) * i.size + (c - (n + m)) * i.size := by rw [← Nat.add_mul]; congr 1; omega
      simp only [List.length_append, hzs, hL0, hL.len]; omega
    have hnm : (n + m) * i.size ≤ c * i.size := Nat.mul_le_mul_right _ hc2
    have hR := hd2.fresh d (.cells (L0 ++ L ++ zs).toArray e) (fun o => if o < c * i.size then .box d else .free) st.H true (.vec i.size (n + m) (cs ++ cellsOf m f')) (.slice (some ⟨w.heap.size, 0, none⟩) (n + m) c) w.heap.size (by simp) (.inl rfl)
      (fun o => by by_cases e1 : o < c * i.size <;> simp [e1, ofSlot]) (fun o _ _ => frozen_fresh _ _ _ _) (fun o s j hh => by by_cases e1 : o < c * i.size <;> simp [e1] at hh) (fun o o' id hh => by by_cases e1 : o < c * i.size <;> simp [e1] at hh) ?_
    · simp only [if_true, map_kill_twice] at hR
      exact ⟨_, _, _, hrun, hR⟩
    · have hβ : (g.fresh w.heap.size d (fun o => if o < c * i.size then .box d else .free) w.heap.size st.H.length).β d = w.heap.size := by simp [Gh.fresh]
      have hωn : ∀ o, (g.fresh w.heap.size d (fun o => if o < c * i.size then .box d else .free) w.heap.size st.H.length).ω w.heap.size o = if o < c * i.size then .box d else .free := fun o => by simp [Gh.fresh]
      have hcf : ∀ o, (({ w with drawn := dr } : World).alloc (.cells (L0 ++ L ++ zs).toArray e)).cell? ⟨w.heap.size, o, none⟩ = (L0 ++ L ++ zs)[o]? := fun o => by
        have := cell_fresh ({ w with drawn := dr }) (L0 ++ L ++ zs).toArray e o
        rw [this, List.getElem?_toArray]
      have hmono : ∀ {a : AVal} {v : Value}, Rep w g.I g.η st.H.length a v → Rep (({ w with drawn := dr } : World).alloc (.cells (L0 ++ L ++ zs).toArray e)) (g.fresh w.heap.size d (fun o => if o < c * i.size then .box d else .free) w.heap.size st.H.length).I (g.fresh w.heap.size d (fun o => if o < c * i.size then .box d else .free) w.heap.size st.H.length).η st.H.length a v := fun hr => by
        have hr2 : Rep { w with drawn := dr } g.I g.η st.H.length _ _ := Rep.mono (w := w) (w' := { w with drawn := dr }) (fun b o hb => ⟨hb, rfl⟩) (Nat.le_refl _) (fun _ _ => rfl) hr
        exact Rep.fresh (st := { st with ts := st.ts.set tt .undef }) (B := hd2.base) (Nat.le_refl _) hr2
      refine ⟨he, hlen2, .inr ⟨c, by rw [hβ], hc2, fun o ho => ?_, ?_⟩⟩
      · rw [hβ, hωn, if_pos ho, hcf, List.getElem?_eq_getElem (by omega)]
        exact ⟨rfl, rfl⟩
      · rw [hβ]
        refine vec_cells hlen hL.elen (fun i0 hi0 => (hL.pl i0 hi0).1) (fun o cc hcc => ?_) (fun i0 hi0 j cc hcc => ?_)
        · have ho := lt_of_some hcc
          rcases hwas with ⟨_, rfl, _⟩ | ⟨_, _, _, e4⟩
          · rw [hlen] at ho; simp at ho
          · obtain ⟨c1, c2, x, c3, c4⟩ := e4 o cc hcc
            refine ⟨c1, c2, x, ?_, hmono c4⟩
            rw [hcf, List.append_assoc, List.getElem?_append_left (by omega)]; exact c3
        · obtain ⟨x, c3, c4⟩ := hL.rep i0 hi0 j cc hcc
          have hjl := lt_of_some c3
          refine ⟨x, ?_, hmono c4⟩
          rw [hcf, List.append_assoc, List.getElem?_append_right (by omega), hL0, Nat.add_sub_cancel_left, List.getElem?_append_left hjl]; exact c3
end
end Go.AM
