/- Loops over a function: their records in the abstract heap. -/
import Derived.Test.YtkkinfbipndfdaaAmV
set_option linter.unusedVariables false
set_option linter.unusedSimpArgs false
namespace Go.AM
open Go.RowKit

section
variable {R : Type} {P : Program} {E : Env} {w0 : World} {ω0 : Entry} {w : World} {g : Gh} {st : St} {vs : Array Value}
  {C : FuncId → List AVal → List HObj → AVal → List HObj → Prop}

/-- An object that is no cells is laid anew. -/
theorem Rel.turn [VR : Vars] (h : Rel w0 ω0 w g st vs) {id : Nat} {q q' : HObj} {ob ob' : Obj} (hq : st.H[id]? = some q) (h5 : w.heap[g.η id]? = some ob) (hc : ∀ c t r, ob ≠ .cells c t r) (hob : ∀ c t r, ob' ≠ .cells c t r) (h1 : g.ω (g.η id) 0 = .h id)
    (hl : ∀ i, q ≠ .locked i) (hi' : ∀ m es t c, q' ≠ .iter m es t c)
    (hr : ∀ w' : World, w' = { w with heap := w.heap.setIfInBounds (g.η id) ob' } → (∀ {a : AVal} {v : Value}, Rep w g.I g.η st.H.length a v → Rep w' g.I g.η st.H.length a v) → w'.heap[g.η id]? = some ob' → RepObj w' g.I g.ω g.η st.H.length id q') :
    Rel w0 ω0 { w with heap := w.heap.setIfInBounds (g.η id) ob' } g { st with H := st.H.set id q' } vs := by
  have hid := lt_of_some hq
  obtain ⟨hs1, hs2⟩ := heap_setObj (ob' := ob') h5
  have hcell : ∀ b o, ({ w with heap := w.heap.setIfInBounds (g.η id) ob' } : World).cell? ⟨b, o, none⟩ = w.cell? ⟨b, o, none⟩ ∧ ({ w with heap := w.heap.setIfInBounds (g.η id) ob' } : World).frozen? ⟨b, o, none⟩ = w.frozen? ⟨b, o, none⟩ := fun b o => by
    by_cases e : b = g.η id
    · subst e
      simp only [World.cell?, World.frozen?, hs1, h5]
      cases ob' <;> first | exact absurd rfl (hob _ _ _) | (cases ob <;> first | exact absurd rfl (hc _ _ _) | exact ⟨trivial, trivial⟩ | exact ⟨rfl, rfl⟩)
    · exact cell_of_heap (hs2 b e) o
  have hsame : Same (fun q => q = .h id) w g st.H.length { w with heap := w.heap.setIfInBounds (g.η id) ob' } g := by
    refine ⟨fun b o _ _ => ⟨rfl, (hcell b o).1⟩, fun b hb ⟨o, id', e, hX⟩ => hs2 b (fun e2 => ?_), fun _ _ => rfl⟩
    subst e2
    rcases h.base.sep _ 0 o id h1 with e3 | e3
    · rw [e3] at e; cases e; exact hX rfl
    · rw [e3] at e; cases e
  have hmono : ∀ {a : AVal} {v : Value}, Rep w g.I g.η st.H.length a v → Rep { w with heap := w.heap.setIfInBounds (g.η id) ob' } g.I g.η st.H.length a v := fun hh => hh.mono (fun b o hb => ⟨hb, (hcell b o).1⟩) (Nat.le_refl _) (fun _ _ => rfl)
  have hlen : (st.H.set id q').length = st.H.length := by simp
  have hlock : Locks (st.H.set id q') := h.base.lock.set (fun i e => by rw [hq] at e; exact hl i (Option.some.inj e)) hi'
  refine ⟨⟨fun id' p hp => ?_, fun b o hb => by have := h.base.live b o hb; simpa using this, fun b o h5 h6 h7 => by rw [(hcell b o).2]; exact h.base.soft b o h5 h6 h7, fun b o hb => by rw [(hcell b o).1]; exact h.base.tail b o hb, h.base.sep, fun b o id' hb => by rw [hlen]; exact h.base.low b o id' hb, hlock⟩, h.len, fun s a v h5 h6 => ?_, h.mine, h.past, ?_, by rw [hlen]; exact h.old⟩
  · rw [hlen]
    by_cases e : id = id'
    · subst e
      simp only [List.getElem?_set, if_true, if_pos hid] at hp
      cases hp
      exact hr _ rfl hmono hs1
    · simp only [List.getElem?_set, if_neg e] at hp
      exact hsame.objs (by simp) (Nat.le_refl _) h.base hp (by simp; exact fun hh => e hh.symm) (by simp) (fun m' es' t c e' hh => by
        subst e'
        have := (h.base.lock id' m' es' t c hp).2
        cases hh
        rw [hq] at this; exact hl _ (Option.some.inj this))
  · rw [hlen]
    exact hsame.slot (by simp) (Nat.le_refl _) (by simp) (by simp) (fun _ => rfl) (fun _ _ => rfl) (h.slot s a v h5 h6)
  · refine ⟨h.keeps.os, h.keeps.tape, h.keeps.output, by simpa using h.keeps.size, fun b hb hh hh2 => ?_, fun b o hb hh hh2 => ⟨(hcell b o).1.trans (h.keeps.cell b o hb hh hh2).1, (hcell b o).2.trans (h.keeps.cell b o hb hh hh2).2⟩, h.keeps.vars⟩
    have : b ≠ g.η id := fun e => by
      subst e
      exact hh 0 id ((h.past _ hb 0).2 id h1)
    exact (hs2 b this).trans (h.keeps.block b hb hh hh2)

/-- A new object of the abstract heap that is no cells. -/
theorem Rel.newObj [VR : Vars] (h : Rel w0 ω0 w g st vs) (ob : Obj) (q : HObj) (hob : ∀ c t r, ob ≠ .cells c t r) (hi : ∀ m es t c, q ≠ .iter m es t c)
    (hr : ∀ g' : Gh, (∀ {a : AVal} {v : Value}, Rep w g.I g.η st.H.length a v → Rep (w.alloc ob) g'.I g'.η (st.H.length + 1) a v) → g'.η st.H.length = w.heap.size → g'.ω w.heap.size 0 = .h st.H.length → (w.alloc ob).heap[w.heap.size]? = some ob →
      RepObj (w.alloc ob) g'.I g'.ω g'.η (st.H.length + 1) st.H.length q) :
    ∃ g', Rel w0 ω0 (w.alloc ob) g' { st with H := st.H ++ [q] } vs ∧ g'.η st.H.length = w.heap.size ∧ ∀ id, id < st.H.length → g'.η id = g.η id := by
  have hη : (g.fresh w.heap.size st.ts.length (fun o => if o = 0 then .h st.H.length else .free) (g.β st.ts.length) st.H.length).η st.H.length = w.heap.size := by simp [Gh.fresh]
  have := h.fresh st.ts.length ob (fun o => if o = 0 then .h st.H.length else .free) (st.H ++ [q]) false .undef undef (g.β st.ts.length) (fun _ => rfl) (.inr ⟨q, rfl, by
      rw [List.length_append, List.length_singleton]
      exact hr (g.fresh w.heap.size st.ts.length (fun o => if o = 0 then .h st.H.length else .free) (g.β st.ts.length) st.H.length) (fun hh => Rep.fresh (B := h.base) (Nat.le_succ _) hh) hη (by simp [Gh.fresh]) (World.alloc_heap_new w ob)⟩)
    (fun o => by by_cases e : o = 0 <;> simp [e, ofSlot]) (fun o _ _ => by
      simp only [World.frozen?, World.alloc_heap_new w ob]
      cases ob <;> first | rfl | exact absurd rfl (hob _ _ _)) (fun o s i hh => by
      have hh2 : (if o = 0 then Owner.h st.H.length else .free) = .tail s i := hh
      split at hh2 <;> cases hh2)
    (fun o o' id hh => by by_cases e : o = 0 <;> by_cases e' : o' = 0 <;> simp_all) trivial (h.base.lock.append (fun m es t c e => absurd e (hi m es t c)))
  refine ⟨g.fresh w.heap.size st.ts.length (fun o => if o = 0 then .h st.H.length else .free) (g.β st.ts.length) st.H.length, ?_, hη, fun id hid => by simp only [Gh.fresh]; rw [if_pos hid]⟩
  have h1 : st.ts.set st.ts.length .undef = st.ts := List.set_eq_of_length_le (Nat.le_refl _)
  have h2 : vs.setIfInBounds st.ts.length undef = vs := by rw [h.len]; exact Array.setIfInBounds_eq_of_size_le (Nat.le_refl _)
  simpa [h1, h2] using this

end
end Go.AM
