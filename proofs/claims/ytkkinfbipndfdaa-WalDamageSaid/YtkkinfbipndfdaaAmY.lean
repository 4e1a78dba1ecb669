/- Walks over maps; boxes that nobody writes any more. -/
import Derived.Test.YtkkinfbipndfdaaAmP
import Derived.Laws.IdiomRangeMap
set_option linter.unusedVariables false
set_option linter.unusedSimpArgs false
namespace Go.AM
open Go.RowKit

section
variable {R : Type} {P : Program} {E : Env} {w0 : World} {ω0 : Entry} {w : World} {g : Gh} {st : St} {vs : Array Value}
  {C : FuncId → List AVal → List HObj → AVal → List HObj → Prop} {o : Oper} {k : AVal → St → Tree R} {r : R} {next : Act → World → Prop} {Q : Exit → Act → World → Prop} {mv : Bool}

/-- One object is told anew; the world stands. -/
theorem Rel.setQ [VR : Vars] (h : Rel w0 ω0 w g st vs) {id : Nat} {q q' : HObj} (hq : st.H[id]? = some q) (hr : RepObj w g.I g.ω g.η st.H.length id q') (h1 : ∀ i, q ≠ .locked i) (h2 : ∀ m es t c, q' ≠ .iter m es t c) :
    Rel w0 ω0 w g { st with H := st.H.set id q' } vs := by
  have hlen : (st.H.set id q').length = st.H.length := by simp
  refine ⟨⟨fun id' p hp => ?_, h.base.live, h.base.soft, h.base.tail, h.base.sep, fun b o id' hb => by rw [hlen]; exact h.base.low b o id' hb, h.base.lock.set (fun i => by rw [hq]; exact fun e => h1 i (Option.some.inj e)) h2⟩, h.len, fun s a v h5 h6 => ?_, h.mine, h.past, h.keeps, by rw [hlen]; exact h.old⟩
  · rw [hlen]
    by_cases e : id = id'
    · subst e
      simp only [List.getElem?_set, if_true, if_pos (lt_of_some hq)] at hp
      cases hp; exact hr
    · simp only [List.getElem?_set, if_neg e] at hp
      exact h.base.heap id' p hp
  · rw [hlen]; exact h.slot s a v h5 h6

/-! ### The beginning of a walk -/
theorem run_range_at {t kt et : TypeId} {bm : Nat} {ents : Array MapEntry} {clock : Nat} (hu : P.underlying t = some (.map kt et)) (hb : w.heap[bm]? = some (.map ents clock)) :
    (Instr.range t (.map (some bm))).run P w = .ok (.pointer (some ⟨w.heap.size, 0, none⟩)) (w.alloc (.mapIter (some bm) clock #[] clock)) := Go.run_range_map w t kt et bm ents clock hu hb

theorem op_range [VR : Vars] (hT : TOk P E.T) {t : TypeId} {x : Operand} (h : Rel w0 ω0 w g st vs) (ho : o.op = .range t x) (hk : Den C (doOp E mv o st k) r) (hn : Follows C w0 ω0 o vs k r next) : o.wp P ⟨vs, []⟩ w next Q := by
  simp only [doOp, ho] at hk
  split at hk
  · rename_i id hti hx
    have hu := (hT t _ hti).kind
    simp only [KOk] at hu
    have hxr := ev_ne h hx (by simp) (by simp)
    split at hk
    · rename_i es hes
      obtain ⟨hds, hk⟩ := cond_den hk
      obtain ⟨d, hd⟩ := Option.isSome_iff_exists.1 hds
      obtain ⟨h1, ents, clock, h2, h3, h4⟩ := h.base.heap id _ hes
      have hid := lt_of_some hes
      have hxv : Act.eval ⟨vs, []⟩ x = .map (some (g.η id)) := by
        generalize Act.eval ⟨vs, []⟩ x = M at hxr; cases hxr; rfl
      have hrun : (execOp (Act.eval ⟨vs, []⟩) o).run P w = .ok (.value (.pointer (some ⟨w.heap.size, 0, none⟩))) (w.alloc (.mapIter (some (g.η id)) clock #[] clock)) := by
        simp only [execOp, ho, hxv]
        exact run_value (run_range_at hu h2)
      refine wp_of_value hrun ?_
      have hL := h.setQ hes (q' := .locked st.H.length) h1 (by simp) (by simp)
      have hlen : (st.H.set id (.locked st.H.length)).length = st.H.length := by simp
      have hne : g.η id ≠ w.heap.size := by have := h.base.live (g.η id) 0 (by rw [h1]; simp); omega
      have he0 : (w.alloc (.mapIter (some (g.η id)) clock #[] clock)).heap[w.heap.size]? = some (.mapIter (some (g.η id)) clock #[] clock) := by show (w.heap.push _)[_]? = _; simp
      have hem : (w.alloc (.mapIter (some (g.η id)) clock #[] clock)).heap[g.η id]? = some (.map ents clock) := (Below.heap_alloc _ _ _ (h.base.live (g.η id) 0 (by rw [h1]; simp))).trans h2
      have hR := hL.fresh d (.mapIter (some (g.η id)) clock #[] clock) (fun o => if o = 0 then .h st.H.length else .free) (st.H.set id (.locked st.H.length) ++ [.iter id es es none]) false (.href st.H.length 0) (.pointer (some ⟨w.heap.size, 0, none⟩)) (g.β d) (by simp) (.inr ⟨_, rfl, ?_⟩)
        (fun o => by by_cases e1 : o = 0 <;> simp [e1]) (fun o _ _ => ?_) (fun o s j hh => by by_cases e1 : o = 0 <;> simp [e1] at hh)
        (fun o o' id hh => by by_cases e1 : o = 0 <;> by_cases e2 : o' = 0 <;> simp_all) (RepSlot.of_pl ⟨?_, fun e n f he => by cases he⟩)
        (hL.base.lock.append (fun m es' t c e => by cases e; rw [hlen]; exact ⟨hid, by simp [hid]⟩))
      · exact hn _ _ _ _ _ (by rw [hd]; exact hR) hk
      · simp only [hlen]
        have hη : (g.fresh w.heap.size d (fun o => if o = 0 then Owner.h st.H.length else .free) (g.β d) st.H.length).η st.H.length = w.heap.size := by simp [Gh.fresh]
        have hη2 : (g.fresh w.heap.size d (fun o => if o = 0 then Owner.h st.H.length else .free) (g.β d) st.H.length).η id = g.η id := by simp [Gh.fresh, hid]
        have hmono : ∀ {a : AVal} {v : Value}, Rep w g.I g.η st.H.length a v → Rep (w.alloc (.mapIter (some (g.η id)) clock #[] clock)) (g.fresh w.heap.size d (fun o => if o = 0 then Owner.h st.H.length else .free) (g.β d) st.H.length).I (g.fresh w.heap.size d (fun o => if o = 0 then Owner.h st.H.length else .free) (g.β d) st.H.length).η (st.H.set id (.locked st.H.length) ++ [HObj.iter id es es none]).length a v := fun hh =>
          Rep.fresh (B := h.base) (by simp) hh
        refine ⟨by rw [hη]; simp [Gh.fresh], by rw [hη2]; simp [Gh.fresh, hne, h1, clr], by simp; omega, ents, clock, clock, clock, #[], ents.toList, by rw [hη2]; exact hem, by rw [hη, hη2]; exact he0, h3, fun x hx => ?_, ⟨Nat.le_refl _, Nat.le_refl _⟩, fun i k x e he hi => ?_, by rw [← h3.1]; simp, fun x => by simp, ?_, fun i k x e he hi => ?_, fun k x hc => by cases hc⟩
        · exact h3.2.1 x hx
        · obtain ⟨a, b, c, d⟩ := h4 i k x e he hi
          exact ⟨hmono a, hmono b, c, d⟩
        · exact h3.2.2.1
        · obtain ⟨a, b, c, d⟩ := h4 i k x e he (by simpa using hi)
          exact ⟨hmono a, hmono b, c, d⟩
      · show (match (w.alloc (.mapIter (some (g.η id)) clock #[] clock)).heap[w.heap.size]? with | some (.cells _ _ (lo, hi)) => decide (lo ≤ o) && decide (o < hi) | _ => false) = false
        rw [he0]
      · have hη : (g.fresh w.heap.size d (fun o => if o = 0 then Owner.h st.H.length else .free) (g.β d) st.H.length).η st.H.length = w.heap.size := by simp [Gh.fresh]
        have := Rep.href (w := w.alloc (.mapIter (some (g.η id)) clock #[] clock)) (I := (g.fresh w.heap.size d (fun o => if o = 0 then Owner.h st.H.length else .free) (g.β d) st.H.length).I) (η := (g.fresh w.heap.size d (fun o => if o = 0 then Owner.h st.H.length else .free) (g.β d) st.H.length).η) (N := (st.H.set id (.locked st.H.length) ++ [HObj.iter id es es none]).length) st.H.length 0 (by simp)
        rw [hη] at this
        simp only [hlen]; exact this
    · exact (noDen hk).elim
  · exact (noDen hk).elim

/-! ### The entry that came last -/
theorem run_entry_at {bi bm since : Nat} {seen : Array Nat} {ents : Array MapEntry} {clock : Nat} {e : MapEntry} (hi : w.heap[bi]? = some (.mapIter (some bm) since (seen.push e.born) clock)) (hb : w.heap[bm]? = some (.map ents clock)) (he : e ∈ ents.toList) (hn : (ents.toList.map (·.born)).Nodup) :
    (Instr.entry (.pointer (some ⟨bi, 0, none⟩))).run P w = .ok (.tuple #[e.key, e.val]) w := by
  have hf : ents.find? (·.born == e.born) = some e := by rw [← Array.find?_toList]; exact Go.find_born e ents.toList hn he
  simp only [Instr.entry, getObj, Sem.run_bind, Sem.run, hi, hb, Result.andThen, Array.back?_push, bne_self_eq_false, Bool.false_eq_true, if_false, hf]
  rfl

theorem op_entry [VR : Vars] {x : Operand} (h : Rel w0 ω0 w g st vs) (ho : o.op = .entry x) (hk : Den C (doOp E mv o st k) r) (hn : Follows C w0 ω0 o vs k r next) : o.wp P ⟨vs, []⟩ w next Q := by
  simp only [doOp, ho] at hk
  split at hk
  · rename_i id hx
    have hxr := ev_ne h hx (by simp) (by simp)
    split at hk
    · rename_i m es todo a b hes
      obtain ⟨h1, h2, h3, ents, clock, since, c0, seen, rs, h4, h5, h6, h7, h8, h9, h10, h11, h12, h13, h14⟩ := h.base.heap id _ hes
      obtain ⟨e, s', h15, h16, h17, ha, hb, hc, hd⟩ := h14 a b rfl
      subst h16; subst h17
      have hxv : Act.eval ⟨vs, []⟩ x = .pointer (some ⟨g.η id, 0, none⟩) := by
        generalize Act.eval ⟨vs, []⟩ x = M at hxr; cases hxr; rfl
      have hrun : (execOp (Act.eval ⟨vs, []⟩) o).run P w = .ok (.value (.tuple #[e.key, e.val])) w := by
        simp only [execOp, ho, hxv]
        exact run_value (run_entry_at h5 h4 h15 h6.2.2.1)
      refine wp_of_value hrun (hn _ _ _ _ g (h.put_ev (v := .tuple [a, disAgg b]) ?_ rfl) hk)
      exact Rep.tuple _ _ rfl (fun i c v hc' hv => by
        rcases i with _ | _ | i
        · simp at hc' hv; subst hc'; subst hv; exact ha
        · simp at hc' hv; subst hc'; subst hv; exact hb.disAgg
        · simp at hc')
    · exact (noDen hk).elim
  · exact (noDen hk).elim

/-! ### The next entry -/
theorem heap_setObj {w : World} {b : Nat} {ob ob' : Obj} (h : w.heap[b]? = some ob) : ({ w with heap := w.heap.setIfInBounds b ob' } : World).heap[b]? = some ob' ∧ ∀ b', b' ≠ b → ({ w with heap := w.heap.setIfInBounds b ob' } : World).heap[b']? = w.heap[b']? := by
  have hb := alt_of_some h
  exact ⟨by simp [hb], fun b' hne => by simp [Array.getElem?_setIfInBounds, Ne.symm hne]⟩

theorem run_next_at {ty : TypeId} {bi bm since c0 : Nat} {seen : Array Nat} {es : Array MapEntry} {clock : Nat} (hi : w.heap[bi]? = some (.mapIter (some bm) since seen c0)) (hb : w.heap[bm]? = some (.map es clock)) (hold : ∀ x ∈ es.toList, x.born < since) (hsc : since ≤ c0) :
    ((Go.leftOf es seen).size = 0 ∧ (Instr.next (.pointer (some ⟨bi, 0, none⟩)) false ty).run P w = .ok (.tuple #[.bool false]) w) ∨
    ∃ e ∈ (Go.leftOf es seen).toList, ∃ w1 : World, w1.heap = w.heap ∧ w1.os = w.os ∧ w1.tape = w.tape ∧ w1.output = w.output ∧
      (Instr.next (.pointer (some ⟨bi, 0, none⟩)) false ty).run P w = .ok (.tuple #[.bool true, e.key, e.val]) { w1 with heap := w1.heap.setIfInBounds bi (.mapIter (some bm) since (seen.push e.born) clock) } := by
  simp only [Instr.next, getObj, Sem.run_bind, Sem.run, hi, hb, Result.andThen, Go.next_test_false seen es since c0 hold hsc, Bool.false_eq_true, if_false]
  unfold Go.leftOf
  have hmem : ∀ x ∈ (Array.filter (fun e => !seen.contains e.born) es).toList, x.born < since := fun x hx => hold x (by simp at hx ⊢; exact hx.1)
  generalize Array.filter (fun e => !seen.contains e.born) es = L at hmem ⊢
  have e1 : L.filter (fun x => decide (x.born < since)) = L := Array.filter_eq_self.2 (fun x hx => by simpa using hmem x (by simpa using hx))
  have e2 : L.filter (fun x => decide (x.born ≥ since)) = #[] := by
    rw [Array.filter_eq_empty_iff]
    intro x hx
    have := hmem x (by simpa using hx)
    simp
    omega
  simp only [e1, e2, Array.append_empty]
  by_cases h0 : L.size = 0
  · left
    have : L = #[] := Array.eq_empty_of_size_eq_zero h0
    subst this
    refine ⟨rfl, ?_⟩
    simp [choose, Sem.run, Question.forced]
  · right
    have hne : L.isEmpty = false := by simp [Array.isEmpty, h0]
    simp only [hne, Bool.false_eq_true, if_false, Array.empty_append, Array.size_map]
    have hch : ∃ (j : Nat) (w1 : World), j < L.size ∧ w1.heap = w.heap ∧ w1.os = w.os ∧ w1.tape = w.tape ∧ w1.output = w.output ∧ (choose (Question.mapNext L.size)).run P w = .ok j w1 := by
      by_cases hf : L.size ≤ 1
      · exact ⟨0, w, by omega, rfl, rfl, rfl, rfl, by simp [choose, Sem.run, Question.forced, hf]⟩
      · exact ⟨_, w.drew, Nat.mod_lt _ (by omega), rfl, rfl, rfl, rfl, by
          simp only [choose, Sem.run, Question.forced, decide_eq_true_eq, hf, if_false, Question.cut]
          rfl⟩
    obtain ⟨j, w1, hj, hh, ho, ht, hou, hrun⟩ := hch
    refine ⟨L[j], by simp, w1, hh, ho, ht, hou, ?_⟩
    have hset : ∀ o' : Obj, (setObj bi o').run P w1 = .ok () { w1 with heap := w1.heap.setIfInBounds bi o' } := fun o' => by
      simp only [setObj, Sem.run, hh, hi]
    simp only [hrun, Array.getElem?_map, Array.getElem?_eq_getElem hj, Option.map_some, Sem.run_bind, hset, Result.andThen]
    rfl

theorem mem_erase_born {l : List MapEntry} {j : Nat} {e x : MapEntry} (hn : (l.map (·.born)).Nodup) (hj : l[j]? = some e) : x ∈ l.eraseIdx j ↔ x ∈ l ∧ (x.born == e.born) = false := by
  rw [List.mem_eraseIdx_iff_getElem?]
  have hinj : ∀ (a b : Nat) (p q : MapEntry), l[a]? = some p → l[b]? = some q → p.born = q.born → a = b := fun a b p q ha hb he => by
    have h1 : (l.map (·.born))[a]? = some p.born := by rw [List.getElem?_map, ha]; rfl
    have h2 : (l.map (·.born))[b]? = some p.born := by rw [List.getElem?_map, hb, he]; rfl
    exact (List.getElem?_inj (lt_of_some h1) hn).1 (h1.trans h2.symm)
  constructor
  · rintro ⟨i, hi, hx⟩
    refine ⟨List.mem_of_getElem? hx, ?_⟩
    rw [beq_eq_false_iff_ne]
    exact fun hb => hi (hinj i j x e hx hj hb)
  · rintro ⟨hx, hb⟩
    obtain ⟨i, hi⟩ := List.getElem?_of_mem hx
    refine ⟨i, fun e2 => ?_, hi⟩
    subst e2
    rw [hj] at hi; cases hi
    simp at hb

/-- A walk's own block turns. -/
theorem Rel.setIter [VR : Vars] (h : Rel w0 ω0 w g st vs) {id m : Nat} {es todo todo' : List (AVal × AVal)} {cur cur' : Option (AVal × AVal)} (hq : st.H[id]? = some (.iter m es todo cur)) {ob' : Obj} (hob : ∀ c t r, ob' ≠ .cells c t r)
    (hr : (∀ {a : AVal} {v : Value}, Rep w g.I g.η st.H.length a v → Rep { w with heap := w.heap.setIfInBounds (g.η id) ob' } g.I g.η st.H.length a v) → ({ w with heap := w.heap.setIfInBounds (g.η id) ob' } : World).heap[g.η id]? = some ob' →
      (∀ b, b ≠ g.η id → ({ w with heap := w.heap.setIfInBounds (g.η id) ob' } : World).heap[b]? = w.heap[b]?) → RepObj { w with heap := w.heap.setIfInBounds (g.η id) ob' } g.I g.ω g.η st.H.length id (.iter m es todo' cur')) :
    Rel w0 ω0 { w with heap := w.heap.setIfInBounds (g.η id) ob' } g { st with H := st.H.set id (.iter m es todo' cur') } vs := by
  obtain ⟨h1, h2, h3, ents, clock, since, c0, seen, rs, h4, h5, _⟩ := h.base.heap id _ hq
  have hid := lt_of_some hq
  obtain ⟨hlm, hlk⟩ := h.base.lock id m es todo cur hq
  obtain ⟨hs1, hs2⟩ := heap_setObj (ob' := ob') h5
  have hcell : ∀ b o, ({ w with heap := w.heap.setIfInBounds (g.η id) ob' } : World).cell? ⟨b, o, none⟩ = w.cell? ⟨b, o, none⟩ ∧ ({ w with heap := w.heap.setIfInBounds (g.η id) ob' } : World).frozen? ⟨b, o, none⟩ = w.frozen? ⟨b, o, none⟩ := fun b o => by
    by_cases e : b = g.η id
    · subst e
      simp only [World.cell?, World.frozen?, hs1, h5]
      cases ob' <;> first | exact absurd rfl (hob _ _ _) | exact ⟨trivial, trivial⟩ | exact ⟨rfl, rfl⟩
    · exact cell_of_heap (hs2 b e) o
  have hsame : Same (fun q => q = .h id) w g st.H.length { w with heap := w.heap.setIfInBounds (g.η id) ob' } g := by
    refine ⟨fun b o _ _ => ⟨rfl, (hcell b o).1⟩, fun b hb ⟨o, id', e, hX⟩ => hs2 b (fun e2 => ?_), fun _ _ => rfl⟩
    subst e2
    rcases h.base.sep _ 0 o id h1 with e3 | e3
    · rw [e3] at e; cases e; exact hX rfl
    · rw [e3] at e; cases e
  have hmono : ∀ {a : AVal} {v : Value}, Rep w g.I g.η st.H.length a v → Rep { w with heap := w.heap.setIfInBounds (g.η id) ob' } g.I g.η st.H.length a v := fun hh => hh.mono (fun b o hb => ⟨hb, (hcell b o).1⟩) (Nat.le_refl _) (fun _ _ => rfl)
  have hlen : (st.H.set id (.iter m es todo' cur')).length = st.H.length := by simp
  have hlock : Locks (st.H.set id (.iter m es todo' cur')) := fun id' m' es' t c hp => by
    by_cases e : id = id'
    · subst e
      simp only [List.getElem?_set, if_true, if_pos hid] at hp
      cases hp
      exact ⟨hlm, by rw [List.getElem?_set_ne (by omega)]; exact hlk⟩
    · rw [List.getElem?_set_ne e] at hp
      obtain ⟨h6, h7⟩ := h.base.lock id' m' es' t c hp
      refine ⟨h6, ?_⟩
      rw [List.getElem?_set_ne (fun e2 => by subst e2; rw [hq] at h7; cases h7)]; exact h7
  refine ⟨⟨fun id' q hp => ?_, fun b o hb => by have := h.base.live b o hb; simpa using this, fun b o h5 h6 h7 => by rw [(hcell b o).2]; exact h.base.soft b o h5 h6 h7, fun b o hb => by rw [(hcell b o).1]; exact h.base.tail b o hb, h.base.sep, fun b o id' hb => by rw [hlen]; exact h.base.low b o id' hb, hlock⟩, h.len, fun s a v h5 h6 => ?_, h.mine, h.past, ?_, by rw [hlen]; exact h.old⟩
  · rw [hlen]
    by_cases e : id = id'
    · subst e
      simp only [List.getElem?_set, if_true, if_pos hid] at hp
      cases hp
      exact hr hmono hs1 hs2
    · simp only [List.getElem?_set, if_neg e] at hp
      exact hsame.objs (by simp) (Nat.le_refl _) h.base hp (by simp; exact fun hh => e hh.symm) (by simp) (fun m' es' t c e' hh => by
        subst e'
        have := (h.base.lock id' m' es' t c hp).2
        cases hh
        rw [hq] at this; cases this)
  · rw [hlen]
    exact hsame.slot (by simp) (Nat.le_refl _) (by simp) (by simp) (fun _ => rfl) (fun _ _ => rfl) (h.slot s a v h5 h6)
  · refine ⟨h.keeps.os, h.keeps.tape, h.keeps.output, by simpa using h.keeps.size, fun b hb hh hh2 => ?_, fun b o hb hh hh2 => ⟨(hcell b o).1.trans (h.keeps.cell b o hb hh hh2).1, (hcell b o).2.trans (h.keeps.cell b o hb hh hh2).2⟩, h.keeps.vars⟩
    have : b ≠ g.η id := fun e => by
      subst e
      exact hh 0 id ((h.past _ hb 0).2 id h1)
    exact (hs2 b this).trans (h.keeps.block b hb hh hh2)

theorem next_sound [VR : Vars] (h : Rel w0 ω0 w g st vs) {id m : Nat} {es todo : List (AVal × AVal)} (e : nextOf st o.op = some (id, m, es, todo)) :
    (todo = [] ∧ (execOp (Act.eval ⟨vs, []⟩) o).run P w = .ok (.value (.tuple #[.bool false])) w) ∨
    ∃ j w' K V, j < todo.length ∧ (execOp (Act.eval ⟨vs, []⟩) o).run P w = .ok (.value (.tuple #[.bool true, K, V])) w' ∧
      Rel w0 ω0 w' g { st with H := st.H.set id (.iter m es (todo.eraseIdx j) (some (todo.getD j (.undef, .undef)))) } vs ∧
      Rep w' g.I g.η st.H.length (todo.getD j (.undef, .undef)).1 K ∧ Rep w' g.I g.η st.H.length (todo.getD j (.undef, .undef)).2 V := by
  unfold nextOf at e
  split at e
  · rename_i x ho
    split at e
    · rename_i id' hx
      split at e
      · rename_i m' es' todo' cur hes
        cases e
        have hxr := ev_ne h hx (by simp) (by simp)
        have hxv : Act.eval ⟨vs, []⟩ x = .pointer (some ⟨g.η id, 0, none⟩) := by
          generalize Act.eval ⟨vs, []⟩ x = M at hxr; cases hxr; rfl
        obtain ⟨h1, h2, h3, ents, clock, since, c0, seen, rs, h4, h5, h6, h7, h8, h9, h10, h11, h12, h13, h14⟩ := h.base.heap id _ hes
        have hleft : ∀ x, x ∈ (Go.leftOf ents seen).toList ↔ x ∈ rs := fun x => by
          rw [h11]
          unfold Go.leftOf
          rw [Array.mem_toList_iff, Array.mem_filter, Array.mem_toList_iff]
          simp
        rcases run_next_at (P := P) (ty := o.type) h5 h4 h7 h8.1 with ⟨h15, hrun⟩ | ⟨e, he, w1, hw1, hw2, hw3, hw4, hrun⟩
        · left
          have hrs : rs = [] := by
            cases hr : rs with
            | nil => rfl
            | cons x l =>
              have := (hleft x).2 (by rw [hr]; simp)
              have h16 : (Go.leftOf ents seen).toList = [] := List.eq_nil_of_length_eq_zero (by simpa using h15)
              rw [h16] at this; simp at this
          refine ⟨List.eq_nil_of_length_eq_zero (by rw [← h10, hrs]; rfl), ?_⟩
          simp only [execOp, ho, hxv]
          exact run_value hrun
        · right
          obtain ⟨j, hj, hje⟩ := List.getElem_of_mem ((hleft e).1 he)
          have hjt : j < todo.length := by omega
          have hR1 : Rel w0 ω0 w1 g st vs := h.of_heap hw1 hw2 hw3 hw4
          have hrj : rs[j]? = some e := by rw [List.getElem?_eq_getElem hj, hje]
          have htd : todo[j]? = some (todo.getD j (.undef, .undef)) := by simp [List.getD, List.getElem?_eq_getElem hjt]
          obtain ⟨a1, a2, a3, a4⟩ := h13 j _ _ e (by rw [htd]) hrj
          have hmem := (h11 e).1 ((hleft e).1 he)
          have hmono1 : ∀ {a : AVal} {v : Value}, Rep w g.I g.η st.H.length a v → Rep w1 g.I g.η st.H.length a v := fun hh => hh.mono (fun b o hb => ⟨hb, (cell_of_heap (by rw [hw1]) o).1⟩) (Nat.le_refl _) (fun _ _ => rfl)
          have hne : g.η m ≠ g.η id := fun e2 => by rw [e2, h1] at h2; cases h2; exact absurd (h.base.lock _ _ _ _ _ hes).1 (by omega)
          have hR := hR1.setIter hes (ob' := .mapIter (some (g.η m)) since (seen.push e.born) clock) (todo' := todo.eraseIdx j) (cur' := some (todo.getD j (.undef, .undef))) (by simp) (fun hm hs1 hs2 => by
            refine ⟨h1, h2, h3, ents, clock, since, clock, seen.push e.born, rs.eraseIdx j, (hs2 _ hne).trans (by rw [hw1]; exact h4), hs1, h6, h7, ⟨h8.2, h8.2⟩, fun i k x e he hi => ?_, by rw [List.length_eraseIdx, List.length_eraseIdx, h10], fun x => ?_, ?_, fun i k x e' he hi => ?_, fun k x hc => ?_⟩
            · obtain ⟨a, b, c, d⟩ := h9 i k x e he hi
              exact ⟨hm (hmono1 a), hm (hmono1 b), c, d⟩
            · rw [mem_erase_born h12 hrj, h11, Go.contains_push]
              simp [and_assoc]
            · exact List.Nodup.sublist ((List.eraseIdx_sublist _ _).map _) h12
            · rw [List.getElem?_eraseIdx] at he hi
              by_cases hij : i < j
              · rw [if_pos hij] at he hi
                obtain ⟨a, b, c, d⟩ := h13 i k x e' he hi
                exact ⟨hm (hmono1 a), hm (hmono1 b), c, d⟩
              · rw [if_neg hij] at he hi
                obtain ⟨a, b, c, d⟩ := h13 (i + 1) k x e' he hi
                exact ⟨hm (hmono1 a), hm (hmono1 b), c, d⟩
            · have e1 := Option.some.inj hc
              rw [e1] at a1 a2 a3 a4
              exact ⟨e, seen, hmem.1, rfl, rfl, hm (hmono1 a1), hm (hmono1 a2), a3, a4⟩)
          have hm2 : ∀ {a : AVal} {v : Value}, Rep w g.I g.η st.H.length a v → Rep { w1 with heap := w1.heap.setIfInBounds (g.η id) (.mapIter (some (g.η m)) since (seen.push e.born) clock) } g.I g.η st.H.length a v := fun hh => by
            refine (hmono1 hh).mono (fun b o hb => ⟨hb, ?_⟩) (Nat.le_refl _) (fun _ _ => rfl)
            have h5' : w1.heap[g.η id]? = some (.mapIter (some (g.η m)) since seen c0) := by rw [hw1]; exact h5
            obtain ⟨hs1, hs2⟩ := heap_setObj (ob' := .mapIter (some (g.η m)) since (seen.push e.born) clock) h5'
            by_cases e2 : b = g.η id
            · subst e2
              simp only [World.cell?, hs1, h5']
            · exact (cell_of_heap (hs2 b e2) o).1
          refine ⟨j, _, e.key, e.val, hjt, ?_, hR, hm2 a1, hm2 a2⟩
          simp only [execOp, ho, hxv]
          exact run_value hrun
      · cases e
    · cases e
  · cases e

/-! ### The prover's own steps -/
theorem Rel.frz [VR : Vars] (h : Rel w0 ω0 w g st vs) (t : Nat) : ∃ g', Rel w0 ω0 w g' { st with ts := st.ts.set t (stillV (st.ts.getD t .undef)) } vs := by
  have hsame0 : ∀ a, st.ts.getD t .undef = a → (∀ cs, a ≠ .lbox cs) → stillV a = a := fun a _ hn => by cases a <;> first | rfl | exact absurd rfl (hn _)
  by_cases hb : ∃ cs, st.ts.getD t .undef = .lbox cs
  · obtain ⟨cs, hcs⟩ := hb
    rw [hcs]
    have ht : st.ts[t]? = some (.lbox cs) := by
      rcases hq : st.ts[t]? with _ | q
      · simp [List.getD, hq] at hcs
      · simp [List.getD, hq] at hcs; rw [hcs]
    have htl := lt_of_some ht
    obtain ⟨vt, hvt⟩ : ∃ v, vs[t]? = some v := ⟨_, Array.getElem?_eq_getElem (by rw [← h.len]; exact htl)⟩
    obtain ⟨q1, q2, q3⟩ := h.slot t _ _ ht hvt
    let g' : Gh := { g with ω := fun b o => if g.ω b o = .box t then .imm else g.ω b o }
    have hω : ∀ b o, g.ω b o ≠ .box t → g'.ω b o = g.ω b o := fun b o hn => if_neg hn
    have hbox : ∀ b o, g.ω b o = .box t → g'.ω b o = .imm := fun b o e => if_pos e
    have hsame : Same (fun q => q = .box t) w g st.H.length w g' := ⟨fun b o _ hX => ⟨hω b o hX, rfl⟩, fun _ _ _ => rfl, fun _ _ => rfl⟩
    have hback : ∀ b o q, g'.ω b o = q → q ≠ .imm → g.ω b o = q := fun b o q e hq => by
      by_cases e2 : g.ω b o = .box t
      · exact absurd ((hbox b o e2).symm.trans e) (Ne.symm hq)
      · rw [← hω b o e2]; exact e
    have hlive : ∀ b o, g'.ω b o ≠ .free → g.ω b o ≠ .free := fun b o hn e => hn (by rw [hω b o (by rw [e]; simp)]; exact e)
    refine ⟨g', ⟨fun id o ho => hsame.objs (by simp) (Nat.le_refl _) h.base ho (by simp) (by simp) (by simp), fun b o hb => h.base.live b o (hlive b o hb), fun b o h1 h2 h3 => ?_, fun b o hb => h.base.tail b o (hb.imp (fun ⟨s, i, e⟩ => ⟨s, i, hback b o _ e (by simp)⟩) (fun ⟨s, i, e⟩ => ⟨s, i, hback b o _ e (by simp)⟩)), fun b o o' id hb => ?_, fun b o id hb => h.base.low b o id (hb.imp (fun e => hback b o _ e (by simp)) (fun ⟨i, e⟩ => ⟨i, hback b o _ e (by simp)⟩)), h.base.lock⟩,
      by simpa using h.len, fun s a v h1 h2 => ?_, fun b o hb => ?_, fun b hb o => ?_, h.keeps, h.old⟩
    · exact h.base.soft b o (hlive b o h1) (fun e => h2 (by rw [hω b o (by rw [e]; simp)]; exact e)) (fun id e => h3 id (by rw [hω b o (by rw [e]; simp)]; exact e))
    · rcases h.base.sep b o o' id (hback b o _ hb (by simp)) with e | e
      · left; rw [hω b o' (by rw [e]; simp)]; exact e
      · right; rw [hω b o' (by rw [e]; simp)]; exact e
    · simp only [List.getElem?_set] at h1
      by_cases e : t = s
      · subst e
        rw [if_pos rfl, if_pos htl] at h1
        cases h1
        rw [hvt] at h2; cases h2
        have hcell : ∀ (o : Nat) c, cs[o]? = some c → plain c = true ∧ ∃ x, w.cell? ⟨g.β t, o, none⟩ = some x ∧ Rep w g'.I g'.η st.H.length (dis c) x := fun o c hc => by
          obtain ⟨p1, x, p2, p3⟩ := q3 o c hc
          refine ⟨p1, x, p2, Rep.dis ?_⟩
          exact hsame.rep (by simp) (Nat.le_refl _) p3.1
        have himm : ∀ o, o < cs.length → g'.I (g.β t) o := fun o ho => hbox _ _ (q2 o ho)
        have hval : ∀ o, o < cs.length → w.cell? ⟨g.β t, o, none⟩ = some ((w.cell? ⟨g.β t, o, none⟩).getD undef) := fun o ho => by
          obtain ⟨_, x, hx, _⟩ := hcell o cs[o] (List.getElem?_eq_getElem ho)
          rw [hx]; rfl
        rw [q1]
        have hagg : Rep w g'.I g'.η st.H.length (.rptr (.agg (cs.map dis))) (.pointer (some ⟨g.β t, 0, none⟩)) := by
          refine .rptr _ _ _ (fun o => (w.cell? ⟨g.β t, o, none⟩).getD undef) (List.all_eq_true.2 fun c hc => ?_) (fun j hj => ?_) (fun j x hx => ?_)
          · obtain ⟨c0, hc0, rfl⟩ := List.mem_map.1 hc
            obtain ⟨i, hi⟩ := List.getElem?_of_mem hc0
            rw [plain_dis]; exact (hcell i c0 hi).1
          · simp only [AVal.cells, List.length_map] at hj
            rw [Nat.zero_add]
            exact ⟨himm j hj, hval j hj⟩
          · simp only [AVal.cells, List.getElem?_map, Option.map_eq_some_iff] at hx
            obtain ⟨c0, hc0, rfl⟩ := hx
            obtain ⟨_, x, hx, hr⟩ := hcell j c0 hc0
            simp only [hx, Option.getD_some]; exact hr
        rcases cs with _ | ⟨c, _ | ⟨c', l⟩⟩
        · exact ⟨hagg, fun e n f he => by cases he⟩
        · obtain ⟨p1, x, p2, p3⟩ := hcell 0 c rfl
          have hpc : plainAgg (dis c) = true := by
            have : plain (dis c) = true := by rw [plain_dis]; exact p1
            cases hd : dis c <;> rw [hd] at this <;> first | exact this | (simp [plain] at this)
          have hcc : (dis c).cells = [dis c] := by
            have : plain (dis c) = true := by rw [plain_dis]; exact p1
            cases hd : dis c <;> rw [hd] at this <;> first | rfl | (simp [plain] at this)
          refine ⟨.rptr _ _ _ (fun _ => x) hpc (fun j hj => ?_) (fun j y hy => ?_), fun e n f he => by cases he⟩
          · rw [hcc] at hj
            have : j = 0 := by simpa using hj
            subst this
            exact ⟨himm 0 (by simp), p2⟩
          · rw [hcc] at hy
            rcases j with _ | j
            · simp at hy; subst hy; exact p3
            · simp at hy
        · exact ⟨hagg, fun e n f he => by cases he⟩
      · rw [if_neg e] at h1
        exact hsame.slot (by simp) (Nat.le_refl _) (by simp; exact fun hh => e hh.symm) (by simp) (fun _ => rfl) (fun _ _ => rfl) (h.slot s a v h1 h2)
    · rcases hb with ⟨s, hb⟩ | ⟨s, i, hb⟩
      · exact h.mine b o (.inl ⟨s, hback b o _ hb (by simp)⟩)
      · exact h.mine b o (.inr ⟨s, i, hback b o _ hb (by simp)⟩)
    · refine ⟨fun hno => ?_, fun id hh => (h.past b hb o).2 id (hback b o _ hh (by simp))⟩
      rw [hω b o (fun e => by
        rcases h.mine b o (.inl ⟨t, e⟩) with h1 | ⟨id, i, h1⟩
        · omega
        · exact hno _ _ h1)]
      exact (h.past b hb o).1 hno
  · refine ⟨g, ?_⟩
    rw [hsame0 _ rfl (fun cs e => hb ⟨cs, e⟩)]
    refine h.set1 t (fun a v h1 h2 => ?_)
    have : st.ts.getD t .undef = a := by simp [List.getD, h1]
    rw [this]; exact h.slot t a v h1 h2

theorem Rel.unlock [VR : Vars] (h : Rel w0 ω0 w g st vs) (id : Nat) : Rel w0 ω0 w g { st with H := unlockAt st.H id } vs := by
  unfold unlockAt
  split
  · rename_i m es todo cur hq
    obtain ⟨h1, h2, h3, ents, clock, since, c0, seen, rs, h4, h5, h6, h7, h8, h9, h10, h11, h12, h13, h14⟩ := h.base.heap id _ hq
    obtain ⟨hlm, hlk⟩ := h.base.lock id m es todo cur hq
    have hid := lt_of_some hq
    have hlen : ((st.H.set m (.map es)).set id (.arr [])).length = st.H.length := by simp
    have hlock : Locks ((st.H.set m (.map es)).set id (.arr [])) := fun id' m' es' t c hp => by
      by_cases e : id = id'
      · subst e
        rw [List.getElem?_set] at hp
        simp only [if_true] at hp
        split at hp <;> cases hp
      · rw [List.getElem?_set_ne e] at hp
        by_cases e2 : m = id'
        · subst e2
          rw [List.getElem?_set] at hp
          simp only [if_true] at hp
          split at hp <;> cases hp
        · rw [List.getElem?_set_ne e2] at hp
          obtain ⟨h15, h16⟩ := h.base.lock id' m' es' t c hp
          refine ⟨h15, ?_⟩
          rw [List.getElem?_set_ne (fun e3 => by subst e3; rw [hq] at h16; cases h16), List.getElem?_set_ne (fun e3 => by subst e3; rw [hlk] at h16; cases h16; exact e rfl)]; exact h16
    refine ⟨⟨fun id' p hp => ?_, h.base.live, h.base.soft, h.base.tail, h.base.sep, fun b o id' hb => by rw [hlen]; exact h.base.low b o id' hb, hlock⟩, h.len, fun s a v h5 h6 => ?_, h.mine, h.past, h.keeps, by rw [hlen]; exact h.old⟩
    · rw [hlen]
      by_cases e : id = id'
      · subst e
        rw [List.getElem?_set] at hp
        simp only [if_true, List.length_set, if_pos hid] at hp
        cases hp
        exact ⟨fun o ho => by simp at ho, fun o c hc => by simp at hc⟩
      · rw [List.getElem?_set_ne e] at hp
        by_cases e2 : m = id'
        · subst e2
          rw [List.getElem?_set] at hp
          simp only [if_true, if_pos h3] at hp
          cases hp
          exact ⟨h2, ents, clock, h4, h6, h9⟩
        · rw [List.getElem?_set_ne e2] at hp
          exact h.base.heap id' p hp
    · rw [hlen]; exact h.slot s a v h5 h6
  · exact h

theorem Rel.ghosts [VR : Vars] : ∀ (l : List Ghost) {g : Gh} {st : St}, Rel w0 ω0 w g st vs → ∃ g', Rel w0 ω0 w g' (AM.ghosts st l) vs
  | [], g, st, h => ⟨g, h⟩
  | x :: l, g, st, h => by
    cases x with
    | frz s =>
      obtain ⟨g', h'⟩ := h.frz s
      exact Rel.ghosts l h'
    | unl s =>
      simp only [AM.ghosts, ghost1]
      split
      · rename_i id off e
        exact Rel.ghosts l (h.unlock id)
      · exact Rel.ghosts l h
    | vec s =>
      simp only [AM.ghosts, ghost1]
      split
      · rename_i e n f hs
        cases hb : (Nat.blt 0 e && Nat.beq n 0) with
        | false => exact Rel.ghosts l h
        | true =>
          simp only [Bool.and_eq_true] at hb
          have hn := Nat.eq_of_beq_eq_true hb.2
          subst hn
          have he : 0 < e := by have := hb.1; rwa [Nat.blt_eq] at this
          have h1 := getD_some hs (by simp)
          have hl := lt_of_some h1
          refine Rel.ghosts l (g := g) ⟨h.base, by simpa using h.len, fun s' a v h2 h3 => ?_, h.mine, h.past, h.keeps, h.old⟩
          by_cases es : s = s'
          · subst es
            simp only [cond_true, List.getElem?_set_self hl] at h2; cases h2
            have hr : RepPl w g st.H.length s 0 (.slice .nil e 0 f) v := h.slot s _ v h1 h3
            refine ⟨he, by simp, .inl ⟨?_, rfl⟩⟩
            have hr := hr.1
            cases hr with
            | slice _ _ _ _ ad cap vals hc hx hn ha hl hp hrr =>
              obtain ⟨h4, h5⟩ := hn rfl
              rw [h4, h5]
          · simp only [cond_true, List.getElem?_set_ne es] at h2
            exact h.slot s' a v h2 h3
      · exact Rel.ghosts l h
end
end Go.AM
