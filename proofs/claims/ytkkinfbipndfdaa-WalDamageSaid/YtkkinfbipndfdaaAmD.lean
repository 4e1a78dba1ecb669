/- Steps of the world: a new block; cells that are written; draws. -/
import Derived.Test.YtkkinfbipndfdaaAmC
set_option linter.unusedVariables false
set_option linter.unusedSimpArgs false
namespace Go.AM
open Go.RowKit

theorem lt_of_some {α : Type} {l : List α} {i : Nat} {a : α} (h : l[i]? = some a) : i < l.length := by
  rcases Nat.lt_or_ge i l.length with h1 | h1
  · exact h1
  · rw [List.getElem?_eq_none h1] at h; cases h
theorem alt_of_some {α : Type} {l : Array α} {i : Nat} {a : α} (h : l[i]? = some a) : i < l.size := by
  rcases Nat.lt_or_ge i l.size with h1 | h1
  · exact h1
  · rw [Array.getElem?_eq_none h1] at h; cases h

section
variable {w0 : World} {ω0 : Entry} {w : World} {g : Gh} {st : St} {vs : Array Value}

/-- The machine's draws leave the memory as it is. -/
theorem Rel.of_heap [VR : Vars] (h : Rel w0 ω0 w g st vs) {w' : World} (h1 : w'.heap = w.heap) (h2 : w'.os = w.os) (h3 : w'.tape = w.tape) (h4 : w'.output = w.output) : Rel w0 ω0 w' g st vs := by
  obtain ⟨heap', tape', drawn', os', output'⟩ := w'
  obtain ⟨heap, tape, drawn, os, output⟩ := w
  simp only at h1 h2 h3 h4
  subst h1; subst h2; subst h3; subst h4
  have hsame : Same (fun _ => False) (⟨heap', tape', drawn, os', output'⟩ : World) g st.H.length ⟨heap', tape', drawn', os', output'⟩ g := ⟨fun b o _ _ => ⟨rfl, rfl⟩, fun _ _ _ => rfl, fun _ _ => rfl⟩
  exact ⟨⟨fun id o ho => hsame.objs (by simp) (Nat.le_refl _) h.base ho (by simp) (by simp) (by simp), h.base.live, h.base.soft, h.base.tail, h.base.sep, h.base.low, h.base.lock⟩, h.len,
    fun s a v h1 h2 => hsame.slot (by simp) (Nat.le_refl _) (by simp) (by simp) (fun _ => rfl) (fun _ _ => rfl) (h.slot s a v h1 h2), h.mine, h.past, ⟨h.keeps.os, h.keeps.tape, h.keeps.output, h.keeps.size, h.keeps.block, h.keeps.cell, h.keeps.vars⟩, h.old⟩

/-- What slot d held falls. -/
def clr (d : Nat) (o : Owner) : Owner :=
  match o with
  | .box s => if s = d then .free else .box s
  | .tail s i => if s = d then .free else .tail s i
  | o => o
def ofSlot (d : Nat) (o : Owner) : Prop := o = .box d ∨ ∃ i, o = .tail d i

theorem clr_keep {d : Nat} {o : Owner} (h : ¬ ofSlot d o) : clr d o = o := by
  cases o with
  | box s => simp only [clr]; rw [if_neg]; rintro rfl; exact h (.inl rfl)
  | tail s i => simp only [clr]; rw [if_neg]; rintro rfl; exact h (.inr ⟨i, rfl⟩)
  | _ => rfl
theorem clr_free {d : Nat} {o : Owner} (h : clr d o ≠ .free) : clr d o = o ∧ o ≠ .free := by
  cases o with
  | box s => simp only [clr] at h ⊢; split at h <;> simp_all
  | tail s i => simp only [clr] at h ⊢; split at h <;> simp_all
  | free => exact absurd rfl h
  | _ => exact ⟨rfl, by simp⟩
theorem clr_imm {d : Nat} {o : Owner} : clr d o = .imm ↔ o = .imm := by
  cases o with
  | box s => simp only [clr]; split <;> simp
  | tail s i => simp only [clr]; split <;> simp
  | _ => simp [clr]
theorem clr_ht {d : Nat} {o : Owner} {id i : Nat} : clr d o = .ht id i ↔ o = .ht id i := by
  cases o with
  | box s => simp only [clr]; split <;> simp
  | tail s i => simp only [clr]; split <;> simp
  | _ => simp [clr]
theorem clr_h {d : Nat} {o : Owner} {id : Nat} : clr d o = .h id ↔ o = .h id := by
  cases o with
  | box s => simp only [clr]; split <;> simp
  | tail s i => simp only [clr]; split <;> simp
  | _ => simp [clr]

/-- The ghosts behind a new block n, whose cells get the owners 'own'. -/
def Gh.fresh (g : Gh) (n : Nat) (d : Nat) (own : Nat → Owner) (β' : Nat) (N : Nat) : Gh where
  ω := fun b o => if b = n then own o else clr d (g.ω b o)
  η := fun id => if id < N then g.η id else n
  β := fun s => if s = d then β' else g.β s

theorem getElem?_killed {ts : List AVal} {d s : Nat} {a : AVal} {kl : Bool} (h : (if kl then ts.map (kill d) else ts)[s]? = some a) : ∃ a0, ts[s]? = some a0 ∧ (a = a0 ∨ a = .undef) ∧ (kl = true → ptrTo a ≠ some d) := by
  cases kl with
  | false => exact ⟨a, h, .inl rfl, by simp⟩
  | true =>
    simp only [if_true, List.getElem?_map, Option.map_eq_some_iff] at h
    obtain ⟨a0, h0, rfl⟩ := h
    refine ⟨a0, h0, ?_, fun _ => ?_⟩
    · cases a0 with
      | lptr s' off => simp only [kill]; cases hb : Nat.beq s' d <;> simp
      | vref s' n => simp only [kill]; cases hb : Nat.beq s' d <;> simp
      | _ => exact .inl rfl
    · cases a0 with
      | lptr s' off =>
        simp only [kill]
        cases hb : Nat.beq s' d
        · simp only [cond_false, ptrTo]
          intro e; cases e
          exact absurd rfl (Nat.ne_of_beq_eq_false hb)
        · simp [ptrTo]
      | vref s' n =>
        simp only [kill]
        cases hb : Nat.beq s' d
        · simp only [cond_false, ptrTo]
          intro e; cases e
          exact absurd rfl (Nat.ne_of_beq_eq_false hb)
        · simp [ptrTo]
      | _ => simp [kill, ptrTo]

theorem Rel.fresh [VR : Vars] (h : Rel w0 ω0 w g st vs) (d : Nat) (ob : Obj) (own : Nat → Owner) (H' : List HObj) (kl : Bool) (A : AVal) (x : Value) (β' : Nat)
    (hβ : kl = false → β' = g.β d)
    (hH : H' = st.H ∨ ∃ q, H' = st.H ++ [q] ∧ RepObj (w.alloc ob) (g.fresh w.heap.size d own β' st.H.length).I (g.fresh w.heap.size d own β' st.H.length).ω (g.fresh w.heap.size d own β' st.H.length).η H'.length st.H.length q)
    (hown : ∀ o, own o = .free ∨ own o = .imm ∨ ofSlot d (own o) ∨ (own o = .h st.H.length ∧ H'.length = st.H.length + 1))
    (hsoft : ∀ o, own o ≠ .free → own o ≠ .imm → (w.alloc ob).frozen? ⟨w.heap.size, o, none⟩ = false)
    (htail : ∀ o s i, own o = .tail s i → ∃ v, (w.alloc ob).cell? ⟨w.heap.size, o, none⟩ = some v)
    (hsep : ∀ o o' id, own o = .h id → own o' = .h id ∨ own o' = .free)
    (hA : RepSlot (w.alloc ob) (g.fresh w.heap.size d own β' st.H.length) H'.length d A x)
    (hlk : Locks H' := by first | exact h.base.lock | exact h.base.lock.append (fun _ _ _ _ e => by cases e)) :
    Rel w0 ω0 (w.alloc ob) (g.fresh w.heap.size d own β' st.H.length) { st with ts := (if kl then st.ts.map (kill d) else st.ts).set d A, H := H' } (vs.setIfInBounds d x) := by
  have hN : st.H.length ≤ H'.length := by
    rcases hH with rfl | ⟨q, rfl, _⟩ <;> simp
  have hne : ∀ b o, g.ω b o ≠ .free → b ≠ w.heap.size := fun b o hb e => by have := h.base.live b o hb; omega
  have hsame : Same (ofSlot d) w g st.H.length (w.alloc ob) (g.fresh w.heap.size d own β' st.H.length) := by
    refine ⟨fun b o hb hX => ⟨?_, World.cell?_alloc_old _ _ _ (hne b o hb)⟩, fun b hb ⟨o, id, e, _⟩ => Below.heap_alloc _ _ _ hb, fun id hid => by simp [Gh.fresh, hid]⟩
    show (if b = _ then _ else _) = _
    rw [if_neg (hne b o hb), clr_keep hX]
  have hωn : ∀ b o, (g.fresh w.heap.size d own β' st.H.length).ω b o ≠ .free → (b = w.heap.size ∧ own o ≠ .free ∧ (g.fresh w.heap.size d own β' st.H.length).ω b o = own o) ∨ (b ≠ w.heap.size ∧ g.ω b o ≠ .free ∧ (g.fresh w.heap.size d own β' st.H.length).ω b o = g.ω b o) := by
    intro b o hb
    by_cases e : b = w.heap.size
    · left; simp only [Gh.fresh, e, if_true] at hb ⊢; exact ⟨trivial, hb, trivial⟩
    · right; simp only [Gh.fresh, if_neg e] at hb ⊢
      obtain ⟨h1, h2⟩ := clr_free hb
      exact ⟨e, h2, h1⟩
  refine ⟨⟨?_, ?_, ?_, ?_, ?_, ?_, hlk⟩, ?_, ?_, ?_, ?_, ?_, ⟨Nat.le_trans h.old.1 hN, fun id hid => by rw [← h.old.2 id hid]; exact hsame.η id (Nat.lt_of_lt_of_le hid h.old.1)⟩⟩
  · intro id o ho
    rcases hH with rfl | ⟨q, rfl, hq⟩
    · exact hsame.objs (by simp [ofSlot]) hN h.base ho (by simp [ofSlot]) (by simp [ofSlot]) (by simp [ofSlot])
    · rcases Nat.lt_or_ge id st.H.length with hid | hid
      · rw [List.getElem?_append_left hid] at ho
        exact hsame.objs (by simp [ofSlot]) hN h.base ho (by simp [ofSlot]) (by simp [ofSlot]) (by simp [ofSlot])
      · rw [List.getElem?_append_right hid] at ho
        have e : id - st.H.length = 0 := by have := lt_of_some ho; simp at this; omega
        rw [e] at ho; simp at ho
        have e2 : id = st.H.length := by omega
        subst e2; subst ho; exact hq
  · intro b o hb
    rcases hωn b o hb with ⟨e, _, _⟩ | ⟨_, e, _⟩
    · rw [e]; simp
    · have := h.base.live b o e; simp; omega
  · intro b o hb1 hb2 hb3
    rcases hωn b o hb1 with ⟨e, e1, e2⟩ | ⟨e, e1, e2⟩
    · rw [e]; exact hsoft o e1 (by rw [← e2]; exact hb2)
    · rw [World.frozen?_alloc_old _ _ _ e]; exact h.base.soft b o e1 (by rw [← e2]; exact hb2) (fun id e3 => by
        have h4 := hb3 id (by rw [e2]; exact e3)
        have h5 := h.base.low b o id (.inl e3)
        simpa [Gh.fresh, h5] using h4)
  · intro b o hb
    have hf : (g.fresh w.heap.size d own β' st.H.length).ω b o ≠ .free := by rcases hb with ⟨s, i, hb⟩ | ⟨id, i, hb⟩ <;> (rw [hb]; simp)
    rcases hωn b o hf with ⟨e, e1, e2⟩ | ⟨e, e1, e2⟩
    · rw [e2] at hb
      rw [e]
      rcases hb with ⟨s, i, hb⟩ | ⟨id, i, hb⟩
      · exact htail o s i hb
      · rcases hown o with h1 | h1 | h1 | ⟨h1, h2⟩
        · rw [h1] at hb; cases hb
        · rw [h1] at hb; cases hb
        · rcases h1 with h1 | ⟨i, h1⟩ <;> (rw [h1] at hb; cases hb)
        · rw [h1] at hb; cases hb
    · rw [World.cell?_alloc_old _ _ _ e]; exact h.base.tail b o (by rw [← e2]; exact hb)
  · intro b o o' id hb
    rcases hωn b o (by rw [hb]; simp) with ⟨e, e1, e2⟩ | ⟨e, e1, e2⟩
    · subst e
      have := hsep o o' id (by rw [← e2]; exact hb)
      simpa [Gh.fresh] using this
    · rcases h.base.sep b o o' id (by rw [← e2]; exact hb) with e3 | e3
      · left; simp only [Gh.fresh, if_neg e, e3, clr]
      · right; simp only [Gh.fresh, if_neg e, e3, clr]
  · intro b o id hb
    have hf : (g.fresh w.heap.size d own β' st.H.length).ω b o ≠ .free := by rcases hb with hb | ⟨i, hb⟩ <;> (rw [hb]; simp)
    rcases hωn b o hf with ⟨e, e1, e2⟩ | ⟨e, e1, e2⟩
    · rw [e2] at hb
      rcases hown o with h1 | h1 | h1 | ⟨h1, h2⟩
      · rw [h1] at hb; rcases hb with hb | ⟨i, hb⟩ <;> cases hb
      · rw [h1] at hb; rcases hb with hb | ⟨i, hb⟩ <;> cases hb
      · rcases h1 with h1 | ⟨i, h1⟩ <;> (rw [h1] at hb; rcases hb with hb | ⟨i, hb⟩ <;> cases hb)
      · rw [h1] at hb
        rcases hb with hb | ⟨i, hb⟩
        · cases hb; simp only; omega
        · cases hb
    · exact Nat.lt_of_lt_of_le (h.base.low b o id (by rw [← e2]; exact hb)) hN
  · simp only [List.length_set, Array.size_setIfInBounds]
    rw [← h.len]; split <;> simp
  · intro s a v h1 h2
    have hlen1 : (if kl then st.ts.map (kill d) else st.ts).length = st.ts.length := by split <;> simp
    simp only [List.getElem?_set] at h1
    rw [getElem?_setIf] at h2
    by_cases e : d = s
    · subst e
      rw [if_pos rfl] at h1
      by_cases hlt : d < (if kl then st.ts.map (kill d) else st.ts).length
      · rw [if_pos hlt] at h1
        rw [if_pos ⟨rfl, by rw [← h.len]; omega⟩] at h2
        cases h1; cases h2; exact hA
      · rw [if_neg hlt] at h1; cases h1
    · rw [if_neg e] at h1; rw [if_neg (fun hh => e hh.1)] at h2
      obtain ⟨a0, h3, h4, h5⟩ := getElem?_killed h1
      rcases h4 with rfl | rfl
      · refine hsame.slot (by simp [ofSlot]) hN (by simp [ofSlot]; exact fun hh => e hh.symm) (fun i => by simp [ofSlot]; exact fun hh => e hh.symm) (fun _ => by simp [Gh.fresh, Ne.symm e]) (fun s' hh => ?_) (h.slot s a v h3 h2)
        by_cases hd : s' = d
        · subst hd
          cases kl with
          | true => exact absurd hh (h5 rfl)
          | false => simp [Gh.fresh, hβ rfl]
        · simp [Gh.fresh, hd]
      · trivial
  · intro b o hb
    have hf : (g.fresh w.heap.size d own β' st.H.length).ω b o ≠ .free := by
      rcases hb with ⟨s, e⟩ | ⟨s, i, e⟩ <;> (rw [e]; simp)
    rcases hωn b o hf with ⟨e, _, _⟩ | ⟨e, e1, e2⟩
    · rw [e]; exact .inl h.keeps.size
    · refine h.mine b o ?_
      rw [← e2]; exact hb
  · intro b hb o
    have hb' : b ≠ w.heap.size := by have := h.keeps.size; omega
    refine ⟨fun hno => ?_, fun id hh => (h.past b hb o).2 id (by
      have hh2 : (if b = w.heap.size then own o else clr d (g.ω b o)) = .h id := hh
      rw [if_neg hb'] at hh2; exact clr_h.1 hh2)⟩
    show (if b = _ then _ else _) = _
    rw [if_neg hb', clr_keep]
    · exact (h.past b hb o).1 hno
    · have hm : ¬ (w0.heap.size ≤ b ∨ ∃ id i, ω0.ω b o = .ht id i) := by
        rintro (h1 | ⟨id, i, h1⟩)
        · omega
        · exact hno _ _ h1
      rintro (e | ⟨i, e⟩)
      · exact hm (h.mine b o (.inl ⟨_, e⟩))
      · exact hm (h.mine b o (.inr ⟨_, _, e⟩))
  · exact ⟨h.keeps.os, h.keeps.tape, h.keeps.output, by have := h.keeps.size; simp; omega, fun b hb hh hh2 => (Below.heap_alloc _ _ _ (by have := h.keeps.size; omega)).trans (h.keeps.block b hb hh hh2),
      fun b o hb h1 h2 => by
        have hne : b ≠ w.heap.size := by have := h.keeps.size; omega
        obtain ⟨h3, h4⟩ := h.keeps.cell b o hb h1 h2
        exact ⟨(World.cell?_alloc_old _ _ _ hne).trans h3, (World.frozen?_alloc_old _ _ _ hne).trans h4⟩, h.keeps.vars⟩

/-- Cells of one block that are written, all of them held by owners of Y; the ghosts turn at those owners alone. -/
theorem Rel.write [VR : Vars] (h : Rel w0 ω0 w g st vs) (Y : Owner → Prop) (b o : Nat) (cs : List Value) (g' : Gh) (H' : List HObj) (ts' : List AVal) (vs' : Array Value)
    (hY : ∀ j, j < cs.length → Y (g.ω b (o + j))) (hYi : ¬ Y .imm) (hYf : ¬ Y .free) (hblk : (w0.heap.size ≤ b ∨ ∃ o id i, ω0.ω b o = .ht id i) ∨ ∃ o id, g.ω b o = .h id)
    (hω : ∀ b o, ¬ Y (g.ω b o) → g'.ω b o = g.ω b o) (hη : g'.η = g.η) (hβ : g'.β = g.β)
    (hω2 : ∀ b o, Y (g.ω b o) → (g'.ω b o = .free ∨ g'.ω b o = .imm ∨ (∃ s i, g.ω b o = .tail s i) ∧ (∃ s i, g'.ω b o = .tail s i) ∨ g'.ω b o = g.ω b o))
    (hHl : H'.length = st.H.length)
    (hH : ∀ id, Y (.h id) → ∀ q, H'[id]? = some q → RepObj (w.setCells b o cs) g'.I g'.ω g'.η H'.length id q)
    (hH' : ∀ id, ¬ Y (.h id) → H'[id]? = st.H[id]?)
    (hl : ts'.length = vs'.size)
    (hslot : ∀ (s : Nat) a v, ts'[s]? = some a → vs'[s]? = some v → (st.ts[s]? = some a ∧ vs[s]? = some v ∧ ¬ Y (.box s) ∧ (∀ i, ¬ Y (.tail s i))) ∨ RepSlot (w.setCells b o cs) g' H'.length s a v)
    (hcell : ∀ j, j < cs.length → (w.cell? ⟨b, o + j, none⟩).isSome = true)
    (hYh : ∀ id, Y (.h id) → ∀ b o, g.ω b o = .h id → g'.ω b o = .h id)
    (hYk : ∀ id, Y (.h id) → (∀ i, st.H[id]? ≠ some (.locked i)) ∧ ∀ m es t c, H'[id]? ≠ some (.iter m es t c)) (hYt : ∀ id i, ¬ Y (.ht id i) := by simp) :
    Rel w0 ω0 (w.setCells b o cs) g' { st with ts := ts', H := H' } vs' := by
  have hheap : ∀ k, k ≠ b → (w.setCells b o cs).heap[k]? = w.heap[k]? := fun k hk => go k hk cs w o
  have hsize : (w.setCells b o cs).heap.size = w.heap.size := size_set cs w o
  have hstreams := streams (b := b) cs w o
  have hout : ∀ b' o', ¬ Y (g.ω b' o') → (w.setCells b o cs).cell? ⟨b', o', none⟩ = w.cell? ⟨b', o', none⟩ := fun b' o' hn => by
    refine World.cell?_setCells_out b cs o w _ (fun e1 _ => ?_)
    simp only at e1 ⊢
    subst e1
    rcases Nat.lt_or_ge o' o with h1 | h1
    · exact .inl h1
    · rcases Nat.lt_or_ge o' (o + cs.length) with h2 | h2
      · exact absurd (hY (o' - o) (by omega)) (by rw [show o + (o' - o) = o' by omega]; exact hn)
      · exact .inr h2
  have hsame : Same Y w g st.H.length (w.setCells b o cs) g' := by
    refine ⟨fun b' o' hb hX => ⟨hω b' o' hX, hout b' o' hX⟩, fun b' hb ⟨o', id, e, hX⟩ => ?_, fun _ _ => by rw [hη]⟩
    by_cases e2 : b' = b
    · subst e2
      by_cases hc : cs = []
      · subst hc; rfl
      · have h0 : 0 < cs.length := by rcases cs with _ | _ <;> simp_all
        have hy0 := hY 0 h0
        rcases h.base.sep b' o' (o + 0) id e with e3 | e3
        · rw [e3] at hy0; exact absurd hy0 hX
        · rw [e3] at hy0; exact absurd hy0 hYf
    · exact hheap b' e2
  have hwas : ∀ b' o', g'.ω b' o' ≠ .free → g.ω b' o' ≠ .free := fun b' o' hn e => hn (by rw [hω b' o' (by rw [e]; exact hYf)]; exact e)
  refine ⟨⟨?_, ?_, ?_, ?_, ?_, ?_, h.base.lock.turn (fun id => Y (.h id)) hH' hYk⟩, hl, ?_, ?_, ?_, ?_, ⟨by simp only; rw [hHl]; exact h.old.1, fun id hid => by rw [hη]; exact h.old.2 id hid⟩⟩
  · intro id q hq
    by_cases hy : Y (.h id)
    · exact hH id hy q hq
    · rw [hH' id hy] at hq
      exact hsame.objs hYi (Nat.le_of_eq hHl.symm) h.base hq hy (hYt id) (fun m es t c e hm => by subst e; exact (hYk m hm).1 id (h.base.lock id m es t c hq).2)
  · intro b' o' hb; rw [hsize]; exact h.base.live b' o' (hwas _ _ hb)
  · intro b' o' h1 h2 h3
    rw [World.frozen?_setCells]
    refine h.base.soft b' o' (hwas _ _ h1) (fun e => h2 ?_) (fun id e => ?_)
    · rw [hω b' o' (by rw [e]; exact hYi)]; exact e
    · by_cases hy : Y (.h id)
      · rw [← hη]; exact h3 id (hYh id hy b' o' e)
      · rw [← hη]; exact h3 id (by rw [hω b' o' (by rw [e]; exact hy)]; exact e)
  · intro b' o' hb
    have hex : ∃ v, w.cell? ⟨b', o', none⟩ = some v := by
      by_cases hy : Y (g.ω b' o')
      · rcases hω2 b' o' hy with e | e | ⟨⟨s', i', e⟩, _⟩ | e
        · rw [e] at hb; rcases hb with ⟨s, i, hb⟩ | ⟨s, i, hb⟩ <;> cases hb
        · rw [e] at hb; rcases hb with ⟨s, i, hb⟩ | ⟨s, i, hb⟩ <;> cases hb
        · exact h.base.tail b' o' (.inl ⟨s', i', e⟩)
        · exact h.base.tail b' o' (by rw [← e]; exact hb)
      · exact h.base.tail b' o' (by rw [← hω b' o' hy]; exact hb)
    obtain ⟨v, hv⟩ := hex
    by_cases hin : b' = b ∧ o ≤ o' ∧ o' < o + cs.length
    · obtain ⟨rfl, h1, h2⟩ := hin
      have := World.cell?_setCells_in b' cs o w hcell (o' - o) (by omega)
      rw [show o + (o' - o) = o' by omega] at this
      exact ⟨_, this⟩
    · refine ⟨v, (World.cell?_setCells_out b cs o w _ (fun e1 _ => ?_)).trans hv⟩
      simp only at e1 ⊢
      rcases Nat.lt_or_ge o' o with h1 | h1
      · exact .inl h1
      · rcases Nat.lt_or_ge o' (o + cs.length) with h2 | h2
        · exact absurd ⟨e1, h1, h2⟩ hin
        · exact .inr h2
  · intro b' o1 o2 id hb
    have hb0 : g.ω b' o1 = .h id := by
      by_cases hy : Y (g.ω b' o1)
      · rcases hω2 b' o1 hy with e | e | ⟨_, ⟨s', i', e⟩⟩ | e
        · rw [e] at hb; cases hb
        · rw [e] at hb; cases hb
        · rw [e] at hb; cases hb
        · rw [← e]; exact hb
      · rw [← hω b' o1 hy]; exact hb
    rcases h.base.sep b' o1 o2 id hb0 with e | e
    · left
      by_cases hy : Y (.h id)
      · exact hYh id hy b' o2 e
      · rw [hω b' o2 (by rw [e]; exact hy)]; exact e
    · right; rw [hω b' o2 (by rw [e]; exact hYf)]; exact e
  · intro b' o1 id hb
    simp only; rw [hHl]
    refine h.base.low b' o1 id ?_
    by_cases hy : Y (g.ω b' o1)
    · rcases hω2 b' o1 hy with e | e | ⟨_, ⟨s', i', e⟩⟩ | e
      · rw [e] at hb; rcases hb with hb | ⟨i, hb⟩ <;> cases hb
      · rw [e] at hb; rcases hb with hb | ⟨i, hb⟩ <;> cases hb
      · rw [e] at hb; rcases hb with hb | ⟨i, hb⟩ <;> cases hb
      · rw [← e]; exact hb
    · rw [← hω b' o1 hy]; exact hb
  · intro s a v h1 h2
    rcases hslot s a v h1 h2 with ⟨h3, h4, h5, h6⟩ | h3
    · exact hsame.slot hYi (Nat.le_of_eq hHl.symm) h5 h6 (fun _ => by rw [hβ]) (fun _ _ => by rw [hβ]) (h.slot s a v h3 h4)
    · exact h3
  · intro b' o' hb
    refine h.mine b' o' ?_
    by_cases hy : Y (g.ω b' o')
    · rcases hω2 b' o' hy with e | e | ⟨e, _⟩ | e
      · rcases hb with ⟨s, hb⟩ | ⟨s, i, hb⟩ <;> (rw [e] at hb; cases hb)
      · rcases hb with ⟨s, hb⟩ | ⟨s, i, hb⟩ <;> (rw [e] at hb; cases hb)
      · exact .inr e
      · rw [← e]; exact hb
    · rw [← hω b' o' hy]; exact hb
  · intro b' hb o'
    refine ⟨fun hno => ?_, fun id hh => (h.past b' hb o').2 id (by
      by_cases hy : Y (g.ω b' o')
      · rcases hω2 b' o' hy with e | e | ⟨_, ⟨s', i', e⟩⟩ | e
        · rw [e] at hh; cases hh
        · rw [e] at hh; cases hh
        · rw [e] at hh; cases hh
        · rw [← e]; exact hh
      · rw [← hω b' o' hy]; exact hh)⟩
    by_cases hy : Y (g.ω b' o')
    · have e0 := (h.past b' hb o').1 hno
      have hm : ¬ (w0.heap.size ≤ b' ∨ ∃ id i, ω0.ω b' o' = .ht id i) := by
        rintro (h1 | ⟨id, i, h1⟩)
        · omega
        · exact hno _ _ h1
      cases hq : g.ω b' o' with
      | free => rw [hq] at hy; exact absurd hy hYf
      | imm => rw [hq] at hy; exact absurd hy hYi
      | box s => exact absurd (h.mine b' o' (.inl ⟨s, hq⟩)) hm
      | tail s i => exact absurd (h.mine b' o' (.inr ⟨s, i, hq⟩)) hm
      | h id => rw [hYh id (by rw [← hq]; exact hy) b' o' hq, ← e0, hq]
      | ht id i => rw [hq] at hy; exact absurd hy (hYt id i)
    · rw [hω b' o' hy]; exact (h.past b' hb o').1 hno
  · refine ⟨hstreams.1.trans h.keeps.os, hstreams.2.1.trans h.keeps.tape, hstreams.2.2.trans h.keeps.output, by rw [hsize]; exact h.keeps.size, fun k hk hh hh2 => ?_, fun k o' hk h1 h2 => ?_, h.keeps.vars⟩
    · by_cases e : k = b
      · subst e
        rcases hblk with (h1 | ⟨o1, id, i, h1⟩) | ⟨o1, id, h1⟩
        · omega
        · exact absurd h1 (hh2 o1 id i)
        · exact absurd (((h.past k hk o1).1 (hh2 o1)).symm.trans h1) (hh o1 id)
      · exact (hheap k e).trans (h.keeps.block k hk hh hh2)
    · have hny : ¬ Y (g.ω k o') := fun hy => by
        have e0 := (h.past k hk o').1 h2
        have hm : ¬ (w0.heap.size ≤ k ∨ ∃ id i, ω0.ω k o' = .ht id i) := by
          rintro (h3 | ⟨id, i, h3⟩)
          · omega
          · exact h2 _ _ h3
        cases hq : g.ω k o' with
        | free => rw [hq] at hy; exact hYf hy
        | imm => rw [hq] at hy; exact hYi hy
        | box s => exact hm (h.mine k o' (.inl ⟨s, hq⟩))
        | tail s i => exact hm (h.mine k o' (.inr ⟨s, i, hq⟩))
        | h id => exact h1 id (e0.symm.trans hq)
        | ht id i => exact h2 id i (e0.symm.trans hq)
      obtain ⟨h3, h4⟩ := h.keeps.cell k o' hk h1 h2
      exact ⟨(hout k o' hny).trans h3, (World.frozen?_setCells _ _ _ _ _).trans h4⟩
  where
  go (k : Nat) {b : Nat} (hk : k ≠ b) : ∀ (cs : List Value) (w : World) (o : Nat), (w.setCells b o cs).heap[k]? = w.heap[k]?
    | [], _, _ => rfl
    | c :: cs, w, o => by rw [World.setCells, go k hk cs]; exact Below.heap_setCell _ _ _ _ hk
  size_set {b : Nat} : ∀ (cs : List Value) (w : World) (o : Nat), (w.setCells b o cs).heap.size = w.heap.size
    | [], _, _ => rfl
    | c :: cs, w, o => by rw [World.setCells, size_set cs]; simp
  streams {b : Nat} : ∀ (cs : List Value) (w : World) (o : Nat), (w.setCells b o cs).os = w.os ∧ (w.setCells b o cs).tape = w.tape ∧ (w.setCells b o cs).output = w.output
    | [], _, _ => ⟨rfl, rfl, rfl⟩
    | c :: cs, w, o => by rw [World.setCells]; exact streams cs _ _

end
end Go.AM
