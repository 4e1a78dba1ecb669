/- Slices that a slot holds with all their cells: how they go over to another slot, how they are written. -/
import Derived.Test.YtkkinfbipndfdaaAmD
set_option linter.unusedVariables false
set_option linter.unusedSimpArgs false
namespace Go.AM
open Go.RowKit

section
variable {w0 : World} {ω0 : Entry} {w : World} {g : Gh} {st : St} {vs : Array Value}

def renB (t d : Nat) (o : Owner) : Owner := if o = .box t then .box d else if o = .box d then .free else o
theorem renB_of {t d : Nat} {o r : Owner} (hr : ∀ s, r ≠ .box s) (hf : r ≠ .free) : renB t d o = r ↔ o = r := by
  unfold renB
  by_cases h1 : o = .box t
  · rw [if_pos h1]
    exact ⟨fun e => absurd e.symm (hr d), fun e => absurd (e.symm.trans h1) (hr t)⟩
  · rw [if_neg h1]
    by_cases h2 : o = .box d
    · rw [if_pos h2]
      exact ⟨fun e => absurd e.symm hf, fun e => absurd (e.symm.trans h2) (hr d)⟩
    · rw [if_neg h2]
theorem renB_free {t d : Nat} {o : Owner} (h : renB t d o ≠ .free) : o ≠ .free := by
  intro e; subst e; apply h; simp [renB]
theorem renB_box {t d s : Nat} {o : Owner} (h : renB t d o = .box s) : ∃ s', o = .box s' := by
  unfold renB at h
  by_cases h1 : o = .box t
  · exact ⟨_, h1⟩
  · rw [if_neg h1] at h
    by_cases h2 : o = .box d
    · exact ⟨_, h2⟩
    · rw [if_neg h2] at h; exact ⟨_, h⟩
def Gh.renB (g : Gh) (t d : Nat) : Gh := { ω := fun b o => AM.renB t d (g.ω b o), η := g.η, β := fun s => if s = d then g.β t else g.β s }

/-- Pointers into slot d fall, some slots are forgotten. -/
theorem Rel.slots [VR : Vars] (h : Rel w0 ω0 w g st vs) {ts' : List AVal} (hl : ts'.length = st.ts.length) (hs : ∀ (s : Nat) a, ts'[s]? = some a → st.ts[s]? = some a ∨ a = .undef) : Rel w0 ω0 w g { st with ts := ts' } vs :=
  ⟨h.base, hl.trans h.len, fun s a v h1 h2 => by
    rcases hs s a h1 with e | e
    · exact h.slot s a v e h2
    · subst e; trivial, h.mine, h.past, h.keeps, h.old⟩

/-- Slot t's cells become slot d's, told as a slice of n' elements. -/
theorem Rel.vecMove [VR : Vars] (h : Rel w0 ω0 w g st vs) {t d e n' cap : Nat} {cs' : List AVal} (hu : st.ts.getD t .undef = .undef) (he : 0 < e) (hlen : cs'.length = n' * e) (hc : n' ≤ cap)
    (hown : ∀ o, o < cap * e → g.ω (g.β t) o = .box t ∧ (w.cell? ⟨g.β t, o, none⟩).isSome = true)
    (hcs : ∀ (o : Nat) c, cs'[o]? = some c → plain c = true ∧ isOwn0 c = false ∧ ∃ x, w.cell? ⟨g.β t, o, none⟩ = some x ∧ Rep w g.I g.η st.H.length c x) :
    Rel w0 ω0 w (g.renB t d) { st with ts := (st.ts.map (kill d)).set d (.vec e n' cs') } (vs.setIfInBounds d (.slice (some ⟨g.β t, 0, none⟩) n' cap)) := by
  have hsame : Same (fun o => o = .box t ∨ o = .box d) w g st.H.length w (g.renB t d) :=
    ⟨fun b o hb hX => ⟨by
      show AM.renB t d (g.ω b o) = _
      unfold AM.renB
      rw [if_neg (fun e => hX (.inl e)), if_neg (fun e => hX (.inr e))], rfl⟩, fun b _ _ => rfl, fun _ _ => rfl⟩
  have hof : ∀ {b o : Nat} {r : Owner}, (∀ s, r ≠ .box s) → r ≠ .free → ((g.renB t d).ω b o = r ↔ g.ω b o = r) := fun hr hf => renB_of hr hf
  refine ⟨⟨fun id o ho => hsame.objs (by simp) (Nat.le_refl _) h.base ho (by simp) (by simp) (by simp), fun b o hb => h.base.live b o (renB_free hb), fun b o h1 h2 h3 => h.base.soft b o (renB_free h1) (fun e => h2 ((hof (by simp) (by simp)).2 e)) (fun id e => h3 id ((hof (by simp) (by simp)).2 e)), fun b o hb => ?_, fun b o o' id hb => ?_, fun b o id hb => ?_, h.base.lock⟩, by simp [h.len], fun s a v h1 h2 => ?_, fun b o hb => ?_, fun b hb o => ⟨fun hn => ?_, fun id hh => (h.past b hb o).2 id ((hof (by simp) (by simp)).1 hh)⟩, h.keeps, h.old⟩
  · rcases hb with ⟨s, i, e⟩ | ⟨id, i, e⟩
    · exact h.base.tail b o (.inl ⟨s, i, (hof (by simp) (by simp)).1 e⟩)
    · exact h.base.tail b o (.inr ⟨id, i, (hof (by simp) (by simp)).1 e⟩)
  · rcases h.base.sep b o o' id ((hof (by simp) (by simp)).1 hb) with e | e
    · exact .inl ((hof (by simp) (by simp)).2 e)
    · right; show AM.renB t d (g.ω b o') = _; rw [e]; simp [AM.renB]
  · refine h.base.low b o id ?_
    rcases hb with e | ⟨i, e⟩
    · exact .inl ((hof (by simp) (by simp)).1 e)
    · exact .inr ⟨i, (hof (by simp) (by simp)).1 e⟩
  · rw [List.getElem?_set] at h1
    rw [getElem?_setIf] at h2
    by_cases ed : d = s
    · subst ed
      rw [if_pos rfl] at h1
      by_cases hlt : d < (st.ts.map (kill d)).length
      · rw [if_pos hlt] at h1
        rw [if_pos ⟨rfl, by rw [← h.len]; simpa using hlt⟩] at h2
        cases h1; cases h2
        have hβ : (g.renB t d).β d = g.β t := if_pos rfl
        refine ⟨he, hlen, .inr ⟨cap, by rw [hβ], hc, fun o ho => ?_, fun o c hcc => ?_⟩⟩
        · rw [hβ]
          refine ⟨?_, (hown o ho).2⟩
          show AM.renB t d (g.ω (g.β t) o) = _
          unfold AM.renB; rw [if_pos (hown o ho).1]
        · obtain ⟨c1, c2, x, c3, c4⟩ := hcs o c hcc
          exact ⟨c1, c2, x, by rw [hβ]; exact c3, hsame.rep (by simp) (Nat.le_refl _) c4⟩
      · rw [if_neg hlt] at h1; cases h1
    · rw [if_neg ed] at h1; rw [if_neg (fun hh => ed hh.1)] at h2
      obtain ⟨a0, h3, h4, h5⟩ := getElem?_killed (kl := true) (d := d) (ts := st.ts) (by simpa using h1)
      rcases h4 with rfl | rfl
      · by_cases et : s = t
        · subst et
          have : a = .undef := by simpa [List.getD, h3] using hu
          subst this; trivial
        · refine hsame.slot (by simp) (Nat.le_refl _) (by simp; exact ⟨et, fun e => ed e.symm⟩) (by simp) (fun _ => if_neg (fun e => ed e.symm)) (fun s' hh => if_neg (fun e => h5 rfl (by rw [hh, e]))) (h.slot s a v h3 h2)
      · trivial
  · refine h.mine b o ?_
    rcases hb with ⟨s, e⟩ | ⟨s, i, e⟩
    · exact .inl (renB_box e)
    · exact .inr ⟨s, i, (hof (by simp) (by simp)).1 e⟩
  · have e := (h.past b hb o).1 hn
    have hnb : ∀ s, g.ω b o ≠ .box s := fun s e' => by
      rcases h.mine b o (.inl ⟨s, e'⟩) with h1 | ⟨id, i', h1⟩
      · omega
      · exact hn _ _ h1
    show AM.renB t d (g.ω b o) = _
    unfold AM.renB; rw [if_neg (hnb _), if_neg (hnb _)]; exact e

/-- A slice without cells, in slot d. -/
theorem Rel.vecNil [VR : Vars] (h : Rel w0 ω0 w g st vs) {d e : Nat} (he : 0 < e) : Rel w0 ω0 w g { st with ts := st.ts.set d (.vec e 0 []) } (vs.setIfInBounds d (.slice none 0 0)) :=
  h.put (some d) (v := .vec e 0 []) (x := .slice none 0 0) (fun s => ⟨he, by simp, .inl ⟨rfl, rfl⟩⟩)

theorem getD_some {ts : List AVal} {t : Nat} {a : AVal} (h : ts.getD t .undef = a) (hn : a ≠ .undef) : ts[t]? = some a := by
  rcases hq : ts[t]? with _ | q
  · simp [List.getD, hq] at h; exact absurd h.symm hn
  · simp [List.getD, hq] at h; rw [h]

/-- What a slot with a slice of its own holds. -/
theorem Rel.vecOf [VR : Vars] (h : Rel w0 ω0 w g st vs) {t e n : Nat} {cs : List AVal} (ht : st.ts.getD t .undef = .vec e n cs) : vs[t]? = some (vs.getD t undef) ∧ RepSlot w g st.H.length t (.vec e n cs) (vs.getD t undef) ∧ t < st.ts.length := by
  have h1 := getD_some ht (by simp)
  have hl := lt_of_some h1
  have hv : vs[t]? = some (vs.getD t undef) := by simp [Array.getD, show t < vs.size by rw [← h.len]; exact hl]
  exact ⟨hv, h.slot t _ _ h1 hv, hl⟩
theorem vecAt_some {ts : List AVal} {x : Operand} {t e n : Nat} {cs : List AVal} (h : vecAt ts x = some (t, e, n, cs)) : x = .tmp t ∧ ts.getD t .undef = .vec e n cs := by
  unfold vecAt at h
  cases x with
  | tmp t' =>
    simp only at h
    split at h
    · rename_i e' n' cs' hh; cases h; exact ⟨rfl, hh⟩
    · cases h
  | _ => cases h

theorem kill_set (d t : Nat) (ts : List AVal) (s : Nat) (a : AVal) (h : ((ts.map (kill d)).set t .undef)[s]? = some a) : (ts.set t .undef)[s]? = some a ∨ a = .undef := by
  rw [List.getElem?_set] at h
  by_cases e : t = s
  · rw [if_pos e] at h
    split at h
    · cases h; exact .inr rfl
    · cases h
  · rw [if_neg e, List.getElem?_map, Option.map_eq_some_iff] at h
    obtain ⟨a0, h1, rfl⟩ := h
    rw [List.getElem?_set, if_neg e]
    cases a0 with
    | lptr s' off => simp only [kill]; cases Nat.beq s' d <;> simp [h1]
    | vref s' n => simp only [kill]; cases Nat.beq s' d <;> simp [h1]
    | _ => exact .inl h1
theorem set_undef {ts : List AVal} {t s : Nat} {a : AVal} (h : (ts.set t .undef)[s]? = some a) : ts[s]? = some a ∨ a = .undef := by
  by_cases e : t = s
  · subst e
    have hl := lt_of_some h
    simp only [List.length_set] at hl
    rw [List.getElem?_set_self hl] at h
    cases h; exact .inr rfl
  · rw [List.getElem?_set_ne e] at h; exact .inl h
theorem map_kill_twice (d : Nat) (ts : List AVal) (t : Nat) : ((ts.set t .undef).map (kill d)) = (ts.map (kill d)).set t .undef := by
  rw [List.map_set]; rfl

/-- A slice goes over from slot t to slot d. -/
theorem Rel.vecGo [VR : Vars] (h : Rel w0 ω0 w g st vs) {t d e n : Nat} {cs : List AVal} (ht : st.ts.getD t .undef = .vec e n cs) :
    ∃ g', Rel w0 ω0 w g' (putD { st with ts := (st.ts.map (kill d)).set t .undef } (some d) (.vec e n cs)) (Act.put ⟨vs, []⟩ (some d) (vs.getD t undef)).tmps := by
  obtain ⟨hv, ⟨he, hlen, hr⟩, htl⟩ := h.vecOf ht
  have hf : Rel w0 ω0 w g { st with ts := st.ts.set t .undef } vs := h.slots (by simp) (fun s a hs => set_undef hs)
  rcases hr with ⟨e1, e2⟩ | ⟨cap, e1, e2, e3, e4⟩
  · refine ⟨g, ?_⟩
    have hcs : cs = [] := List.eq_nil_of_length_eq_zero (by rw [hlen, e2]; simp)
    subst hcs; subst e2
    rw [e1]
    exact (h.slots (ts' := (st.ts.map (kill d)).set t .undef) (by simp) (fun s a hs => by
      rcases kill_set d t st.ts s a hs with e5 | e5
      · exact set_undef e5
      · exact .inr e5)).vecNil he
  · refine ⟨g.renB t d, ?_⟩
    rw [e1]
    have := hf.vecMove (t := t) (d := d) (by simp [List.getD, htl]) he hlen e2 e3 e4
    simp only [map_kill_twice] at this
    exact this
end
end Go.AM
