/- The same values in another form; slots that are forgotten. -/
import Derived.Test.YtkkinfbipndfdaaAmO1
set_option linter.unusedVariables false
set_option linter.unusedSimpArgs false
namespace Go.AM
open Go.RowKit

theorem SameV.plain {a b : AVal} (h : SameV a b) : AM.plain b = AM.plain a := by cases h <;> rfl

theorem get_of_lt {α : Type} {l : List α} {i : Nat} (h : i < l.length) : ∃ x, l[i]? = some x := ⟨l[i], List.getElem?_eq_getElem h⟩

theorem Rep.same {w : World} {I : Nat → Nat → Prop} {η : Nat → Nat} {N : Nat} {a a' : AVal} (hs : SameV a a') : ∀ {v : Value}, Rep w I η N a v → Rep w I η N a' v := by
  induction hs with
  | refl a => exact fun h => h
  | slice sp e n f f' hf =>
    intro v h
    cases h with
    | slice _ _ _ _ ad cap vals hc hx hn ha hl hp hr =>
      exact .slice sp e n f' ad cap vals hc hx hn ha (fun i hi => by rw [← hf i hi]; exact hl i hi) (fun i hi => by rw [← hf i hi]; exact hp i hi) (fun i hi j c h => hr i hi j c (by rw [hf i hi]; exact h))
  | agg cs cs' hl h ih =>
    intro v hv
    cases hv with
    | agg _ vs hlv hr hp =>
      refine .agg cs' vs (by omega) (fun i c' x hc hx => ?_) (fun c' hc => ?_)
      · have hi := lt_of_some hc
        obtain ⟨c, hcc⟩ := get_of_lt (l := cs) (i := i) (by omega)
        exact ih i c c' hcc hc (hr i c x hcc hx)
      · obtain ⟨i, hi, e⟩ := List.getElem_of_mem hc
        obtain ⟨c, hcc⟩ := get_of_lt (l := cs) (i := i) (by omega)
        rw [(h i c c' hcc (by rw [List.getElem?_eq_getElem hi, e])).plain]
        exact hp c (List.mem_of_getElem? hcc)
  | tuple cs cs' hl h ih =>
    intro v hv
    cases hv with
    | tuple _ vs hlv hr =>
      refine .tuple cs' vs (by omega) (fun i c' x hc hx => ?_)
      have hi := lt_of_some hc
      obtain ⟨c, hcc⟩ := get_of_lt (l := cs) (i := i) (by omega)
      exact ih i c c' hcc hc (hr i c x hcc hx)

theorem OwnTail.same {ω : Nat → Nat → Owner} {s i : Nat} {a a' : AVal} {v : Value} (h : OwnTail ω s i a v) (hs : SameV a a') : OwnTail ω s i a' v := by
  intro esz n f e
  cases hs with
  | refl => exact h esz n f e
  | slice sp e' n' f0 f' hf => cases e; exact h esz n f0 rfl
  | agg => cases e
  | tuple => cases e

theorem OwnHeap.same {ω : Nat → Nat → Owner} {s i : Nat} {a a' : AVal} {v : Value} (h : OwnHeap ω s i a v) (hs : SameV a a') : OwnHeap ω s i a' v := by
  intro esz n f e
  cases hs with
  | refl => exact h esz n f e
  | slice sp e' n' f0 f' hf => cases e; exact h esz n f0 rfl
  | agg => cases e
  | tuple => cases e

theorem RepPl.same {w : World} {g : Gh} {N s i : Nat} {a a' : AVal} {v : Value} (h : RepPl w g N s i a v) (hs : SameV a a') : RepPl w g N s i a' v := ⟨h.1.same hs, h.2.same hs⟩

theorem RepSlot.same {w : World} {g : Gh} {N s : Nat} {a a' : AVal} {v : Value} (h : RepSlot w g N s a v) (hs : SameV a a') : RepSlot w g N s a' v := by
  cases hs with
  | refl => exact h
  | slice sp e n f f' hf => exact RepPl.same (a := .slice sp e n f) h (.slice sp e n f f' hf)
  | agg cs cs' hl hc => exact RepPl.same (a := .agg cs) h (.agg cs cs' hl hc)
  | tuple cs cs' hl hc => exact RepPl.same (a := .tuple cs) h (.tuple cs cs' hl hc)

theorem RepObj.same {w : World} {I : Nat → Nat → Prop} {ω : Nat → Nat → Owner} {η : Nat → Nat} {N id : Nat} {o o' : HObj} (h : RepObj w I ω η N id o) (hs : SameO o o') : RepObj w I ω η N id o' := by
  cases hs with
  | arr cs cs' hl hc =>
    refine ⟨fun o ho => h.1 o (by omega), fun o c' hc' => ?_⟩
    have hi := lt_of_some hc'
    obtain ⟨c, hcc⟩ := get_of_lt (l := cs) (i := o) (by omega)
    obtain ⟨h1, x, h2, h3, h4⟩ := h.2 o c hcc
    have hcs := hc o c c' hcc hc'
    exact ⟨by rw [hcs.plain]; exact h1, x, h2, h3.same hcs, h4.same hcs⟩
  | map es => exact h
  | refl o => exact h

theorem Locks.same {H H' : List HObj} (h : Locks H) (hs : SameH H H') : Locks H' := fun id m es t c hi => by
  have hid := lt_of_some hi
  obtain ⟨o, ho⟩ := get_of_lt (l := H) (i := id) (by rw [hs.1]; exact hid)
  have e : o = .iter m es t c := by
    have := hs.2 id _ _ ho hi
    cases this; rfl
  subst e
  obtain ⟨h1, h2⟩ := h id m es t c ho
  refine ⟨h1, ?_⟩
  obtain ⟨o', ho'⟩ := get_of_lt (l := H') (i := m) (by rw [← hs.1]; exact lt_of_some h2)
  have := hs.2 m _ _ h2 ho'
  cases this; exact ho'

theorem Base.same {w : World} {ω : Nat → Nat → Owner} {η : Nat → Nat} {H H' : List HObj} (h : Base w ω η H) (hs : SameH H H') : Base w ω η H' := by
  refine ⟨fun id o' ho' => ?_, h.live, h.soft, h.tail, h.sep, fun b o id hb => by rw [← hs.1]; exact h.low b o id hb, h.lock.same hs⟩
  have hi := lt_of_some ho'
  obtain ⟨o, ho⟩ := get_of_lt (l := H) (i := id) (by rw [hs.1]; exact hi)
  rw [← hs.1]
  exact (h.heap id o ho).same (hs.2 id o o' ho ho')

section
variable {w0 : World} {ω0 : Entry} {w : World} {g : Gh} {st : St} {vs : Array Value}

theorem Rel.sameH [VR : Vars] {H' : List HObj} (h : Rel w0 ω0 w g st vs) (hs : SameH st.H H') : Rel w0 ω0 w g { st with H := H' } vs :=
  ⟨h.base.same hs, h.len, fun s a v h1 h2 => by have := h.slot s a v h1 h2; rw [hs.1] at this; exact this, h.mine, h.past, h.keeps, by have := h.old; rw [hs.1] at this; exact this⟩

theorem Rel.put_same [VR : Vars] {d : Option Nat} {v v' : AVal} (h : Rel w0 ω0 w g (putD st d v) vs) (hs : SameV v v') : Rel w0 ω0 w g (putD st d v') vs := by
  cases d with
  | none => exact h
  | some d =>
    refine ⟨h.base, by have := h.len; simpa [putD] using this, fun s a x h1 h2 => ?_, h.mine, h.past, h.keeps, h.old⟩
    simp only [putD, List.getElem?_set] at h1
    by_cases e : d = s
    · subst e
      rw [if_pos rfl] at h1
      by_cases hl : d < st.ts.length
      · rw [if_pos hl] at h1; cases h1
        exact (h.slot d v x (by simp [putD, hl]) h2).same hs
      · rw [if_neg hl] at h1; cases h1
    · rw [if_neg e] at h1
      exact h.slot s a x (by simp [putD, List.getElem?_set, e, h1]) h2

theorem Rel.forget [VR : Vars] : ∀ (l : List Nat) {st : St}, Rel w0 ω0 w g st vs → Rel w0 ω0 w g { st with ts := AM.forget l st.ts } vs
  | [], _, h => h
  | s :: l, st, h => by
    refine Rel.forget l (st := { st with ts := st.ts.set s .undef }) ?_
    refine ⟨h.base, by simpa using h.len, fun q a v h1 h2 => ?_, h.mine, h.past, h.keeps, h.old⟩
    simp only [List.getElem?_set] at h1
    by_cases e : s = q
    · subst e
      rw [if_pos rfl] at h1
      by_cases hl : s < st.ts.length
      · rw [if_pos hl] at h1; cases h1; trivial
      · rw [if_neg hl] at h1; cases h1
    · rw [if_neg e] at h1
      exact h.slot q a v h1 h2

theorem Rel.weak1 [VR : Vars] (h : Rel w0 ω0 w g st vs) (t : Nat) : Rel w0 ω0 w g { st with ts := st.ts.set t (wkS (st.ts.getD t .undef)) } vs := by
  have hV : ∀ s i a v, RepPl w g st.H.length s i a v → RepPl w g st.H.length s i (wkV a) v := fun s i a v hr => by
    obtain ⟨h1, h2⟩ := hr
    cases a with
    | slice sp e n f =>
      cases h1 with
      | slice sp esz n f ad cap vals hc hx hnl ha hl hp hrr => exact ⟨.slice .shared e n f ad cap vals hc (by simp) (by simp) ha hl hp hrr, fun e n' f' he => by cases he⟩
    | _ => exact ⟨h1, h2⟩
  have hplain : ∀ c, plain (wkV c) = plain c := fun c => by cases c <;> rfl
  refine h.set1 t (fun a v h1 h2 => ?_)
  have e : st.ts.getD t .undef = a := by simp [List.getD, h1]
  rw [e]
  have hs := h.slot t a v h1 h2
  cases a with
  | lbox cs =>
    obtain ⟨h3, h4, h5⟩ := hs
    refine ⟨h3, fun o ho => h4 o (by simpa using ho), fun o c hc => ?_⟩
    simp only [List.getElem?_map, Option.map_eq_some_iff] at hc
    obtain ⟨c0, hc0, rfl⟩ := hc
    obtain ⟨h6, x, h7, h8⟩ := h5 o c0 hc0
    exact ⟨by rw [hplain]; exact h6, x, h7, hV _ _ _ _ h8⟩
  | undef => trivial
  | lptr s' o => exact hs
  | slice sp e n f => exact hV t 0 _ v hs
  | _ => exact hs
theorem Rel.weaken [VR : Vars] : ∀ (l : List Nat) {st : St}, Rel w0 ω0 w g st vs → Rel w0 ω0 w g { st with ts := AM.weaken l st.ts } vs
  | [], _, h => h
  | s :: l, st, h => Rel.weaken l (h.weak1 s)

theorem Rel.drop [VR : Vars] {E : Env} {id : Option Nat} (h : Rel w0 ω0 w g st vs) : Rel w0 ω0 w g (AM.drop E id st) vs := by
  unfold AM.drop
  cases id with
  | none => exact h
  | some id => exact Rel.weaken _ (h.forget _)

end

theorem eqv_den {R : Type} {E : Env} {C : FuncId → List AVal → List HObj → AVal → List HObj → Prop} {d : Option Nat} {v : AVal} {k : AVal → Tree R} {r : R} (h : Den C (eqv E d v k) r) : ∃ v', SameV v v' ∧ Den C (k v') r := by
  unfold eqv at h
  split at h
  · rename_i d
    cases hb : E.hint.eqs.contains d <;> rw [hb] at h
    · exact ⟨v, .refl v, h⟩
    · exact h.sameInv
  · exact ⟨v, .refl v, h⟩

end Go.AM
