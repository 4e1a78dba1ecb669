/- One operation; what a slot holds. -/
import Derived.Test.YtkignmhjbjgkoaaAmY
set_option linter.unusedVariables false
set_option linter.unusedSimpArgs false
namespace Go.AM
open Go.RowKit

section
variable {R : Type} {P : Program} {E : Env} {w0 : World} {ω0 : Entry} {w : World} {g : Gh} {st : St} {vs : Array Value}
  {C : FuncId → List AVal → List HObj → AVal → List HObj → Prop} {o : Oper} {k : AVal → St → Tree R} {r : R} {next : Act → World → Prop} {Q : Exit → Act → World → Prop} {mv : Bool}

theorem doOp_sound (hE : EnvOk P E C) (h : Rel w0 ω0 w g st vs) (hk : Den C (doOp E mv o st k) r) (hn : Follows C w0 ω0 o vs k r next) : o.wp P ⟨vs, []⟩ w next Q := by
  have hT := hE.T
  cases ho : o.op with
  | move x => exact op_move h ho hk hn
  | assign x => exact op_assign h ho hk hn
  | pick c a b => exact op_pick h ho hk hn
  | alloc t => exact op_alloc hT h ho hk hn
  | box t x => exact op_box hT h ho hk hn
  | build t ps => exact op_build hT h ho hk hn
  | buildSlice t l ps => exact op_buildSlice hT h ho hk hn
  | load t a => exact op_load hT h ho hk hn
  | store t a x => exact op_store hT h ho hk hn
  | nilCheck x => exact op_nilCheck h ho hk hn
  | binOp b t x y u => exact op_binOp hT h ho hk hn (fun fs as bs c i h1 h2 h3 h4 h5 h6 h7 => run_eqAgg hT h h1 h2 h3 h4 h5 h6 h7)
  | unOp u t x => exact op_unOp h ho hk hn
  | convert s d x => exact op_convert hT h ho hk hn (fun i0 i e j h0 h1 h2 h3 h4 h4b h4c t h5 h6 => op_bytes hT h ho hn h0 h1 h2 h3 h4 h4b h4c h5 h6) (fun i e j i2 esz n f h1 h2 h3 h4 h5 h6 h7 h8 h9 h10 => op_string hT h ho hn h1 h2 h3 h4 h5 h6 h7 h8 h9 h10)
  | makeFunc f a b => exact op_makeFunc h ho hk hn
  | makeMap t q => exact op_makeMap hT h ho hk hn
  | makeSlice t l c => exact op_makeSlice hT h ho hk hn
  | slice t x lo hi mx => exact op_slice hT h ho hk hn
  | fieldAddr t x f => exact op_fieldAddr hT h ho hk hn
  | field t x f => exact op_field hT h ho hk hn
  | indexAddr t x i => exact op_indexAddr hT h ho hk hn
  | index t x i => exact op_index hT h ho hk hn
  | lookup t m q ok => exact op_lookup hT h ho hk hn
  | mapUpdate t m q v => exact op_mapUpdate hT h ho hk hn
  | extract x i => exact op_extract h ho hk hn
  | range t x => exact op_range hT h ho hk hn
  | entry x => exact op_entry h ho hk hn
  | call c =>
    cases hc : c.callee with
    | value f => exact op_callValue hE h ho hc hk hn
    | invoke a b => simp only [doOp, ho, hc] at hk; exact (noDen hk).elim
    | builtin b =>
      cases b with
      | len => exact op_len hT h ho hc hk hn
      | append => exact op_append hT h ho hc hk hn
      | min => exact op_minmax h ho (.inl hc) hk hn
      | max => exact op_minmax h ho (.inr hc) hk hn
      | delete => exact op_delete hT h ho hc hk hn
      | _ => simp only [doOp, ho, hc] at hk; exact (noDen hk).elim
  | _ => simp only [doOp, ho] at hk; exact (noDen hk).elim

theorem set_same {ts : List AVal} {d : Nat} {a : AVal} (h : ts.getD d .undef = a) (hne : a ≠ .undef) : ts.set d a = ts ∧ ts[d]? = some a := by
  have h1 : ts[d]? = some a := by
    rcases hq : ts[d]? with _ | q
    · simp [List.getD, hq] at h; exact absurd h.symm hne
    · simp [List.getD, hq] at h; rw [h]
  refine ⟨?_, h1⟩
  apply List.ext_getElem?; intro j
  rw [List.getElem?_set]
  by_cases e : d = j
  · subst e; rw [if_pos rfl, if_pos (lt_of_some h1), h1]
  · rw [if_neg e]

theorem Rel.bool_at (h : Rel w0 ω0 w g st vs) {d : Nat} {b : Bool} (e : st.ts.getD d .undef = .bool b) : vs[d]? = some (.bool b) := by
  obtain ⟨_, h1⟩ := set_same e (by simp)
  have hd : d < vs.size := by rw [← h.len]; exact lt_of_some h1
  have h2 : RepPl w g st.H.length d 0 (.bool b) vs[d] := h.slot d _ _ h1 (Array.getElem?_eq_getElem hd)
  have h3 := h2.1
  rw [Array.getElem?_eq_getElem hd]
  generalize vs[d] = q at h3
  cases h3; rfl

theorem Rel.tuple_at (h : Rel w0 ω0 w g st vs) {d : Nat} (e : st.ts.getD d .undef = .tuple []) : vs[d]? = some (.tuple #[]) := by
  obtain ⟨_, h1⟩ := set_same e (by simp)
  have hd : d < vs.size := by rw [← h.len]; exact lt_of_some h1
  have h2 : RepPl w g st.H.length d 0 (.tuple []) vs[d] := h.slot d _ _ h1 (Array.getElem?_eq_getElem hd)
  have h3 := h2.1
  rw [Array.getElem?_eq_getElem hd]
  generalize vs[d] = q at h3
  cases h3 with
  | tuple cs xs hl hr =>
    have : xs = #[] := Array.eq_empty_of_size_eq_zero (by simpa using hl.symm)
    rw [this]

theorem repSlot_skip {w : World} {g : Gh} {N s : Nat} : RepSlot w g N s (.tuple []) undef :=
  RepSlot.of_pl ⟨.tuple [] #[] rfl (by simp), fun e n f he => by cases he⟩

end
end Go.AM
