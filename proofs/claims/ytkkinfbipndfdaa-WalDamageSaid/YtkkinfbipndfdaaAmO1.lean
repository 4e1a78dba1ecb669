/- One operation; what a slot holds. -/
import Derived.Test.YtkkinfbipndfdaaAmY
set_option linter.unusedVariables false
set_option linter.unusedSimpArgs false
namespace Go.AM
open Go.RowKit

section
variable {R : Type} {P : Program} {E : Env} {w0 : World} {ω0 : Entry} {w : World} {g : Gh} {st : St} {vs : Array Value}
  {C : FuncId → List AVal → List HObj → AVal → List HObj → Prop} {o : Oper} {k : AVal → St → Tree R} {r : R} {next : Act → World → Prop} {Q : Exit → Act → World → Prop} {mv : Bool}

theorem doOp_sound [VR : Vars] (hE : EnvOk P E C) (h : Rel w0 ω0 w g st vs) (hk : Den C (doOp E mv o st k) r) (hn : Follows C w0 ω0 o vs k r next) (hny : ∀ c f id, o.op = .call c → c.callee = .value f → ev st.ts f ≠ .yld id) : o.wp P ⟨vs, []⟩ w next Q := by
  have hT := hE.T
  cases ho : o.op with
  | move x => exact op_move h ho hk hn
  | assign x => exact op_assign h ho hk hn
  | pick c a b => exact op_pick h ho hk hn
  | alloc t => exact op_alloc hT h ho hk hn
  | box t x => exact op_box hT h ho hk hn
  | build t ps => exact op_build hT h ho hk hn
  | buildSlice t l ps => exact op_buildSlice hT h ho hk hn
  | load t a => exact op_load hT h ho hk hn
  | store t a x => exact op_store hT h ho hk hn
  | nilCheck x => exact op_nilCheck h ho hk hn
  | binOp b t x y u => exact op_binOp hT h ho hk hn (fun fs as bs c i h1 h2 h3 h4 h5 h6 h7 => run_eqAgg hT h h1 h2 h3 h4 h5 h6 h7)
  | unOp u t x => exact op_unOp h ho hk hn
  | convert s d x => exact op_convert hT h ho hk hn (fun i0 i e j h0 h1 h2 h3 h4 h4b h4c t h5 h6 => op_bytes hT h ho hn h0 h1 h2 h3 h4 h4b h4c h5 h6) (fun i e j i2 esz n f h1 h2 h3 h4 h5 h6 h7 h8 h9 h10 => op_string hT h ho hn h1 h2 h3 h4 h5 h6 h7 h8 h9 h10) (fun i e j i2 t esz n n' cs h1 h2 h3 h4 h5 h6 h7 h8 h9 h10 h11 h12 => op_stringV hT h ho hn h1 h2 h3 h4 h5 h6 h7 h8 h9 h10 h11 h12)
  | makeFunc f a b => exact op_makeFunc h ho hk hn
  | makeMap t q => exact op_makeMap hT h ho hk hn
  | makeSlice t l c => exact op_makeSlice hT h ho hk hn
  | slice t x lo hi mx => exact op_slice hT h ho hk hn
  | fieldAddr t x f => exact op_fieldAddr hT h ho hk hn
  | field t x f => exact op_field hT h ho hk hn
  | indexAddr t x i => exact op_indexAddr hT h ho hk hn
  | index t x i => exact op_index hT h ho hk hn
  | lookup t m q ok => exact op_lookup hT h ho hk hn
  | mapUpdate t m q v => exact op_mapUpdate hT h ho hk hn
  | insert t m q v => exact op_insert hT h ho hk hn
  | extract x i => exact op_extract h ho hk hn
  | range t x => exact op_range hT h ho hk hn
  | entry x => exact op_entry h ho hk hn
  | call c =>
    cases hc : c.callee with
    | value f => exact op_callValue hE h ho hc hk hn (fun id => hny c f id ho hc)
    | invoke a b => simp only [doOp, ho, hc] at hk; exact (noDen hk).elim
    | builtin b =>
      cases b with
      | len => exact op_len hT h ho hc hk hn
      | append => exact op_append hT h ho hc hk hn
      | min => exact op_minmax h ho (.inl hc) hk hn
      | max => exact op_minmax h ho (.inr hc) hk hn
      | delete => exact op_delete hT h ho hc hk hn
      | clear => exact op_clear hT h ho hc hk hn
      | _ => simp only [doOp, ho, hc] at hk; exact (noDen hk).elim
  | _ => simp only [doOp, ho] at hk; exact (noDen hk).elim

/-- Deferred calls are nothing to an operation; in a round it does what it does elsewhere. -/
theorem wpIn_of_wp {ρ : Option Nat} {n : Nat} {ds : List Deferred} {K : Act → World → Prop} (hd : ∀ c, o.op ≠ .defer c)
    (h : o.wp P ⟨vs, []⟩ w (fun a w => a.defers = [] ∧ K ⟨a.tmps, ds⟩ w) (fun e a w => Q e ⟨a.tmps, ds⟩ w)) : o.wpIn (Fc ρ) n P ⟨vs, ds⟩ w K Q := by
  refine ⟨fun _ _ => trivial, ?_⟩
  rw [Oper.semAt_eq _ _ _ hd]
  unfold Oper.wp at h
  have hev : (⟨vs, ds⟩ : Act).eval = (⟨vs, []⟩ : Act).eval := by funext x; cases x <;> rfl
  rw [hev]
  have hput : ∀ v, (Act.put ⟨vs, ds⟩ o.dst v) = ⟨(Act.put ⟨vs, []⟩ o.dst v).tmps, ds⟩ := fun v => by cases o.dst <;> rfl
  generalize hr : (execOp (⟨vs, []⟩ : Act).eval o).run P w = q at h
  have hlet : LetsOut (fun e a w => Q e ⟨a.tmps, ds⟩ w) → LetsOut Q := fun ⟨a, w, hq⟩ => ⟨_, w, hq⟩
  cases q with
  | ok x w' =>
    cases x with
    | value v => simp only [Oper.upon, Oper.uponIn] at h ⊢; rw [hput]; exact h.2
    | skip => simp only [Oper.upon, Oper.uponIn] at h ⊢; rw [hput]; exact h.2
    | enter f args =>
      simp only [Oper.upon, Oper.uponIn] at h ⊢
      refine ⟨(fun hh => by cases hh), (callsIn_wide.2 h).mono (fun e w'' he => ?_)⟩
      cases e with
      | returned v => simp only at he ⊢; rw [hput]; exact he.2
      | panicked c => exact he
      | outgrown => exact hlet he
    | row r args =>
      simp only [Oper.upon, Oper.uponIn] at h ⊢
      refine ⟨(fun hh => by cases hh), fun c cs _ => ?_⟩
      obtain ⟨v, w'', h1, h2⟩ := h c cs
      exact ⟨v, w'', by simp only; rw [hput]; exact h1.2, stepsIn_wide.2 h2⟩
    | defer d =>
      simp only [Oper.upon] at h
      have h1 := h.1
      cases hdd : o.dst <;> rw [hdd] at h1 <;> cases h1
    | _ => exact h.elim
  | halt x w' => cases x <;> first | exact h | exact h.elim

theorem foldPs_eq : ∀ (ps : List Nat) (l : List Value) (t : Array Value), (ps.zip l).foldl (fun t (p : Nat × Value) => t.setIfInBounds p.1 p.2) t = foldPs ps l t
  | [], _, _ => by simp [foldPs]
  | _ :: _, [], _ => by simp [foldPs]
  | p :: ps, v :: l, t => by simp only [List.zip_cons_cons, List.foldl_cons, foldPs]; exact foldPs_eq ps l _

/-- A call of yield: a round. -/
theorem op_yield [VR : Vars] (hE : EnvOk P E C) {ρ : Option Nat} {n : Nat} {ds : List Deferred} {K : Act → World → Prop} {c : Call} {f : Operand} {id : Nat} (h : Rel w0 ω0 w g st vs) (ho : o.op = .call c) (hc : c.callee = .value f) (hf : ev st.ts f = .yld id) (hk : Den C (doOp E mv o st k) r)
    (hn : Follows C w0 ω0 o vs k r (fun a w => K ⟨a.tmps, ds⟩ w)) : o.wpIn (Fc ρ) n P ⟨vs, ds⟩ w K Q := by
  simp only [doOp, ho, hc, hf] at hk
  split at hk
  · rename_i L ts hL
    obtain ⟨hpl, hk⟩ := cond_den hk
    obtain ⟨hlen, hk⟩ := cond_den hk
    simp only [Bool.and_eq_true] at hlen
    obtain ⟨hlen, hlp⟩ := hlen
    have hlen := Nat.eq_of_beq_eq_true hlen
    have hlp := Nat.eq_of_beq_eq_true hlp
    obtain ⟨rr, H', hcall, hk⟩ := hk.callInv
    have hrf := ev_ne h hf (by simp) (by simp)
    have hX : Act.eval ⟨vs, []⟩ f = .func (.yield (g.η id)) #[] #[] := by
      generalize Act.eval ⟨vs, []⟩ f = q at hrf; cases hrf; rfl
    obtain ⟨h1, fn, tm, D, h2, h3, h4⟩ := h.base.heap id _ hL
    have hput : ∀ v, (Act.put ⟨vs, ds⟩ o.dst v) = ⟨(Act.put ⟨vs, []⟩ o.dst v).tmps, ds⟩ := fun v => by cases o.dst <;> rfl
    have hev : (⟨vs, ds⟩ : Act).eval = (⟨vs, []⟩ : Act).eval := by funext x; cases x <;> rfl
    have hrun : (execOp (Act.eval ⟨vs, []⟩) o).run P w = .ok (.round (g.η id) fn (foldPs L.params (c.args.map (Act.eval ⟨vs, []⟩)).toList tm) L.assign L.body) w := by
      have hy := run_yield (P := P) (args := c.args.map (Act.eval ⟨vs, []⟩)) h2 (by simpa using hlp)
      simp only [execOp, ho, resolve, hc, hX, Deferred.ofValue, Sem.run_bind, Sem.run_pure, Result.andThen_ok, invoke, callFunc]
      simp only [Array.empty_append, Array.append_empty] at hy ⊢
      rw [hy, ← Array.foldl_toList, Array.toList_zip, foldPs_eq]
    have hargs : ArgsOk w (down g.ω) g.η st.H.length ((c.args.toList.zip c.argTypes.toList).map fun p => argOf false (E.T p.2) E.T (ev st.ts p.1)) (c.args.map (Act.eval ⟨vs, []⟩)) := by
      refine ⟨by rw [List.length_map, List.length_zip]; simp at hlen; simp; omega, fun i a v h1 h2 => ?_⟩
      simp only [List.getElem?_map, Option.map_eq_some_iff] at h1
      obtain ⟨p, hp, rfl⟩ := h1
      have hp1 : c.args[i]? = some p.1 := by
        rw [List.getElem?_zip_eq_some] at hp
        simpa using hp.1
      simp only [Array.getElem?_map, hp1, Option.map_some, Option.some.injEq] at h2
      subst h2
      have hpp := List.all_eq_true.1 hpl p.1 (by have := List.mem_of_getElem? (l := c.args.toList) (by simpa using hp1); exact this)
      have hrep := (ev_ne (x := p.1) h rfl (fun e => by rw [e] at hpp; simp [plainAgg, plain] at hpp) (fun s o e => by rw [e] at hpp; simp [plainAgg, plain] at hpp) (fun s o e => by rw [e] at hpp; simp [plainAgg, plain] at hpp)).argOf false (E.T p.2) E.T
      exact hrep.sub (fun b o hb => down_imm.2 hb)
    refine ⟨fun _ _ => trivial, ?_⟩
    rw [Oper.semAt_eq _ _ _ (fun c e => by rw [ho] at e; cases e), hev, hrun, Oper.uponIn_round]
    refine ⟨(fun hh => by cases hh), ?_⟩
    refine RoundIn.mono (F := Fc ρ) (hE.round L.id _ _ _ _ _ hcall L ts hL _ w (down g.ω) g.η h.pre hargs fn tm D _ h2) ?_
    rintro e w' ⟨v, ω', η', rfl, hpost⟩
    obtain ⟨hR, hrep⟩ := h.after hpost
    simp only
    rw [hput]
    exact hn _ _ v w' _ (hR.put_ev (hrep.disR.ev) (isOwn_disR _)) hk
  · exact (noDen hk).elim

/-- One operation, in a function's frame or in a round's, whatever calls are deferred. -/
theorem doOpIn_sound [VR : Vars] (hE : EnvOk P E C) {ρ : Option Nat} {n : Nat} {ds : List Deferred} {K : Act → World → Prop} (h : Rel w0 ω0 w g st vs) (hk : Den C (doOp E mv o st k) r)
    (hn : Follows C w0 ω0 o vs k r (fun a w => K ⟨a.tmps, ds⟩ w)) : o.wpIn (Fc ρ) n P ⟨vs, ds⟩ w K Q := by
  by_cases hy : ∃ c f id, o.op = .call c ∧ c.callee = .value f ∧ ev st.ts f = .yld id
  · obtain ⟨c, f, id, h1, h2, h3⟩ := hy
    exact op_yield hE h h1 h2 h3 hk hn
  · have hd : ∀ c, o.op ≠ .defer c := fun c e => by simp only [doOp, e] at hk; exact noDen hk
    exact wpIn_of_wp hd (doOp_sound hE h hk (fun v st' x w' g' hR hk' => ⟨by cases o.dst <;> rfl, hn v st' x w' g' hR hk'⟩) (fun c f id h1 h2 h3 => hy ⟨c, f, id, h1, h2, h3⟩))

theorem set_same {ts : List AVal} {d : Nat} {a : AVal} (h : ts.getD d .undef = a) (hne : a ≠ .undef) : ts.set d a = ts ∧ ts[d]? = some a := by
  have h1 : ts[d]? = some a := by
    rcases hq : ts[d]? with _ | q
    · simp [List.getD, hq] at h; exact absurd h.symm hne
    · simp [List.getD, hq] at h; rw [h]
  refine ⟨?_, h1⟩
  apply List.ext_getElem?; intro j
  rw [List.getElem?_set]
  by_cases e : d = j
  · subst e; rw [if_pos rfl, if_pos (lt_of_some h1), h1]
  · rw [if_neg e]

theorem Rel.bool_at [VR : Vars] (h : Rel w0 ω0 w g st vs) {d : Nat} {b : Bool} (e : st.ts.getD d .undef = .bool b) : vs[d]? = some (.bool b) := by
  obtain ⟨_, h1⟩ := set_same e (by simp)
  have hd : d < vs.size := by rw [← h.len]; exact lt_of_some h1
  have h2 : RepPl w g st.H.length d 0 (.bool b) vs[d] := h.slot d _ _ h1 (Array.getElem?_eq_getElem hd)
  have h3 := h2.1
  rw [Array.getElem?_eq_getElem hd]
  generalize vs[d] = q at h3
  cases h3; rfl

theorem Rel.tuple_at [VR : Vars] (h : Rel w0 ω0 w g st vs) {d : Nat} (e : st.ts.getD d .undef = .tuple []) : vs[d]? = some (.tuple #[]) := by
  obtain ⟨_, h1⟩ := set_same e (by simp)
  have hd : d < vs.size := by rw [← h.len]; exact lt_of_some h1
  have h2 : RepPl w g st.H.length d 0 (.tuple []) vs[d] := h.slot d _ _ h1 (Array.getElem?_eq_getElem hd)
  have h3 := h2.1
  rw [Array.getElem?_eq_getElem hd]
  generalize vs[d] = q at h3
  cases h3 with
  | tuple cs xs hl hr =>
    have : xs = #[] := Array.eq_empty_of_size_eq_zero (by simpa using hl.symm)
    rw [this]

theorem repSlot_skip {w : World} {g : Gh} {N s : Nat} : RepSlot w g N s (.tuple []) undef :=
  RepSlot.of_pl ⟨.tuple [] #[] rfl (by simp), fun e n f he => by cases he⟩

end
end Go.AM
