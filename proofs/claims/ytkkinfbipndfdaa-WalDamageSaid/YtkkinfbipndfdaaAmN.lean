/- Calls of functions; lengths. -/
import Derived.Test.YtkkinfbipndfdaaAmM
import Derived.RangeFuncLeaves
import Derived.RangeFuncRecord
import Derived.OrdersIn
import Derived.LoopNIn
set_option linter.unusedVariables false
set_option linter.unusedSimpArgs false
namespace Go.AM
open Go.RowKit

def Callable (P : Program) (f : FuncId) : Prop := ∃ fn, P.funcs[f]? = some fn ∧ (fn.name == "runtime.NumGoroutine") = false ∧ fn.body.isNone = false

/-- The fence that lets everything in, in a function's own frame or in a round's. -/
abbrev Fc (ρ : Option Nat) : Fence := { Fence.wide with round := ρ }
def foldPs : List Nat → List Value → Array Value → Array Value
  | p :: ps, v :: vs, t => foldPs ps vs (t.setIfInBounds p v)
  | _, _, t => t
/-- What the machine's round says, a round of the model does. -/
def RSound [VR : Vars] (P : Program) (F : List AVal → List HObj → AVal → List HObj → Prop) : Prop :=
  ∀ id args H r H', F (.yld id :: args) H r H' → ∀ L ts, H[id]? = some (.loop L ts .ready) → ∀ vals w ω η, Pre w ω η H → ArgsOk w ω η H.length args vals →
    ∀ (fn : FuncId) (vs : Array Value) (D n : Nat), w.heap[η id]? = some (.loop { state := .ready, pending := none, fn := fn, tmps := vs, params := L.params.toArray, assign := L.assign, body := L.body, defers := D }) →
    RoundIn Fence.wide n P (η id) fn (foldPs L.params vals.toList vs) L.assign L.body w fun e w' => ∃ v ω' η', e = .returned v ∧ Post w ω η H w' ω' η' H' r v

structure EnvOk [VR : Vars] (P : Program) (E : Env) (C : FuncId → List AVal → List HObj → AVal → List HObj → Prop) : Prop where
  T : TOk P E.T
  call : ∀ f, f < rnd0 → Sound P f (C f)
  able : ∀ f args H r H', f < rnd0 → C f args H r H' → Callable P f
  round : ∀ i, RSound P (C (rnd0 + i))
  mixed : P.follows .mixedOrders = true
  str : StrOk E.hint C

section
variable {R : Type} {P : Program} {E : Env} {w0 : World} {ω0 : Entry} {w : World} {g : Gh} {st : St} {vs : Array Value}
  {C : FuncId → List AVal → List HObj → AVal → List HObj → Prop} {o : Oper} {k : AVal → St → Tree R} {r : R} {next : Act → World → Prop} {Q : Exit → Act → World → Prop} {mv : Bool}

theorem op_callValue [VR : Vars] (hE : EnvOk P E C) {c : Call} {f : Operand} (h : Rel w0 ω0 w g st vs) (ho : o.op = .call c) (hc : c.callee = .value f) (hk : Den C (doOp E mv o st k) r) (hn : Follows C w0 ω0 o vs k r next) (hny : ∀ id, ev st.ts f ≠ .yld id) : o.wp P ⟨vs, []⟩ w next Q := by
  simp only [doOp, ho, hc] at hk
  split at hk
  · rename_i q caps hf
    obtain ⟨hpl, hk⟩ := cond_den hk
    · obtain ⟨hlen, hk⟩ := cond_den hk
      obtain ⟨rr, H', hcall, hk⟩ := hk.callInv
      simp only [Bool.and_eq_true] at hlen
      obtain ⟨hlen, hlt⟩ := hlen
      have hlen := Nat.eq_of_beq_eq_true hlen
      have hlt : q < rnd0 := by rw [Nat.blt_eq] at hlt; exact hlt
      obtain ⟨fn, hfn, hname, hbody⟩ := hE.able _ _ _ _ _ hlt hcall
      have hrf := ev_ne h hf (by simp) (by simp)
      generalize hX : Act.eval ⟨vs, []⟩ f = q at hrf
      cases hrf with
      | func _ _ cv hcl hcr =>
        have hrun : (execOp (Act.eval ⟨vs, []⟩) o).run P w = .ok (.enter q (c.args.map (Act.eval ⟨vs, []⟩) ++ cv)) w := by
          simp only [execOp, ho, resolve, hc, hX, Deferred.ofValue, Sem.run_bind, Sem.run_pure, Result.andThen_ok, invoke, callFunc, run_program, hfn, hname, hbody]
          simp [hname, hbody, Array.empty_append]
        have hargs : ArgsOk w (down g.ω) g.η st.H.length (((c.args.toList.zip c.argTypes.toList).map fun p => argOf (E.hint.nils.contains q) (E.T p.2) E.T (ev st.ts p.1)) ++ caps) (c.args.map (Act.eval ⟨vs, []⟩) ++ cv) := by
          have hl1 : ((c.args.toList.zip c.argTypes.toList).map fun p => argOf (E.hint.nils.contains q) (E.T p.2) E.T (ev st.ts p.1)).length = c.args.size := by
            rw [List.length_map, List.length_zip]; simp at hlen; simp; omega
          refine ⟨by simp at hl1; simp [hcl]; omega, fun i a v h1 h2 => ?_⟩
          by_cases hi : i < c.args.size
          · rw [List.getElem?_append_left (by rw [hl1]; exact hi)] at h1
            rw [Array.getElem?_append_left (by simpa using hi)] at h2
            simp only [List.getElem?_map, Option.map_eq_some_iff] at h1
            obtain ⟨p, hp, rfl⟩ := h1
            have hp1 : c.args[i]? = some p.1 := by
              rw [List.getElem?_zip_eq_some] at hp
              simpa using hp.1
            simp only [Array.getElem?_map, hp1, Option.map_some, Option.some.injEq] at h2
            subst h2
            have hpp := List.all_eq_true.1 hpl p.1 (by have := List.mem_of_getElem? (l := c.args.toList) (by simpa using hp1); exact this)
            have hrep := (ev_ne (x := p.1) h rfl (fun e => by rw [e] at hpp; simp [plainAgg, plain] at hpp) (fun s o e => by rw [e] at hpp; simp [plainAgg, plain] at hpp) (fun s o e => by rw [e] at hpp; simp [plainAgg, plain] at hpp)).argOf (E.hint.nils.contains q) (E.T p.2) E.T
            exact hrep.sub (fun b o hb => down_imm.2 hb)
          · rw [List.getElem?_append_right (by omega), hl1] at h1
            rw [Array.getElem?_append_right (by simp; omega), Array.size_map] at h2
            exact (hcr _ a v h1 h2).sub (fun b o hb => down_imm.2 hb)
        unfold Oper.wp; rw [hrun, Oper.upon_enter]
        refine (hE.call q hlt _ _ _ _ hcall _ w (down g.ω) g.η h.pre hargs).mono ?_
        rintro e w' ⟨v, ω', η', rfl, hpost⟩
        obtain ⟨g', hR⟩ := h.afterOwn hpost o.dst
        exact hn _ _ v w' g' hR hk
  · rename_i id hf; exact absurd hf (hny id)
  · exact (noDen hk).elim

theorem op_len [VR : Vars] (hT : TOk P E.T) {c : Call} (h : Rel w0 ω0 w g st vs) (ho : o.op = .call c) (hc : c.callee = .builtin .len) (hk : Den C (doOp E mv o st k) r) (hn : Follows C w0 ω0 o vs k r next) : o.wp P ⟨vs, []⟩ w next Q := by
  simp only [doOp, ho, hc] at hk
  split at hk
  · rename_i x t ha hta
    have harg : c.args = #[x] := by apply Array.ext'; exact ha
    have htys : c.argTypes = #[t] := by apply Array.ext'; exact hta
    have hfin : ∀ n : Int, (Builtin.len_ #[t] o.type #[Act.eval ⟨vs, []⟩ x]).run P w = .ok (.int .i64 n) w → Den C (k (.int .i64 n) st) r → o.wp P ⟨vs, []⟩ w next Q := fun n hl hk => by
      have hrun : (execOp (Act.eval ⟨vs, []⟩) o).run P w = .ok (.value (.int .i64 n)) w := by
        simp only [execOp, ho, resolve, hc, harg, htys, Sem.run_bind, Sem.run_pure, Result.andThen_ok, invoke, builtin, Array.map, List.map_toArray, List.map_cons, List.map_nil]
        simp [hl]
      exact wp_of_value hrun (hn _ _ _ _ g (h.put_ev (v := .int .i64 n) (Rep.int _ _) rfl) hk)
    split at hk
    · rename_i s hti hx
      have hu := (hT t _ hti).kind
      simp only [KOk] at hu
      refine hfin _ ?_ hk
      simp [Builtin.len_, run_underlying hu, eval_str h hx, goInt]
    · rename_i sp esz n f hti hx
      have hu := (hT t _ hti).kind
      simp only [KOk] at hu
      have hr := ev_ne h hx (by simp) (by simp)
      refine hfin _ ?_ hk
      generalize Act.eval ⟨vs, []⟩ x = q at hr
      cases hr
      simp [Builtin.len_, run_underlying hu, goInt]
    · rename_i id off n esz ag hti hx
      have hu := (hT t _ hti).kind
      simp only [KOk] at hu
      have hr := ev_ne h hx (by simp) (by simp)
      refine hfin _ ?_ hk
      generalize Act.eval ⟨vs, []⟩ x = q at hr
      cases hr
      simp [Builtin.len_, run_underlying hu, goInt]
    · rename_i s n hti hx
      have hu := (hT t _ hti).kind
      simp only [KOk] at hu
      have hev := h.ev x ⟨vs, []⟩ rfl
      rw [hx] at hev
      obtain ⟨ad, cap, hX, _⟩ := hev
      refine hfin _ ?_ hk
      rw [hX]
      simp [Builtin.len_, run_underlying hu, goInt]
    · rename_i id hti hx
      have hu := (hT t _ hti).kind
      simp only [KOk] at hu
      split at hk
      · rename_i es hes
        obtain ⟨_, ents, clock, h2, h3, _⟩ := h.base.heap id _ hes
        have hr := ev_ne h hx (by simp) (by simp)
        refine hfin _ ?_ hk
        generalize Act.eval ⟨vs, []⟩ x = q at hr
        cases hr
        simp [Builtin.len_, run_underlying hu, goInt, getObj, Sem.run, h2, h3.1]
      · exact (noDen hk).elim
    · rename_i hti hx
      have hu := (hT t _ hti).kind
      simp only [KOk] at hu
      have hr := ev_ne h hx (by simp) (by simp)
      refine hfin _ ?_ hk
      generalize Act.eval ⟨vs, []⟩ x = q at hr
      cases hr
      simp [Builtin.len_, run_underlying hu, goInt]
    · exact (noDen hk).elim
  · exact (noDen hk).elim

theorem op_append [VR : Vars] (hT : TOk P E.T) {c : Call} (h : Rel w0 ω0 w g st vs) (ho : o.op = .call c) (hc : c.callee = .builtin .append) (hk : Den C (doOp E mv o st k) r) (hn : Follows C w0 ω0 o vs k r next) : o.wp P ⟨vs, []⟩ w next Q := by
  simp only [doOp, ho, hc] at hk
  split at hk
  · rename_i x y t u ha hta
    have harg : c.args = #[x, y] := by apply Array.ext'; exact ha
    have htys : c.argTypes = #[t, u] := by apply Array.ext'; exact hta
    have hfin : ∀ {Y : Value} {w' : World} {g' : Gh} {d : Nat} {A : AVal}, o.dst = some d → (Builtin.append_ #[t, u] o.type #[Act.eval ⟨vs, []⟩ x, Act.eval ⟨vs, []⟩ y]).run P w = .ok Y w' →
        Rel w0 ω0 w' g' (putD { st with ts := disown st.ts x } (some d) A) (Act.put ⟨vs, []⟩ (some d) Y).tmps → Den C (k A { st with ts := disown st.ts x }) r → o.wp P ⟨vs, []⟩ w next Q := fun {Y w' g' d A} hd hl hR hk => by
      have hrun : (execOp (Act.eval ⟨vs, []⟩) o).run P w = .ok (.value Y) w' := by
        simp only [execOp, ho, resolve, hc, harg, htys, Sem.run_bind, Sem.run_pure, Result.andThen_ok, invoke, builtin, List.map_toArray, List.map_cons, List.map_nil]
        simp [hl]
      exact wp_of_value hrun (hn _ _ _ _ g' (by rw [hd]; exact hR) hk)
    have hfinV : ∀ {Y : Value} {w' : World} {g' : Gh} {d : Nat} {A : AVal} {ts' : List AVal}, o.dst = some d → (Builtin.append_ #[t, u] o.type #[Act.eval ⟨vs, []⟩ x, Act.eval ⟨vs, []⟩ y]).run P w = .ok Y w' →
        Rel w0 ω0 w' g' (putD { st with ts := ts' } (some d) A) (Act.put ⟨vs, []⟩ (some d) Y).tmps → Den C (k A { st with ts := ts' }) r → o.wp P ⟨vs, []⟩ w next Q := fun {Y w' g' d A ts'} hd hl hR hk => by
      have hrun : (execOp (Act.eval ⟨vs, []⟩) o).run P w = .ok (.value Y) w' := by
        simp only [execOp, ho, resolve, hc, harg, htys, Sem.run_bind, Sem.run_pure, Result.andThen_ok, invoke, builtin, List.map_toArray, List.map_cons, List.map_nil]
        simp [hl]
      exact wp_of_value hrun (hn _ _ _ _ g' (by rw [hd]; exact hR) hk)
    have hfinH : ∀ {Y : Value} {w' : World} {g' : Gh} {d : Nat} {A : AVal} {H' : List HObj}, o.dst = some d → (Builtin.append_ #[t, u] o.type #[Act.eval ⟨vs, []⟩ x, Act.eval ⟨vs, []⟩ y]).run P w = .ok Y w' →
        Rel w0 ω0 w' g' (putD { st with ts := disown st.ts x, H := H' } (some d) A) (Act.put ⟨vs, []⟩ (some d) Y).tmps → Den C (k A { st with ts := disown st.ts x, H := H' }) r → o.wp P ⟨vs, []⟩ w next Q := fun {Y w' g' d A H'} hd hl hR hk => by
      have hrun : (execOp (Act.eval ⟨vs, []⟩) o).run P w = .ok (.value Y) w' := by
        simp only [execOp, ho, resolve, hc, harg, htys, Sem.run_bind, Sem.run_pure, Result.andThen_ok, invoke, builtin, List.map_toArray, List.map_cons, List.map_nil]
        simp [hl]
      exact wp_of_value hrun (hn _ _ _ _ g' (by rw [hd]; exact hR) hk)
    split at hk
    · rename_i hti hui
      have hu := (hT t _ hti).kind
      have hu2 := (hT u _ hui).kind
      simp only [KOk] at hu hu2
      split at hk
      · rename_i i he
        have hTi := hT _ i he
        split at hk
        · rename_i tt e' n cs hx
          split at hk
          · rename_i d ok esz' m f' hd hy
            obtain ⟨hb0, hk⟩ := cond_den hk
            obtain ⟨hb, hk⟩ := hk.chk
            simp only [Bool.and_eq_true, decide_eq_true_eq] at hb hb0
            obtain ⟨hok, hby, hmx⟩ := hb
            rw [hok] at hy
            have he' := Nat.eq_of_beq_eq_true hb0.2
            rw [he'] at hx hk
            obtain ⟨L, hL, ⟨ad, cap, hY⟩, hrunL⟩ := src_of (P := P) h hy hTi.pos (.inl (Nat.eq_of_beq_eq_true hb0.1))
            obtain ⟨Y, w', g', h1, h2⟩ := append_vec (ty := o.type) (d := d) h hu ⟨_, hu2, by simp⟩ hTi hx hL (X := Act.eval ⟨vs, []⟩ y) (by rw [hY]; rfl) hrunL hby hmx
            exact hfinV hd h1 h2 hk
          · exact (noDen hk).elim
        split at hk
        · rename_i n f ok esz' m f' hx hy
          obtain ⟨hb0, hk⟩ := cond_den hk
          obtain ⟨hb, hk⟩ := hk.chk
          simp only [Bool.and_eq_true, decide_eq_true_eq] at hb hb0
          obtain ⟨hok, hby, hmx⟩ := hb
          rw [hok] at hy
          obtain ⟨hds, hz⟩ := hb0
          obtain ⟨d, hd⟩ := Option.isSome_iff_exists.1 hds
          have hz' : esz' = i.size ∨ m = 0 := .inl (Nat.eq_of_beq_eq_true hz)
          obtain ⟨L, hL, ⟨ad, cap, hY⟩, hrunL⟩ := src_of (P := P) h hy hTi.pos hz'
          have hord : Den C (k (.slice .own i.size (n + m) (glue n f f')) { st with ts := disown st.ts x }) r → o.wp P ⟨vs, []⟩ w next Q := fun hk => by
            obtain ⟨Y, w', g', h1, h2⟩ := append_core (ty := o.type) (d := d) h hu ⟨_, hu2, by simp⟩ hTi hx hL (X := Act.eval ⟨vs, []⟩ y) (by rw [hY]; rfl) hrunL hby hmx
            exact hfin hd h1 h2 hk
          cases hmu : (mutAt E o.dst && emptyBase (ev st.ts x)) <;> rw [hmu] at hk
          · exact hord hk
          · simp only [Bool.and_eq_true] at hmu
            rcases hk.inv with ⟨hm0, hk⟩ | ⟨_, hk⟩
            · obtain ⟨Y, w', g', h1, h2⟩ := append_arr (ty := o.type) (d := d) h hu ⟨_, hu2, by simp⟩ hTi hx hL (X := Act.eval ⟨vs, []⟩ y) (by rw [hY]; rfl) hrunL hby hmx hmu.2 (of_decide_eq_true hm0)
              exact hfinH hd h1 h2 hk
            · exact hord hk
        · exact (noDen hk).elim
      · exact (noDen hk).elim
    · rename_i hti hui
      have hu := (hT t _ hti).kind
      have hu2 := (hT u _ hui).kind
      simp only [KOk] at hu hu2
      split at hk
      · rename_i i he
        have hTi := hT _ i he
        split at hk
        · rename_i tt e' n cs hx
          split at hk
          · rename_i d s hd hy
            obtain ⟨hb0, hk⟩ := cond_den hk
            obtain ⟨hb, hk⟩ := hk.chk
            simp only [Bool.and_eq_true, decide_eq_true_eq] at hb hb0
            obtain ⟨hby, hmx⟩ := hb
            have hz' := Nat.eq_of_beq_eq_true hb0.1
            have he' := Nat.eq_of_beq_eq_true hb0.2
            have hX := eval_str h hy
            rw [he', ← hz'] at hx hk
            obtain ⟨Y, w', g', h1, h2⟩ := append_vec (ty := o.type) (d := d) h hu ⟨_, hu2, by simp⟩ hTi hx (hz' ▸ src_str s) (X := Act.eval ⟨vs, []⟩ y) (by rw [hX]; rfl) (fun w' _ => by
              rw [hX, hz']
              simp only [Builtin.firstCells, Sem.run_pure]
              congr 1
              apply Array.ext'
              simp) hby hmx
            exact hfinV hd h1 h2 hk
          · exact (noDen hk).elim
        split at hk
        · rename_i n f s hx hy
          obtain ⟨hb0, hk⟩ := cond_den hk
          obtain ⟨hb, hk⟩ := hk.chk
          simp only [Bool.and_eq_true, decide_eq_true_eq] at hb hb0
          obtain ⟨hby, hmx⟩ := hb
          obtain ⟨hds, hz⟩ := hb0
          obtain ⟨d, hd⟩ := Option.isSome_iff_exists.1 hds
          have hz' := Nat.eq_of_beq_eq_true hz
          have hX := eval_str h hy
          obtain ⟨Y, w', g', h1, h2⟩ := append_core (ty := o.type) (d := d) h hu ⟨_, hu2, by simp⟩ hTi hx (hz' ▸ src_str s) (X := Act.eval ⟨vs, []⟩ y) (by rw [hX]; rfl) (fun w' _ => by
            rw [hX, hz']
            simp only [Builtin.firstCells, Sem.run_pure]
            congr 1
            apply Array.ext'
            simp) hby hmx
          exact hfin hd h1 h2 hk
        · exact (noDen hk).elim
      · exact (noDen hk).elim
    · exact (noDen hk).elim
  · exact (noDen hk).elim

theorem op_minmax [VR : Vars] {c : Call} (h : Rel w0 ω0 w g st vs) (ho : o.op = .call c) (hc : c.callee = .builtin .min ∨ c.callee = .builtin .max) (hk : Den C (doOp E mv o st k) r) (hn : Follows C w0 ω0 o vs k r next) : o.wp P ⟨vs, []⟩ w next Q := by
  have hargs : ∀ q a q' b, c.args.toList.map (ev st.ts) = [.int q a, .int q' b] → c.args.map (Act.eval ⟨vs, []⟩) = #[.int q a, .int q' b] := fun q a q' b he => by
    have hl : c.args.toList.length = 2 := by have := congrArg List.length he; simpa using this
    match hcl : c.args.toList, hl with
    | [x, y], _ =>
      rw [hcl] at he
      simp only [List.map_cons, List.map_nil, List.cons.injEq, and_true] at he
      have hca : c.args = #[x, y] := by apply Array.ext'; exact hcl
      rw [hca]
      simp [eval_int h he.1, eval_int h he.2]
  rcases hc with hc | hc
  · simp only [doOp, ho, hc] at hk
    split at hk
    · rename_i q a q' b he
      split at hk
      · rename_i hq
        subst hq
        have hrun : (execOp (Act.eval ⟨vs, []⟩) o).run P w = .ok (.value (.int q (bif decide (b < a) then b else a))) w := by
          simp only [execOp, ho, resolve, hc, Sem.run_bind, Sem.run_pure, Result.andThen_ok, invoke, builtin, hargs q a q b he]
          by_cases hb : b < a <;> simp [Builtin.min_, Builtin.min2, hb]
        exact wp_of_value hrun (hn _ _ _ _ g (h.put_ev (v := .int q _) (Rep.int _ _) rfl) hk)
      · exact (noDen hk).elim
    · exact (noDen hk).elim
  · simp only [doOp, ho, hc] at hk
    split at hk
    · rename_i q a q' b he
      split at hk
      · rename_i hq
        subst hq
        have hrun : (execOp (Act.eval ⟨vs, []⟩) o).run P w = .ok (.value (.int q (bif decide (b > a) then b else a))) w := by
          simp only [execOp, ho, resolve, hc, Sem.run_bind, Sem.run_pure, Result.andThen_ok, invoke, builtin, hargs q a q b he]
          by_cases hb : b > a <;> simp [Builtin.max_, Builtin.max2, hb]
        exact wp_of_value hrun (hn _ _ _ _ g (h.put_ev (v := .int q _) (Rep.int _ _) rfl) hk)
      · exact (noDen hk).elim
    · exact (noDen hk).elim

end
end Go.AM
