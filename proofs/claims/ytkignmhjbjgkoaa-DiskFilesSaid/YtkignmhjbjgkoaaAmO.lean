/- Regions, code, calls: the machine's run is the model's. -/
import Derived.Test.YtkignmhjbjgkoaaAmV
import Derived.LoopN
set_option linter.unusedVariables false
set_option linter.unusedSimpArgs false
namespace Go.AM
open Go.RowKit

section
variable {R : Type} {P : Program} {E : Env} {w0 : World} {ω0 : Entry} {w : World} {g : Gh} {st : St} {vs : Array Value}
  {C : FuncId → List AVal → List HObj → AVal → List HObj → Prop} {o : Oper} {k : AVal → St → Tree R} {r : R} {next : Act → World → Prop} {Q : Exit → Act → World → Prop} {mv : Bool}

theorem run_equal_slice {t e : TypeId} {p : Option Addr} {n c : Nat} (h : P.underlying t = some (.slice e)) : (Op.equal t (.slice p n c) (.slice none 0 0)).run P w = .ok p.isNone w := by
  unfold Op.equal Op.maxDepth
  rw [Op.equalIn]
  cases p <;> simp only [Sem.run_bind, run_underlying h, Result.andThen_ok, Sem.run_pure, Option.isNone]

theorem run_eqGuard_slice {op : BinOp} {t : TypeId} {x y : Operand} {p q : Option Addr} {n c m d : Nat} : (eqGuard op t x y (.slice p n c) (.slice q m d)).run P w = .ok () w := by
  unfold eqGuard
  cases op <;> simp [Sem.run_pure]

theorem nilTest_run (hT : TOk P E.T) (h : Rel w0 ω0 w g st vs) {n : Nat} {b : Bool} (e : nilTest E st o.op = some (n, b)) :
    ∃ c, (execOp (Act.eval ⟨vs, []⟩) o).run P w = .ok (.value (.bool c)) w ∧ (c = b ∨ c = !b) ∧ (0 < n → c = !b) := by
  unfold nilTest at e
  split at e
  · rename_i t x u ho
    split at e
    · rename_i hti hx
      cases e
      have hu := (hT t _ hti).kind
      simp only [KOk] at hu
      have hv := ev_ne h hx (by simp) (by simp)
      generalize hq : Act.eval ⟨vs, []⟩ x = q at hv
      cases hv with
      | slice sp esz n f ad cap vals hc hx' hnl ha hl hp hrr =>
        refine ⟨ad.isNone, ?_, by cases ad <;> simp, fun h0 => by obtain ⟨b, o, rfl, _⟩ := ha h0; rfl⟩
        simp only [execOp, ho, hq]
        refine run_value ?_
        simp only [Act.eval, Sem.run_bind, run_eqGuard_slice, Result.andThen_ok, binOp, run_equal_slice hu, Sem.run_pure]
    · cases e
  · rename_i t x u ho
    split at e
    · rename_i hti hx
      cases e
      have hu := (hT t _ hti).kind
      simp only [KOk] at hu
      have hv := ev_ne h hx (by simp) (by simp)
      generalize hq : Act.eval ⟨vs, []⟩ x = q at hv
      cases hv with
      | slice sp esz n f ad cap vals hc hx' hnl ha hl hp hrr =>
        refine ⟨!ad.isNone, ?_, by cases ad <;> simp, fun h0 => by obtain ⟨b, o, rfl, _⟩ := ha h0; rfl⟩
        simp only [execOp, ho, hq]
        refine run_value ?_
        simp only [Act.eval, Sem.run_bind, run_eqGuard_slice, Result.andThen_ok, binOp, run_equal_slice hu, Sem.run_pure]
    · cases e
  · cases e

theorem doOps_sound (hE : EnvOk P E C) {ops : Array Oper} {kf : St → Tree R} : ∀ (rest : List Oper) (l : List Nat) (w : World) (g : Gh) (st : St) (vs : Array Value), (rest.length = l.length ∧ ∀ (j : Nat) i, l[j]? = some i → ops[i]? = rest[j]?) → Rel w0 ω0 w g st vs →
    Den C (doOps E ops.toList rest st kf) r → (∀ w' g' st' vs', Rel w0 ω0 w' g' st' vs' → Den C (kf st') r → Q .normal ⟨vs', []⟩ w') → wpOps P ops Q l ⟨vs, []⟩ w
  | [], [], w, g, st, vs, _, h, hk, hn => by simp only [wpOps]; exact hn w g st vs h hk
  | [], i :: l, _, _, _, _, hl, _, _, _ => by simp at hl
  | o :: rest, [], _, _, _, _, hl, _, _, _ => by simp at hl
  | o :: rest, i :: l, w, g, st, vs, hl, h, hk, hn => by
    have ho : ops[i]? = some o := hl.2 0 i rfl
    have hl' : rest.length = l.length ∧ ∀ (j : Nat) i, l[j]? = some i → ops[i]? = rest[j]? := ⟨by simpa using hl.1, fun j i' hj => by simpa using hl.2 (j + 1) i' (by simpa using hj)⟩
    simp only [wpOps, ho]
    have hdo : ∀ st1, st1 = st → Den C (doOp E (isBase ops.toList o.dst) o st1 (fun v st' => eqv E o.dst v fun v => doOps E ops.toList rest (putD st' o.dst v) kf)) r → o.wp P ⟨vs, []⟩ w (wpOps P ops Q l) Q := fun st1 e hk2 => by
      rw [e] at hk2
      refine doOp_sound hE h hk2 (fun v st' x w' g' hR hk' => ?_)
      have hd : (Act.put ⟨vs, []⟩ o.dst x) = ⟨(Act.put ⟨vs, []⟩ o.dst x).tmps, []⟩ := by cases o.dst <;> rfl
      rw [hd]
      obtain ⟨v', hsv, hk'⟩ := eqv_den hk'
      exact doOps_sound hE rest l w' g' _ _ hl' (hR.put_same hsv) hk' hn
    have hskip : ∀ st1, st1 = st → Den C (doOps E ops.toList rest (putD st1 o.dst (.tuple [])) kf) r → wpOps P ops Q l (Act.put ⟨vs, []⟩ o.dst undef) w := fun st1 e hk2 => by
      rw [e] at hk2
      have hR := h.put o.dst (v := .tuple []) (x := undef) (fun s => repSlot_skip)
      have hd : (Act.put ⟨vs, []⟩ o.dst undef) = ⟨(Act.put ⟨vs, []⟩ o.dst undef).tmps, []⟩ := by cases o.dst <;> rfl
      rw [hd]
      exact doOps_sound hE rest l w g _ _ hl' hR hk2 hn
    simp only [doOps] at hk
    split at hk
    · rename_i hg
      rw [if_pos (by simp [Region.wanted, hg])]
      split at hk
      · rename_i n b hnt
        obtain ⟨c, hrun, hc, h0⟩ := nilTest_run hE.T h hnt
        refine .inl (wp_of_value hrun ?_)
        have hput : ∀ c', Den C (doOps E ops.toList rest (putD st o.dst (.bool c')) kf) r → c = c' → wpOps P ops Q l (Act.put ⟨vs, []⟩ o.dst (.bool c)) w := fun c' hk2 e => by
          subst e
          have hR := h.put o.dst (v := .bool c) (x := .bool c) (fun s => RepSlot.of_pl ⟨.bool c, fun e n f he => by cases he⟩)
          have hd : (Act.put ⟨vs, []⟩ o.dst (.bool c)) = ⟨(Act.put ⟨vs, []⟩ o.dst (.bool c)).tmps, []⟩ := by cases o.dst <;> rfl
          rw [hd]
          exact doOps_sound hE rest l w g _ _ hl' hR hk2 hn
        rcases hk.inv with ⟨e, hk⟩ | ⟨e, hk⟩
        · exact hput _ hk (h0 (of_decide_eq_true e))
        · obtain ⟨hk1, hk2⟩ := hk.anyInv
          rcases hc with e | e
          · exact hput _ hk1 e
          · exact hput _ hk2 e
      · split at hk
        · rename_i id m es todo hnx
          refine .inl ?_
          have hput : ∀ {w' : World} {g' : Gh} {st' : St} {A : List AVal} {V : Array Value}, Rel w0 ω0 w' g' st' vs → Rep w' g'.I g'.η st'.H.length (.tuple A) (.tuple V) → (execOp (Act.eval ⟨vs, []⟩) o).run P w = .ok (.value (.tuple V)) w' →
              Den C (doOps E ops.toList rest (putD st' o.dst (.tuple A)) kf) r → o.wp P ⟨vs, []⟩ w (wpOps P ops Q l) Q := fun {w' g' st' A V} hR' hrep hrun hk2 => by
            refine wp_of_value hrun ?_
            have hR := hR'.put o.dst (v := .tuple A) (x := .tuple V) (fun s => RepSlot.of_pl ⟨hrep, fun e n f he => by cases he⟩)
            have hd : (Act.put ⟨vs, []⟩ o.dst (.tuple V)) = ⟨(Act.put ⟨vs, []⟩ o.dst (.tuple V)).tmps, []⟩ := by cases o.dst <;> rfl
            rw [hd]
            exact doOps_sound hE rest l w' g' _ _ hl' hR hk2 hn
          rcases next_sound (P := P) h hnx with ⟨h0, hrun⟩ | ⟨j, w', K, V, hj, hrun, hR', hK, hV⟩
          · rcases hk.inv with ⟨e, hk⟩ | ⟨e, hk⟩
            · exact hput h (.tuple _ _ rfl (fun i c v hc hv => by
                rcases i with _ | i
                · simp at hc hv; subst hc; subst hv; exact .bool false
                · simp at hc)) hrun hk
            · rw [h0] at e; cases e
          · rcases hk.inv with ⟨e, hk⟩ | ⟨e, hk⟩
            · rw [List.isEmpty_iff] at e; subst e; simp at hj
            · refine hput hR' ?_ hrun (hk.allInv j hj)
              simp only [List.length_set]
              refine .tuple _ _ rfl (fun i c v hc hv => ?_)
              rcases i with _ | _ | _ | i
              · simp at hc hv; subst hc; subst hv; exact .bool true
              · simp only [List.getElem?_cons_succ, List.getElem?_cons_zero, Option.some.injEq] at hc
                simp at hv; subst hc; subst hv; exact hK
              · simp only [List.getElem?_cons_succ, List.getElem?_cons_zero, Option.some.injEq] at hc
                simp at hv; subst hc; subst hv; exact hV.disAgg
              · simp at hc
        · exact .inl (hdo st rfl hk)
    · rename_i j want hg
      split at hk
      · rename_i d hd
        have hd' : (ops[j]?).bind (·.dst) = some d := by simpa using hd
        split at hk
        · rename_i b hb
          have hv := h.bool_at hb
          have hy : yielded ops vs j = some b := by simp [yielded, hd', hv]
          have hsame : ∀ b', b = b' → ({ st with ts := st.ts.set d (.bool b') } : St) = st := fun b' e => by rw [← e, (set_same hb (by simp)).1]
          cases want with
          | true =>
            rcases hk.inv with ⟨e, hk⟩ | ⟨e, hk⟩
            · rw [if_pos (by simp [Region.wanted, hg, hy, e])]
              exact .inl (hdo _ (hsame true e) hk)
            · rw [if_neg (by simp [Region.wanted, hg, hy, e])]
              exact hskip _ (hsame false e) hk
          | false =>
            rcases hk.inv with ⟨e, hk⟩ | ⟨e, hk⟩
            · rw [if_neg (by simp [Region.wanted, hg, hy, e])]
              exact hskip _ (hsame true e) hk
            · rw [if_pos (by simp [Region.wanted, hg, hy, e])]
              exact .inl (hdo _ (hsame false e) hk)
        · rename_i hb
          have hv := h.tuple_at hb
          have hy : yielded ops vs j = none := by simp [yielded, hd', hv]
          rw [if_neg (by simp [Region.wanted, hg, hy])]
          exact hskip _ rfl hk
        · exact (noDen hk).elim
      · exact (noDen hk).elim

def toExit : AExit → Exit
  | .normal => .normal
  | .ret => .ret
  | .exit id => .exit id

theorem exit_then {nx : Act → World → Prop} {e : AExit} {a : Act} {w : World} (h : e = .normal → nx a w) (h' : e ≠ .normal → Q (toExit e) a w) : Exit.then nx Q (toExit e) a w := by
  cases e with
  | normal => exact h rfl
  | ret => exact h' (by simp)
  | exit id => exact h' (by simp)

/-- Ahead of a loop the marks of spare room change their names. -/
theorem Rel.norm (h : Rel w0 ω0 w g st vs) : Rel w0 ω0 w g { st with ts := st.ts.map normS } vs := by
  have hV : ∀ s i a v, RepPl w g st.H.length s i a v → RepPl w g st.H.length s i (normV a) v := fun s i a v hr => by
    obtain ⟨h1, h2⟩ := hr
    cases h1 with
    | slice sp esz n f ad cap vals hc hx hnl ha hl hp hrr =>
      cases sp with
      | exact =>
        refine ⟨.slice .own esz n f ad cap vals hc (by simp) (by simp) ha hl hp hrr, fun e n' f' he => ?_⟩
        cases he
        exact ⟨ad, cap, rfl, fun j h3 h4 => by rw [hx rfl] at h4; omega⟩
      | nil =>
        refine ⟨.slice .own esz n f ad cap vals hc (by simp) (by simp) ha hl hp hrr, fun e n' f' he => ?_⟩
        cases he
        exact ⟨ad, cap, rfl, fun j h3 h4 => by rw [(hnl rfl).2] at h4; omega⟩
      | shared => exact ⟨.slice .shared esz n f ad cap vals hc hx hnl ha hl hp hrr, h2⟩
      | own => exact ⟨.slice .own esz n f ad cap vals hc hx hnl ha hl hp hrr, h2⟩
    | agg cs vs hl hr hp => exact ⟨.agg cs vs hl hr hp, h2⟩
    | bool b => exact ⟨.bool b, h2⟩
    | int k n => exact ⟨.int k n, h2⟩
    | str s => exact ⟨.str s, h2⟩
    | nilIface => exact ⟨.nilIface, h2⟩
    | nilFunc => exact ⟨.nilFunc, h2⟩
    | nilMap => exact ⟨.nilMap, h2⟩
    | nilPtr => exact ⟨.nilPtr, h2⟩
    | func f cs vs hl hr => exact ⟨.func f cs vs hl hr, h2⟩
    | tuple cs vs hl hr => exact ⟨.tuple cs vs hl hr, h2⟩
    | rptr c b o vals hp ha hr => exact ⟨.rptr c b o vals hp ha hr, h2⟩
    | map id h => exact ⟨.map id h, h2⟩
    | href id off h => exact ⟨.href id off h, h2⟩
    | mslice id off n esz ag cap h hc hag => exact ⟨.mslice id off n esz ag cap h hc hag, h2⟩
    | iface t a v hr => exact ⟨.iface t a v hr, h2⟩
  have hplain : ∀ c, plain (normV c) = plain c := fun c => by
    cases c <;> first | rfl | (rename_i sp e n f; cases sp <;> rfl)
  refine h.set_ts (by simp) (fun s a v h1 h2 _ => ?_)
  simp only [List.getElem?_map, Option.map_eq_some_iff] at h1
  obtain ⟨a0, h0, rfl⟩ := h1
  have hs := h.slot s a0 v h0 h2
  cases a0 with
  | lbox cs =>
    obtain ⟨h3, h4, h5⟩ := hs
    refine ⟨h3, fun o ho => h4 o (by simpa using ho), fun o c hc => ?_⟩
    simp only [List.getElem?_map, Option.map_eq_some_iff] at hc
    obtain ⟨c0, hc0, rfl⟩ := hc
    obtain ⟨h6, x, h7, h8⟩ := h5 o c0 hc0
    exact ⟨by rw [hplain]; exact h6, x, h7, hV _ _ _ _ h8⟩
  | undef => trivial
  | lptr s' o => exact hs
  | slice sp e n f =>
    have := hV s 0 _ v hs
    cases sp <;> exact this
  | _ => exact hs

theorem exec_sound (hE : EnvOk P E C) {n : Nat} : ∀ (c : Code) (k : AExit → St → Tree R) (Q : Exit → Act → World → Prop) (w : World) (g : Gh) (st : St) (vs : Array Value), Rel w0 ω0 w g st vs → Den C (exec E n c st k) r →
    (∀ e w' g' st' vs', Rel w0 ω0 w' g' st' vs' → Den C (k e st') r → Q (toExit e) ⟨vs', []⟩ w') → c.wp P Q ⟨vs, []⟩ w := by
  intro c
  induction c with
  | skip => exact fun k Q w g st vs h hk hn => wp_skip (hn .normal w g st vs h hk)
  | region id ops draw =>
    intro k Q w g st0 vs h0 hk0 hn
    simp only [exec] at hk0
    obtain ⟨g, st, h, hk⟩ : ∃ g st, Rel w0 ω0 w g st vs ∧ Den C (bif draw then drawn E ops.toList st (k .normal) else doOps E ops.toList ops.toList st (k .normal)) r := by
      obtain ⟨g1, hd⟩ := (h0.drop (E := E) (id := some id)).ghosts (ghostAt id E.hint.gh)
      replace hk0 : Den C (reg E id ops draw k (drop E (some id) st0)) r := by
        cases hj : E.hint.joins.contains id <;> rw [hj] at hk0
        · exact hk0
        · exact hk0.joinInv
      unfold reg reHeap at hk0
      cases hb : E.hint.reH.contains id <;> rw [hb] at hk0
      · exact ⟨g1, _, hd, hk0⟩
      · obtain ⟨H', hs, hk⟩ := Den.sameHInv hk0
        exact ⟨g1, _, hd.sameH hs, hk⟩
    cases draw with
    | true =>
      simp only [cond_true] at hk
      exact drawn_sound hE h hk (fun w' g' st' vs' hR hk' => hn .normal w' g' st' vs' hR hk')
    | false =>
      simp only [cond_false] at hk
      refine wp_region (doOps_sound hE ops.toList (List.range ops.size) w g st vs ⟨by simp, fun j i hj => ?_⟩ h hk (fun w' g' st' vs' hR hk' => hn .normal w' g' st' vs' hR hk'))
      have hj' := lt_of_some hj
      simp only [List.length_range] at hj'
      rw [List.getElem?_range hj'] at hj
      cases hj
      simp
  | seq a b iha ihb =>
    intro k Q w g st vs h hk hn
    simp only [exec] at hk
    refine wp_seq (iha _ _ w g st vs h hk (fun e w' g' st' vs' hR hk' => exit_then (fun he => ?_) (fun he => ?_)))
    · subst he; exact ihb k Q w' g' st' vs' hR hk' hn
    · cases e with
      | normal => exact absurd rfl he
      | ret => exact hn .ret w' g' st' vs' hR hk'
      | exit id => exact hn (.exit id) w' g' st' vs' hR hk'
  | cond x a b iha ihb =>
    intro k Q w g st vs h hk hn
    cases x with
    | tmp t =>
      simp only [exec] at hk
      split at hk
      · rename_i c hc
        have hv := h.bool_at hc
        have hev : Act.eval ⟨vs, []⟩ (.tmp t) = .bool c := by simp [Act.eval, Array.getD_eq_getD_getElem?, hv]
        have hsame : ∀ b', c = b' → ({ st with ts := st.ts.set t (.bool b') } : St) = st := fun b' e => by rw [← e, (set_same hc (by simp)).1]
        rcases hk.inv with ⟨e, hk⟩ | ⟨e, hk⟩
        · rw [hsame true e] at hk
          exact wp_cond_true (by rw [hev, e]) (iha k Q w g st vs h hk hn)
        · rw [hsame false e] at hk
          exact wp_cond_false (by rw [hev, e]) (ihb k Q w g st vs h hk hn)
      · exact (noDen hk).elim
    | _ => simp only [exec] at hk; exact (noDen hk).elim
  | block id c ih =>
    intro k Q w g st vs h hk hn
    simp only [exec] at hk
    refine wp_block (ih _ _ w g st vs h hk (fun e w' g' st' vs' hR hk' => ?_))
    cases e with
    | normal => exact hn .normal w' g' st' vs' hR hk'
    | ret => exact hn .ret w' g' st' vs' hR hk'
    | exit id' =>
      simp only [blockK] at hk'
      show (if id' = id then Q .normal _ _ else Q (.exit id') _ _)
      cases hb : Nat.beq id' id <;> rw [hb] at hk'
      · rw [if_neg (Nat.ne_of_beq_eq_false hb)]; exact hn (.exit id') w' g' st' vs' hR hk'
      · rw [if_pos (Nat.eq_of_beq_eq_true hb)]; exact hn .normal w' g' st' vs' hR hk'
  | loop c ih =>
    intro k Q w g st vs h hk hn
    simp only [exec] at hk
    refine wp_loop_rounds n ?_
    have key : ∀ m w g st vs, Rel w0 ω0 w g st vs → Den C (iter (exec E n c) (AM.drop E (firstId c)) m st k) r → Code.rounds P c Q m ⟨vs, []⟩ w := by
      intro m
      induction m with
      | zero => intro w g st vs h hk; exact (noDen hk).elim
      | succ m ihm =>
        intro w g st vs h hk
        simp only [iter] at hk
        refine ih _ _ w g st vs h hk (fun e w' g' st' vs' hR hk' => exit_then (fun he => ?_) (fun he => ?_))
        · subst he; exact ihm w' g' _ vs' hR.drop hk'
        · cases e with
          | normal => exact absurd rfl he
          | ret => exact hn .ret w' g' st' vs' hR hk'
          | exit id => exact hn (.exit id) w' g' st' vs' hR hk'
    exact key n w g _ vs h.norm.drop hk
  | exit id => exact fun k Q w g st vs h hk hn => wp_exit (hn (.exit id) w g st vs h hk)
  | ret => exact fun k Q w g st vs h hk hn => wp_ret (hn .ret w g st vs h hk)
  | _ => intro k Q w g st vs h hk hn; simp only [exec] at hk; exact (noDen hk).elim

end
end Go.AM
