/- The operations: new variables, loads, stores, addresses, fields, elements. -/
import Derived.Test.YtkignmhjbjgkoaaAmF
set_option linter.unusedVariables false
set_option linter.unusedSimpArgs false
namespace Go.AM
open Go.RowKit

theorem addr_add (b o n : Nat) : (⟨b, o, none⟩ : Addr).add n = ⟨b, o + n, none⟩ := by
  unfold Addr.add; split <;> simp_all

theorem plain_one {w : World} {I : Nat → Nat → Prop} {η : Nat → Nat} {N : Nat} {a : AVal} {v : Value} (h : Rep w I η N a v) (hp : plain a = true) : v.oneCell' = true ∧ v.cells = #[v] ∧ a.cells = [a] := by
  cases h <;> first | (simp [plain] at hp; done) | exact ⟨rfl, rfl, rfl⟩
theorem rep_cells {w : World} {I : Nat → Nat → Prop} {η : Nat → Nat} {N : Nat} {a : AVal} {v : Value} (h : Rep w I η N a v) (hp : plainAgg a = true) :
    v.cells.size = a.cells.length ∧ (∀ (j : Nat) c x, a.cells[j]? = some c → v.cells[j]? = some x → plain c = true ∧ Rep w I η N c x) ∧ ∀ x ∈ v.cells.toList, x.oneCell' = true := by
  cases a with
  | agg cs =>
    cases h with
    | agg _ vs hl hr hq =>
      refine ⟨hl.symm, fun j c x hc hx => ⟨hq c (List.mem_of_getElem? hc), hr j c x hc hx⟩, fun x hx => ?_⟩
      obtain ⟨j, hj, e⟩ := List.getElem_of_mem hx
      have hj' : j < vs.size := hj
      have hjc : j < cs.length := by rw [hl]; exact hj'
      have e' : vs[j]? = some x := by rw [Array.getElem?_eq_getElem hj']; exact congrArg some e
      exact (plain_one (hr j cs[j] x (List.getElem?_eq_getElem hjc) e') (hq _ (List.getElem_mem hjc))).1
  | _ =>
    have hp' := hp
    simp only [plainAgg] at hp'
    obtain ⟨h1, h2, h3⟩ := plain_one h hp'
    rw [h2, h3]
    refine ⟨rfl, fun j c x hc hx => ?_, fun x hx => ?_⟩
    · cases j with
      | zero => simp at hc hx; subst hc; subst hx; exact ⟨hp', h⟩
      | succ j => simp at hc
    · simp at hx; subst hx; exact h1

/-- Cells that lie one behind the other. -/
def CellsAt (w : World) (g : Gh) (N b o : Nat) (l : List AVal) : Prop := ∀ (j : Nat) c, l[j]? = some c → plain c = true ∧ ∃ x, w.cell? ⟨b, o + j, none⟩ = some x ∧ Rep w g.I g.η N c x

section
variable {R : Type} {P : Program} {E : Env} {w0 : World} {ω0 : Entry} {w : World} {g : Gh} {st : St} {vs : Array Value}
  {C : FuncId → List AVal → List HObj → AVal → List HObj → Prop} {o : Oper} {k : AVal → St → Tree R} {r : R} {next : Act → World → Prop} {Q : Exit → Act → World → Prop} {mv : Bool}

theorem run_isAgg {t : TypeId} {i : TI} (h : TIOk P t i) : (isAgg t).run P w = .ok i.agg w := by
  obtain ⟨u, hu⟩ := h.und
  have ha := h.agg
  simp only [isAgg, Sem.run_bind, run_underlying hu, Result.andThen_ok]
  rw [hu] at ha
  cases u <;> simp only [Sem.run_pure] <;> simp_all
theorem TIOk.one {t : TypeId} {i : TI} (h : TIOk P t i) (ha : i.agg = false) : i.size = 1 := by
  have := h.zlen
  have hz := h.zagg
  cases hq : i.zero <;> rw [hq] at this hz <;> simp_all [AVal.cells]

theorem load_agg {t : TypeId} {i : TI} (hT : TIOk P t i) (ha : i.agg = true) {N b a : Nat} {l : List AVal} (hc : CellsAt w g N b a l) (hl : l.length = i.size) :
    ∃ X, (loadVar t ⟨b, a, none⟩).run P w = .ok X w ∧ Rep w g.I g.η N (.agg (l.map dis)) X := by
  obtain ⟨inf, z, hi, hs, _⟩ := hT.info
  have hcell : ∀ j, j < inf.size → w.cell? ((⟨b, a, none⟩ : Addr).add j) = some ((fun j => (w.cell? ⟨b, a + j, none⟩).getD undef) j) := fun j hj => by
    obtain ⟨_, x, hx, _⟩ := hc j l[j] (List.getElem?_eq_getElem (by rw [hl, ← hs]; exact hj))
    rw [addr_add, hx]; simp [hx]
  refine ⟨_, ?_, .agg _ ((List.range inf.size).map fun j => (w.cell? ⟨b, a + j, none⟩).getD undef).toArray ?_ ?_ ?_⟩
  · simp only [loadVar, Sem.run_bind, run_isAgg hT, ha, Result.andThen_ok, if_true, run_sizeOf hi, run_loadCells w _ _ _ hcell, Sem.run_pure]
  · simp [hl, hs]
  · intro j c v h1 h2
    simp only [List.getElem?_map, Option.map_eq_some_iff] at h1
    obtain ⟨c0, h0, rfl⟩ := h1
    have hj := lt_of_some h0
    obtain ⟨_, x, hx, hr⟩ := hc j c0 h0
    simp only [List.getElem?_toArray, List.getElem?_map, Option.map_eq_some_iff] at h2
    obtain ⟨j', h3, h4⟩ := h2
    have : j' = j := by rw [List.getElem?_range (by rw [hs, ← hl]; exact hj)] at h3; exact (Option.some.inj h3).symm
    subst this
    rw [hx] at h4; simp at h4; subst h4
    exact hr.dis
  · intro c h1
    obtain ⟨c0, h0, rfl⟩ := List.mem_map.1 h1
    obtain ⟨j, hj, e⟩ := List.getElem_of_mem h0
    rw [plain_dis]
    exact (hc j c0 (by rw [List.getElem?_eq_getElem hj, e])).1
theorem load_one {t : TypeId} {i : TI} (hT : TIOk P t i) (ha : i.agg = false) {b a : Nat} {x : Value} (hc : w.cell? ⟨b, a, none⟩ = some x) : (loadVar t ⟨b, a, none⟩).run P w = .ok x w := by
  simp only [loadVar, Sem.run_bind, run_isAgg hT, ha, Result.andThen_ok, if_false, run_load]
  simp [hc]

theorem store_run {t : TypeId} {i : TI} (hT : TIOk P t i) {A : AVal} {X : Value} {N b a : Nat} (hr : Rep w g.I g.η N A X) (hp : plainAgg A = true) (hl : A.cells.length = i.size)
    (hc : ∀ j, j < i.size → (w.cell? ⟨b, a + j, none⟩).isSome = true) (hf : ∀ j, j < i.size → w.frozen? ⟨b, a + j, none⟩ = false) :
    (storeVar t ⟨b, a, none⟩ X).run P w = .ok () (w.setCells b a X.cells.toList) := by
  obtain ⟨inf, z, hi, hs, _⟩ := hT.info
  obtain ⟨h1, _, h3⟩ := rep_cells hr hp
  have hsz : X.cells.size = i.size := h1.trans hl
  have hlen : X.cells.toList.length = i.size := by simpa using hsz
  simp only [storeVar, Sem.run_bind, run_sizeOf hi, Result.andThen_ok]
  rw [if_neg (by rw [hsz, hs]; simp)]
  rw [run_storeCells_cells b a X.cells.toList 0 w (fun j hj => by simpa using hc j (by rw [← hlen]; exact hj)) (fun j hj => by simpa using hf j (by rw [← hlen]; exact hj)) h3]
  simp

/-- What a slot's box holds. -/
theorem Rel.boxAt (h : Rel w0 ω0 w g st vs) {s : Nat} {cs : List AVal} (e : st.ts.getD s .undef = .lbox cs) :
    st.ts[s]? = some (.lbox cs) ∧ (∃ v, vs[s]? = some v ∧ RepSlot w g st.H.length s (.lbox cs) v) := by
  have e1 : st.ts[s]? = some (.lbox cs) := by
    rcases hq : st.ts[s]? with _ | q
    · simp [List.getD, hq] at e
    · simp [List.getD, hq] at e; rw [e]
  have hs : s < vs.size := by rw [← h.len]; exact lt_of_some e1
  exact ⟨e1, vs[s], Array.getElem?_eq_getElem hs, h.slot s _ _ e1 (Array.getElem?_eq_getElem hs)⟩
theorem Rel.boxCells (h : Rel w0 ω0 w g st vs) {s : Nat} {cs : List AVal} (e : st.ts.getD s .undef = .lbox cs) (off n : Nat) (hn : off + n ≤ cs.length) : CellsAt w g st.H.length (g.β s) off ((cs.drop off).take n) := by
  obtain ⟨_, v, _, hr⟩ := h.boxAt e
  intro j c hc
  have hj := lt_of_some hc
  simp only [List.length_take, List.length_drop] at hj
  rw [List.getElem?_take_of_lt (by omega), List.getElem?_drop] at hc
  obtain ⟨hp, x, hx, hpl⟩ := hr.2.2 (off + j) c hc
  exact ⟨hp, x, hx, hpl.1⟩
theorem Rel.arrCells (h : Rel w0 ω0 w g st vs) {id : Nat} {cs : List AVal} (e : st.H[id]? = some (.arr cs)) (off n : Nat) (hn : off + n ≤ cs.length) : CellsAt w g st.H.length (g.η id) off ((cs.drop off).take n) := by
  have hr := h.base.heap id _ e
  intro j c hc
  have hj := lt_of_some hc
  simp only [List.length_take, List.length_drop] at hj
  rw [List.getElem?_take_of_lt (by omega), List.getElem?_drop] at hc
  exact hr.2 (off + j) c hc
theorem rptr_cells {c : AVal} {X : Value} {N : Nat} (h : Rep w g.I g.η N (.rptr c) X) : ∃ b a, X = .pointer (some ⟨b, a, none⟩) ∧ CellsAt w g N b a c.cells ∧ plainAgg c = true ∧
    ∀ j, j < c.cells.length → g.ω b (a + j) = .imm := by
  cases h with
  | rptr _ b a vals hp ha hr =>
    refine ⟨b, a, rfl, fun j x hx => ⟨?_, vals j, (ha j (lt_of_some hx)).2, hr j x hx⟩, hp, fun j hj => (ha j hj).1⟩
    cases c with
    | agg cs => simp only [plainAgg, List.all_eq_true] at hp; exact hp x (List.mem_of_getElem? hx)
    | _ =>
      cases j with
      | zero => simp [AVal.cells] at hx; subst hx; exact hp
      | succ j => simp [AVal.cells] at hx

theorem getD_drop {cs : List AVal} {off : Nat} (h : off + 1 ≤ cs.length) : ((cs.drop off).take 1)[0]? = some (cs.getD off .undef) := by
  rw [List.getElem?_take_of_lt (by omega), List.getElem?_drop]
  simp [List.getD, List.getElem?_eq_getElem (show off < cs.length by omega)]

theorem Rep.ev {N : Nat} {a : AVal} {v : Value} (h : Rep w g.I g.η N a v) : EvRep w g N a v := by
  cases a <;> first | exact h | trivial | (cases h)

theorem op_load (hT : TOk P E.T) {t : TypeId} {x : Operand} (h : Rel w0 ω0 w g st vs) (ho : o.op = .load t x) (hk : Den C (doOp E mv o st k) r) (hn : Follows C w0 ω0 o vs k r next) : o.wp P ⟨vs, []⟩ w next Q := by
  simp only [doOp, ho] at hk
  split at hk
  · rename_i i s off hi he
    have hTi := hT t i hi
    have hev := h.ev x ⟨vs, []⟩ rfl
    rw [he] at hev
    have hX : Act.eval ⟨vs, []⟩ x = .pointer (some ⟨g.β s, off, none⟩) := hev
    split at hk
    · rename_i cs hcs
      cases hb : Nat.ble (off + i.size) cs.length <;> rw [hb] at hk
      · exact (noDen hk).elim
      have hle := Nat.le_of_ble_eq_true hb
      have hC := h.boxCells hcs off i.size hle
      cases ha : i.agg <;> rw [ha] at hk
      · -- one cell
        have h1 := hTi.one ha
        rw [h1] at hC hle
        obtain ⟨hp, X, hx, hr⟩ := hC 0 _ (getD_drop hle)
        simp only [Nat.add_zero] at hx
        have hrun : (execOp (Act.eval ⟨vs, []⟩) o).run P w = .ok (.value X) w := by
          simp only [execOp, ho, hX]; exact run_value (by simp only [Instr.loadAt, Instr.sureAddr, Sem.run_bind, Sem.run_pure, Result.andThen_ok, load_one hTi ha hx])
        cases mv with
        | false =>
          simp only [cond_true, cond_false] at hk
          exact wp_of_value hrun (hn _ _ _ _ g (h.put_ev hr.dis.ev (isOwn_dis _)) hk)
        | true =>
          simp only [cond_true, cond_false] at hk
          obtain ⟨e1, v, hv, hrs⟩ := h.boxAt hcs
          have hs := lt_of_some e1
          have hoff : off < cs.length := by omega
          have hco : cs[off]? = some (cs.getD off .undef) := by simp [List.getD, List.getElem?_eq_getElem hoff]
          -- the box, its cell owning nothing
          have hdis : Rel w0 ω0 w g { st with ts := st.ts.set s (.lbox (cs.set off (dis (cs.getD off .undef)))) } vs := by
            refine h.set1 s (fun a v' ha' hv' => ?_)
            rw [hv] at hv'; cases hv'
            refine ⟨hrs.1, fun o ho => hrs.2.1 o (by simpa using ho), fun o c hc => ?_⟩
            simp only [List.getElem?_set] at hc
            by_cases eo : off = o
            · subst eo
              rw [if_pos rfl, if_pos hoff] at hc; cases hc
              obtain ⟨hp, x', hx', hpl⟩ := hrs.2.2 off _ hco
              exact ⟨by rw [plain_dis]; exact hp, x', hx', hpl.1.dis, fun e n f he => absurd he (not_own (isOwn_dis _) e n f)⟩
            · rw [if_neg eo] at hc; exact hrs.2.2 o c hc
          cases hd : o.dst with
          | none =>
            refine wp_of_value hrun ?_
            have := hn (cs.getD off .undef) _ X w g (by rw [hd]; exact hdis) hk
            exact this
          | some d =>
            by_cases hown : isOwn (cs.getD off .undef) = true
            · -- what the cell owned, slot d owns
              obtain ⟨hp', x', hx', hpl⟩ := hrs.2.2 off _ hco
              rw [hx] at hx'; cases hx'
              refine wp_of_value hrun ?_
              have hg' : Rel w0 ω0 w (g.ren (s, off) (d, 0)) (putD { st with ts := st.ts.set s (.lbox (cs.set off (dis (cs.getD off .undef)))) } (some d) (cs.getD off .undef)) (Act.put ⟨vs, []⟩ (some d) X).tmps := by
                refine ⟨h.base.ren _ _, by simp [putD, Act.put, h.len], ?_, h.mine_ren _ _, h.past_ren _ _, h.keeps, h.old⟩
                intro s' A v' h1 h2
                simp only [putD, List.getElem?_set] at h1
                simp only [Act.put] at h2
                rw [getElem?_setIf] at h2
                by_cases ed : d = s'
                · subst ed
                  rw [if_pos rfl] at h1
                  by_cases hlt : d < (st.ts.set s (.lbox (cs.set off (dis (cs.getD off .undef))))).length
                  · rw [if_pos hlt] at h1
                    rw [if_pos ⟨rfl, by rw [← h.len]; simpa using hlt⟩] at h2
                    cases h1; cases h2
                    exact RepSlot.of_pl hpl.moved
                  · rw [if_neg hlt] at h1; cases h1
                · rw [if_neg ed] at h1; rw [if_neg (fun hh => ed hh.1)] at h2
                  by_cases es : s = s'
                  · subst es
                    rw [if_pos rfl, if_pos hs] at h1; cases h1
                    have hslot := hdis.slot s (.lbox (cs.set off (dis (cs.getD off .undef)))) v' (by simp [hs]) h2
                    refine hslot.ren _ _ (fun j c hj => ?_)
                    by_cases ej : j = off
                    · subst ej
                      right
                      refine ⟨rfl, fun cs' c' hcs' hc' => ?_⟩
                      cases hcs'
                      simp only [List.getElem?_set, if_true, if_pos hoff] at hc'
                      cases hc'; exact isOwn_dis _
                    · left; exact ⟨fun hh => ej (by cases hh; rfl), fun hh => ed (by cases hh; rfl)⟩
                  · rw [if_neg es] at h1
                    exact (h.slot s' A v' h1 h2).ren _ _ (fun j c hj => .inl ⟨fun hh => es (by cases hh; rfl), fun hh => ed (by cases hh; rfl)⟩)
              have := hn (cs.getD off .undef) _ X w _ (by rw [hd]; exact hg') hk
              exact this
            · refine wp_of_value hrun ?_
              have := hn (cs.getD off .undef) _ X w g (by rw [hd]; exact hdis.put_ev hr.ev (by simpa using hown)) hk
              exact this
      · simp only [cond_true] at hk
        obtain ⟨X, hX2, hr⟩ := load_agg hTi ha hC (by simp; omega)
        exact wp_of_value (by simp only [execOp, ho, hX]; exact run_value (by simp only [Instr.loadAt, Instr.sureAddr, Sem.run_bind, Sem.run_pure, Result.andThen_ok, hX2])) (hn _ _ _ _ g (h.put_ev hr.ev rfl) hk)
    · exact (noDen hk).elim
  · rename_i i c hi he
    have hTi := hT t i hi
    have hr := ev_ne h he (by simp) (by simp)
    obtain ⟨b, a, hX, hC, hp, -⟩ := rptr_cells hr
    cases ha : i.agg <;> rw [ha] at hk
    · simp only [cond_false] at hk
      split at hk
      · exact (noDen hk).elim
      · rename_i hne
        have hcc : c.cells = [c] := by cases c <;> first | rfl | (exact absurd rfl (hne _))
        obtain ⟨_, X, hx, hrx⟩ := hC 0 c (by rw [hcc]; rfl)
        simp only [Nat.add_zero] at hx
        exact wp_of_value (by simp only [execOp, ho, hX]; exact run_value (by simp only [Instr.loadAt, Instr.sureAddr, Sem.run_bind, Sem.run_pure, Result.andThen_ok, load_one hTi ha hx])) (hn _ _ _ _ g (h.put_ev hrx.dis.ev (isOwn_dis _)) hk)
    · simp only [cond_true] at hk
      split at hk
      · rename_i cs
        cases hb : Nat.beq cs.length i.size <;> rw [hb] at hk
        · exact (noDen hk).elim
        obtain ⟨X, hX2, hr2⟩ := load_agg hTi ha hC (Nat.eq_of_beq_eq_true hb)
        exact wp_of_value (by simp only [execOp, ho, hX]; exact run_value (by simp only [Instr.loadAt, Instr.sureAddr, Sem.run_bind, Sem.run_pure, Result.andThen_ok, hX2])) (hn _ _ _ _ g (h.put_ev hr2.ev rfl) hk)
      · exact (noDen hk).elim
  · rename_i i id off hi he
    have hTi := hT t i hi
    have hr := ev_ne h he (by simp) (by simp)
    generalize hX : Act.eval ⟨vs, []⟩ x = q at hr
    cases hr with
    | href _ _ hid =>
      split at hk
      · rename_i cs hcs
        obtain ⟨hb, hk⟩ := hk.chk
        have hle := Nat.le_of_ble_eq_true hb
        have hC := h.arrCells hcs off i.size hle
        cases ha : i.agg <;> rw [ha] at hk
        · have h1 := hTi.one ha
          rw [h1] at hC hle
          obtain ⟨hp, X, hx, hrx⟩ := hC 0 _ (getD_drop hle)
          simp only [Nat.add_zero] at hx
          exact wp_of_value (by simp only [execOp, ho, hX]; exact run_value (by simp only [Instr.loadAt, Instr.sureAddr, Sem.run_bind, Sem.run_pure, Result.andThen_ok, load_one hTi ha hx])) (hn _ _ _ _ g (h.put_ev hrx.dis.ev (isOwn_dis _)) hk)
        · obtain ⟨X, hX2, hr2⟩ := load_agg hTi ha hC (by simp; omega)
          exact wp_of_value (by simp only [execOp, ho, hX]; exact run_value (by simp only [Instr.loadAt, Instr.sureAddr, Sem.run_bind, Sem.run_pure, Result.andThen_ok, hX2])) (hn _ _ _ _ g (h.put_ev hr2.ev rfl) hk)
      · exact (noDen hk).elim
  · exact (noDen hk).elim

end
end Go.AM
