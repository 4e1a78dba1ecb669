/- The operations: stores, addresses, fields, elements, struct literals. -/
import Derived.Test.YtkkinfbipndfdaaAmH
set_option linter.unusedVariables false
set_option linter.unusedSimpArgs false
namespace Go.AM
open Go.RowKit

section
variable {R : Type} {P : Program} {E : Env} {w0 : World} {ω0 : Entry} {w : World} {g : Gh} {st : St} {vs : Array Value}
  {C : FuncId → List AVal → List HObj → AVal → List HObj → Prop} {o : Oper} {k : AVal → St → Tree R} {r : R} {next : Act → World → Prop} {Q : Exit → Act → World → Prop} {mv : Bool}

theorem ownCells_len (a : AVal) : (ownCells a).length = a.cells.length := by cases a <;> simp [ownCells, AVal.cells]

theorem ev_tmp_own {x : Operand} (h : isOwn (ev st.ts x) = true) : ∃ t e n f, x = .tmp t ∧ st.ts[t]? = some (.slice .own e n f) ∧ ev st.ts x = .slice .own e n f := by
  cases x with
  | const v => simp only [ev, ofConst] at h; split at h <;> simp [isOwn] at h
  | func f => simp [ev, isOwn] at h
  | global n => simp [ev, isOwn] at h
  | tmp t =>
    simp only [ev] at h ⊢
    cases hh : st.ts.getD t .undef <;> rw [hh] at h <;> simp [slotVal, isOwn] at h
    rename_i sp e n f
    cases sp <;> simp [isOwn] at h
    refine ⟨t, e, n, f, rfl, ?_, rfl⟩
    rcases hq : st.ts[t]? with _ | q
    · simp [List.getD, hq] at hh
    · simp [List.getD, hq] at hh; rw [hh]

theorem putNone : (Act.put ⟨vs, []⟩ none undef) = ⟨vs, []⟩ := rfl

/-- The state of a store into a box: what the operand owned, the cell owns. -/
theorem storeFrom [VR : Vars] (h : Rel w0 ω0 w g st vs) {s off : Nat} {cs : List AVal} (x : Operand) (hcs : (disown st.ts x).getD s .undef = .lbox cs) (hp : plainAgg (ev st.ts x) = true) (hle : off + (ev st.ts x).cells.length ≤ cs.length) {X : Value} (hX : X = Act.eval ⟨vs, []⟩ x) :
    ∃ g', g'.β = g.β ∧ Rel w0 ω0 (w.setCells (g.β s) off X.cells.toList) g' { st with ts := (disown st.ts x).set s (.lbox (over cs off (ownCells (ev st.ts x)))) } vs := by
  have hne : ev st.ts x ≠ .undef ∧ ∀ s o, ev st.ts x ≠ .lptr s o := ⟨fun e => by rw [e] at hp; simp [plainAgg, plain] at hp, fun s o e => by rw [e] at hp; simp [plainAgg, plain] at hp⟩
  have hr : Rep w g.I g.η st.H.length (ev st.ts x) X := by rw [hX]; exact ev_ne h rfl hne.1 hne.2 (fun s n e => by rw [e] at hp; simp [plainAgg, plain] at hp)
  obtain ⟨h1, h2, h3⟩ := rep_cells hr hp
  have hd := h.disown x
  by_cases hown : isOwn (ev st.ts x) = true
  · obtain ⟨t, e, n, f, rfl, ht, hev⟩ := ev_tmp_own hown
    have hcells : (ev st.ts (.tmp t)).cells = [ev st.ts (.tmp t)] := by rw [hev]; rfl
    rw [hcells] at hle
    simp only [List.length_cons, List.length_nil] at hle
    have hts : t ≠ s := fun e' => by
      subst e'
      simp only [disown, List.getD, List.getElem?_set, if_true, if_pos (lt_of_some ht)] at hcs
      simp [List.getD, ht, dis] at hcs
    have htv : t < vs.size := by rw [← h.len]; exact lt_of_some ht
    have hv : vs[t]? = some (vs.getD t undef) := by simp [Array.getD, htv]
    have hpl : RepPl w g st.H.length t 0 (.slice .own e n f) (vs.getD t undef) := h.slot t _ _ ht hv
    have hXe : X = vs.getD t undef := hX
    obtain ⟨e1, v, hvs, hrs⟩ := hd.boxAt (s := s) (cs := cs) hcs
    have hoff : off < cs.length := by omega
    -- first: the cell's old content owns nothing
    have hdis : Rel w0 ω0 w g { st with ts := (disown st.ts (.tmp t)).set s (.lbox (cs.set off (dis (cs.getD off .undef)))) } vs := by
      refine hd.set1 s (fun a v' ha' hv' => ?_)
      rw [hvs] at hv'; cases hv'
      refine ⟨hrs.1, fun o ho => hrs.2.1 o (by simpa using ho), fun o c hc => ?_⟩
      simp only [List.getElem?_set] at hc
      by_cases eo : off = o
      · subst eo
        rw [if_pos rfl, if_pos hoff] at hc; cases hc
        obtain ⟨hp, x', hx', hpl⟩ := hrs.2.2 off (cs.getD off .undef) (by simp [List.getD, List.getElem?_eq_getElem hoff])
        exact ⟨by rw [plain_dis]; exact hp, x', hx', hpl.1.dis, fun e n f he => absurd he (not_own (isOwn_dis _) e n f)⟩
      · rw [if_neg eo] at hc; exact hrs.2.2 o c hc
    -- then: the spare room changes hands
    have hren : Rel w0 ω0 w (g.ren (t, 0) (s, off)) { st with ts := (disown st.ts (.tmp t)).set s (.lbox (cs.set off (dis (cs.getD off .undef)))) } vs := by
      refine ⟨h.base.ren _ _, hdis.len, fun s' A v' h4 h5 => ?_, h.mine_ren _ _, h.past_ren _ _, h.keeps, h.old⟩
      have hslot := hdis.slot s' A v' h4 h5
      refine hslot.ren _ _ (fun j c hj => ?_)
      by_cases et : t = s'
      · subst et
        right
        have hA : A = .slice .shared e n f := by
          simp only [List.getElem?_set, if_neg (Ne.symm hts), disown, if_true, List.length_set] at h4
          rw [if_pos (lt_of_some ht)] at h4
          simp [List.getD, ht, dis] at h4; exact h4.symm
        subst hA
        exact ⟨rfl, fun cs c' hc => by cases hc⟩
      · by_cases es : s = s'
        · subst es
          by_cases ej : j = off
          · subst ej
            right
            have hA : A = .lbox (cs.set j (dis (cs.getD j .undef))) := by
              simp only [List.getElem?_set, if_true] at h4
              split at h4
              · exact (Option.some.inj h4).symm
              · cases h4
            subst hA
            refine ⟨rfl, fun cs' c' hcs' hc' => ?_⟩
            cases hcs'
            simp only [List.getElem?_set, if_true, if_pos hoff] at hc'
            cases hc'; exact isOwn_dis _
          · left; exact ⟨fun hh => et (by cases hh; rfl), fun hh => ej (by cases hh; rfl)⟩
        · left; exact ⟨fun hh => et (by cases hh; rfl), fun hh => es (by cases hh; rfl)⟩
    refine ⟨g.ren (t, 0) (s, off), rfl, ?_⟩
    have hset := hren.storeBox (s := s) (off := off) (cs := cs.set off (dis (cs.getD off .undef))) (by simp [List.getD, lt_of_some e1]) (ps := [.slice .own e n f]) (xs := X.cells.toList)
      (by rw [hXe]; have := hpl.1; generalize vs.getD t undef = q at this; cases this; rfl) (by simpa using hle) (fun j c x hc hx => by
        cases j with
        | succ j => simp at hc
        | zero =>
          simp at hc; subst hc
          have : x = X := by
            rw [hXe] at hx ⊢; have h6 := hpl.1; generalize vs.getD t undef = q at h6 hx ⊢; cases h6; simp [Value.cells] at hx; exact hx.symm
          subst this
          rw [hXe]
          exact ⟨rfl, hpl.moved⟩)
    have he1 : ownCells (ev st.ts (.tmp t)) = [.slice .own e n f] := by rw [hev]; rfl
    have he2 : over (cs.set off (dis (cs.getD off .undef))) off [.slice .own e n f] = over cs off [.slice .own e n f] := by
      apply List.ext_getElem?; intro j
      rw [over_get _ _ _ (by simpa using hle), over_get _ _ _ (by simpa using hle)]
      split
      · rfl
      · rename_i hj
        simp only [List.getElem?_set]
        rw [if_neg (by simp at hj; omega)]
    have he3 : ((disown st.ts (.tmp t)).set s (.lbox (cs.set off (dis (cs.getD off .undef))))).set s (.lbox (over cs off [.slice .own e n f])) = (disown st.ts (.tmp t)).set s (.lbox (over cs off [.slice .own e n f])) := by simp
    rw [he1]
    simp only [he2, he3] at hset
    exact hset
  · have hown : isOwn (ev st.ts x) = false := by simpa using hown
    refine ⟨g, rfl, ?_⟩
    refine hd.storeBox (s := s) (off := off) (cs := cs) hcs (by simpa [ownCells_len] using h1) (by rw [ownCells_len]; exact hle) (fun j c x' hc hx => ?_)
    have hx' : X.cells[j]? = some x' := by simpa using hx
    cases hA : ev st.ts x with
    | agg l =>
      rw [hA] at hc
      simp only [ownCells, List.getElem?_map, Option.map_eq_some_iff] at hc
      obtain ⟨c0, hc0, rfl⟩ := hc
      obtain ⟨h4, h5⟩ := h2 j c0 x' (by rw [hA]; exact hc0) hx'
      exact ⟨by rw [plain_dis]; exact h4, h5.dis, fun e n f he => absurd he (not_own (isOwn_dis _) e n f)⟩
    | _ =>
      rw [hA] at hc h2 hown
      obtain ⟨h4, h5⟩ := h2 j c x' hc hx'
      have hcA : isOwn c = false := by
        cases j with
        | zero => simp [ownCells] at hc; rw [← hc]; exact hown
        | succ j => simp [ownCells] at hc
      exact ⟨h4, h5, fun e n f he => absurd he (not_own hcA e n f)⟩

/-- Ahead of a store into a cell of the abstract heap: what slot t owned, the cell owns. -/
theorem storeOwn [VR : Vars] (h : Rel w0 ω0 w g st vs) {id off t e n : Nat} {f : Nat → AVal} {cs : List AVal} (hcs : st.H[id]? = some (.arr cs)) (hoff : off < cs.length) (ht : st.ts[t]? = some (.slice .own e n f)) :
    Rel w0 ω0 w (g.swp (.tail t 0) (.ht id off)) { st with ts := disown st.ts (.tmp t), H := st.H.set id (.arr (cs.set off (dis (cs.getD off .undef)))) } vs ∧
    Rep w (g.swp (.tail t 0) (.ht id off)).I g.η st.H.length (.slice .own e n f) (vs.getD t undef) ∧ OwnHeap (g.swp (.tail t 0) (.ht id off)).ω id off (.slice .own e n f) (vs.getD t undef) := by
  have hid := lt_of_some hcs
  have htl := lt_of_some ht
  have hobj := h.base.heap id _ hcs
  have htv : t < vs.size := by rw [← h.len]; exact htl
  have hv : vs[t]? = some (vs.getD t undef) := by simp [Array.getD, htv]
  have hpl : RepPl w g st.H.length t 0 (.slice .own e n f) (vs.getD t undef) := h.slot t _ _ ht hv
  have hS := Gh.swp_same w g (.tail t 0) (.ht id off) st.H.length
  have hlk : Locks (st.H.set id (.arr (cs.set off (dis (cs.getD off .undef))))) := h.base.lock.set (fun i e => by rw [hcs] at e; cases e) (fun m es t c e => by cases e)
  refine ⟨?_, hS.rep (by simp) (Nat.le_refl _) hpl.1, fun e' n' f' he => ?_⟩
  · refine h.swap id off (.inr ⟨t, 0, rfl⟩) (.inl rfl) hid (by simp) (fun j hj => List.getElem?_set_ne (Ne.symm hj)) (fun ob hob => ?_) (by simpa using (h.disown (.tmp t)).len) (fun s a v h1 h2 => ?_) hlk
    · rw [List.getElem?_set, if_pos rfl, if_pos hid] at hob; cases hob
      simp only [List.length_set]
      refine ⟨fun o' ho' => by
        have e1 := hobj.1 o' (by simpa using ho')
        show AM.swp _ _ (g.ω (g.η id) o') = _
        rw [e1]; exact swp_not rfl rfl rfl, fun o' c hc => ?_⟩
      simp only [List.getElem?_set] at hc
      by_cases eo : off = o'
      · subst eo
        rw [if_pos rfl, if_pos hoff] at hc; cases hc
        obtain ⟨hp, x, hx, hr, _⟩ := hobj.2 off (cs.getD off .undef) (by simp [List.getD, List.getElem?_eq_getElem hoff])
        exact ⟨by rw [plain_dis]; exact hp, x, hx, hS.rep (by simp) (Nat.le_refl _) hr.dis, OwnHeap.not (not_own (isOwn_dis _))⟩
      · rw [if_neg eo] at hc
        obtain ⟨h3, x, h4, h5, h6⟩ := hobj.2 o' c hc
        refine ⟨h3, x, h4, hS.rep (by simp) (Nat.le_refl _) h5, fun e n f he => ?_⟩
        obtain ⟨ad, cap, h7, h8⟩ := h6 e n f he
        refine ⟨ad, cap, h7, fun j h9 h10 => ?_⟩
        obtain ⟨b, o2, h11, h12⟩ := h8 j h9 h10
        exact ⟨b, o2, h11, (swp_out (by rw [h12]; simp) (by rw [h12]; simp; exact fun e => eo e.symm)).trans h12⟩
    · simp only [List.length_set]
      have hs := (h.disown (.tmp t)).slot s a v h1 h2
      simp only at hs
      by_cases et : t = s
      · subst et
        have ha : a = .slice .shared e n f := by
          simp only [disown, List.getElem?_set, if_true, if_pos htl] at h1
          simp [List.getD, ht, dis] at h1; exact h1.symm
        subst ha
        exact RepSlot.of_pl (hS.pl (by simp) (Nat.le_refl _) (.inr (fun e n f he => by cases he)) hs)
      · exact hS.slot (by simp) (Nat.le_refl _) (by simp) (fun i => by simp; exact fun e => absurd e.symm et) (fun _ => rfl) (fun _ _ => rfl) hs
  · obtain ⟨ad, cap, h7, h8⟩ := hpl.2 e' n' f' he
    refine ⟨ad, cap, h7, fun j h9 h10 => ?_⟩
    obtain ⟨b, o2, h11, h12⟩ := h8 j h9 h10
    exact ⟨b, o2, h11, by show AM.swp _ _ (g.ω _ _) = _; rw [h12]; simp [AM.swp]⟩

theorem op_store [VR : Vars] (hT : TOk P E.T) {t : TypeId} {a x : Operand} (h : Rel w0 ω0 w g st vs) (ho : o.op = .store t a x) (hk : Den C (doOp E mv o st k) r) (hn : Follows C w0 ω0 o vs k r next) : o.wp P ⟨vs, []⟩ w next Q := by
  simp only [doOp, ho] at hk
  split at hk
  · exact (noDen hk).elim
  rename_i hd
  split at hk
  · rename_i i hi
    have hTi := hT t i hi
    cases hb : (plainAgg (ev st.ts x) && Nat.beq (ev st.ts x).cells.length i.size) <;> rw [hb] at hk
    · exact (noDen hk).elim
    simp only [Bool.and_eq_true] at hb
    obtain ⟨hp, hlen⟩ := hb
    have hlen := Nat.eq_of_beq_eq_true hlen
    have hne : ev st.ts x ≠ .undef ∧ ∀ s o, ev st.ts x ≠ .lptr s o := ⟨fun e => by rw [e] at hp; simp [plainAgg, plain] at hp, fun s o e => by rw [e] at hp; simp [plainAgg, plain] at hp⟩
    have hr := ev_ne h rfl hne.1 hne.2 (fun s n e => by rw [e] at hp; simp [plainAgg, plain] at hp)
    simp only [cond_true] at hk
    split at hk
    · rename_i s off he
      have hev := h.ev a ⟨vs, []⟩ rfl
      rw [he] at hev
      have hA : Act.eval ⟨vs, []⟩ a = .pointer (some ⟨g.β s, off, none⟩) := hev
      split at hk
      · rename_i cs hcs
        cases hb : Nat.ble (off + i.size) cs.length <;> rw [hb] at hk
        · exact (noDen hk).elim
        have hle := Nat.le_of_ble_eq_true hb
        obtain ⟨g', hβ, hR⟩ := storeFrom h (s := s) (off := off) x hcs hp (by rw [hlen]; exact hle) rfl
        have hd' := h.disown x
        obtain ⟨e1, v, hv, hrs⟩ := hd'.boxAt (s := s) (cs := cs) hcs
        have hrun : (execOp (Act.eval ⟨vs, []⟩) o).run P w = .ok .skip (w.setCells (g.β s) off (Act.eval ⟨vs, []⟩ x).cells.toList) := by
          simp only [execOp, ho, hA]
          simp only [Sem.run_bind, Instr.storeAt, Instr.sureAddr, Sem.run_pure, Result.andThen_ok]
          rw [store_run hTi hr hp hlen (fun j hj => by
            obtain ⟨_, x', hx', _⟩ := hrs.2.2 (off + j) cs[off + j] (List.getElem?_eq_getElem (by omega))
            rw [hx']; rfl) (fun j hj => h.base.soft _ _ (by rw [hrs.2.1 (off + j) (by omega)]; simp) (by rw [hrs.2.1 (off + j) (by omega)]; simp) (fun id e => by rw [hrs.2.1 (off + j) (by omega)] at e; cases e))]
          rfl
        exact wp_of_skip hrun (hn .undef _ undef _ g' (by rw [hd]; exact hR) hk)
      · split at hk
        · rename_i e' n' cs hcs
          obtain ⟨hb, hk⟩ := hk.chk
          have hle := Nat.le_of_ble_eq_true hb
          obtain ⟨h1, h2, h3⟩ := rep_cells hr hp
          have hX2 : (Act.eval ⟨vs, []⟩ x).cells.toList.length = ((ev st.ts x).cells.map dis).length := by rw [List.length_map]; simpa using h1
          have hR := h.vecStore (off := off) hcs (ps := (ev st.ts x).cells.map dis) (xs := (Act.eval ⟨vs, []⟩ x).cells.toList) hX2 (by rw [List.length_map, hlen]; exact hle) (by rw [List.length_map, hlen]; exact hTi.pos) (fun j c y hc hy => by
            rw [List.getElem?_map, Option.map_eq_some_iff] at hc
            obtain ⟨c0, hc0, rfl⟩ := hc
            obtain ⟨hp0, hr0⟩ := h2 j c0 y hc0 (by simpa [Array.getElem?_toList] using hy)
            exact ⟨by rw [plain_dis]; exact hp0, by rw [isOwn0_eq]; exact isOwn_dis c0, hr0.dis⟩)
          have hC := h.vecCells hcs off i.size hle
          obtain ⟨_, ⟨_, hlen2, hrs⟩, _⟩ := h.vecOf hcs
          have hrun : (execOp (Act.eval ⟨vs, []⟩) o).run P w = .ok .skip (w.setCells (g.β s) off (Act.eval ⟨vs, []⟩ x).cells.toList) := by
            simp only [execOp, ho, hA]
            simp only [Sem.run_bind, Instr.storeAt, Instr.sureAddr, Sem.run_pure, Result.andThen_ok]
            have hpos := hTi.pos
            rcases hrs with ⟨_, e2⟩ | ⟨cap, e1, e2, e3, e4⟩
            · rw [e2] at hlen2; omega
            · have hnc : n' * e' ≤ cap * e' := Nat.mul_le_mul_right _ e2
              rw [store_run hTi hr hp hlen (fun j hj => (e3 _ (by omega)).2) (fun j hj => h.base.soft _ _ (by rw [(e3 (off + j) (by omega)).1]; simp) (by rw [(e3 (off + j) (by omega)).1]; simp) (fun id e => by rw [(e3 (off + j) (by omega)).1] at e; cases e))]
              rfl
          exact wp_of_skip hrun (hn .undef _ undef _ g (by rw [hd]; exact hR) hk)
        · exact (noDen hk).elim
    · rename_i id off he
      have hra := ev_ne h he (by simp) (by simp)
      generalize hA : Act.eval ⟨vs, []⟩ a = q at hra
      cases hra with
      | href _ _ hid =>
        split at hk
        · rename_i cs hcs
          obtain ⟨hb, hk⟩ := hk.chk
          have hle := Nat.le_of_ble_eq_true hb
          have hobj := h.base.heap id _ hcs
          obtain ⟨h1, h2, h3⟩ := rep_cells hr hp
          have hR : ∃ g', Rel w0 ω0 (w.setCells (g.η id) off (Act.eval ⟨vs, []⟩ x).cells.toList) g' { st with ts := disown st.ts x, H := st.H.set id (.arr (over cs off ((ownCells (ev st.ts x)).map normV))) } vs := by
            by_cases hown : isOwn (ev st.ts x) = true
            · obtain ⟨t, e', n', f', rfl, ht, hev⟩ := ev_tmp_own hown
              have hc1 : (ev st.ts (.tmp t)).cells = [ev st.ts (.tmp t)] := by rw [hev]; rfl
              have hsz : i.size = 1 := by rw [← hlen, hc1]; rfl
              have hoff : off < cs.length := by omega
              obtain ⟨hR1, hR2, hR3⟩ := storeOwn h hcs hoff ht
              have hX : Act.eval ⟨vs, []⟩ (.tmp t) = vs.getD t undef := rfl
              have hXc : (vs.getD t undef).cells.toList = [vs.getD t undef] := by
                have := hR2; generalize vs.getD t undef = q at this ⊢; cases this; rfl
              have hid := lt_of_some hcs
              have := hR1.storeArr (id := id) (off := off) (cs := cs.set off (dis (cs.getD off .undef))) (by simp [hid]) (ps := [.slice .own e' n' f']) (xs := [vs.getD t undef]) rfl (by simp only [List.length_set, List.length_cons, List.length_nil]; omega) (fun j c x' hc hx => by
                cases j with
                | succ j => simp at hc
                | zero =>
                  simp only [List.getElem?_cons_zero, Option.some.injEq] at hc hx; subst hc; subst hx
                  simp only [List.length_set]
                  exact ⟨rfl, hR2, hR3⟩)
              refine ⟨g.swp (.tail t 0) (.ht id off), ?_⟩
              rw [hX, hXc]
              have he1 : ownCells (ev st.ts (.tmp t)) = [.slice .own e' n' f'] := by rw [hev]; rfl
              have he2 : over (cs.set off (dis (cs.getD off .undef))) off [.slice .own e' n' f'] = over cs off [.slice .own e' n' f'] := by
                apply List.ext_getElem?; intro j
                rw [over_get _ _ _ (by simp; omega), over_get _ _ _ (by simp; omega)]
                split
                · rfl
                · rename_i hj
                  simp only [List.getElem?_set]
                  rw [if_neg (by simp at hj; omega)]
              have he3 : [AVal.slice .own e' n' f'].map normV = [.slice .own e' n' f'] := rfl
              rw [he1, he3]
              simp only [he2, List.set_set] at this
              exact this
            · have hown : isOwn (ev st.ts x) = false := by simpa using hown
              refine ⟨g, (h.disown x).storeArr (id := id) (off := off) (cs := cs) hcs (by simpa [ownCells_len] using h1) (by rw [List.length_map, ownCells_len, hlen]; exact hle) (fun j c x' hc hx => ?_)⟩
              simp only [List.getElem?_map (f := normV), Option.map_eq_some_iff] at hc
              obtain ⟨c1, hc, rfl⟩ := hc
              have hx' : (Act.eval ⟨vs, []⟩ x).cells[j]? = some x' := by simpa using hx
              cases hA : ev st.ts x with
              | agg l =>
                rw [hA] at hc
                simp only [ownCells, List.getElem?_map, Option.map_eq_some_iff] at hc
                obtain ⟨c0, hc0, rfl⟩ := hc
                obtain ⟨h4, h5⟩ := h2 j c0 x' (by rw [hA]; exact hc0) hx'
                exact ⟨by rw [plain_normV, plain_dis]; exact h4, (normV_rep h5.dis).1, ((normV_rep h5.dis).2.1 (isOwn_dis _)).heap⟩
              | _ =>
                rw [hA] at hc h2 hown
                obtain ⟨h4, h5⟩ := h2 j c1 x' hc hx'
                have hcA : isOwn c1 = false := by
                  cases j with
                  | zero => simp [ownCells] at hc; rw [← hc]; exact hown
                  | succ j => simp [ownCells] at hc
                exact ⟨by rw [plain_normV]; exact h4, (normV_rep h5).1, ((normV_rep h5).2.1 hcA).heap⟩
          obtain ⟨g', hR⟩ := hR
          have hrun : (execOp (Act.eval ⟨vs, []⟩) o).run P w = .ok .skip (w.setCells (g.η id) off (Act.eval ⟨vs, []⟩ x).cells.toList) := by
            simp only [execOp, ho, hA]
            simp only [Sem.run_bind, Instr.storeAt, Instr.sureAddr, Sem.run_pure, Result.andThen_ok]
            rw [store_run hTi hr hp hlen (fun j hj => by
              obtain ⟨_, x', hx', _⟩ := hobj.2 (off + j) cs[off + j] (List.getElem?_eq_getElem (by omega))
              rw [hx']; rfl) (fun j hj => h.base.soft _ _ (by rw [hobj.1 (off + j) (by omega)]; simp) (by rw [hobj.1 (off + j) (by omega)]; simp) (fun id e => by rw [hobj.1 (off + j) (by omega)] at e; cases e; rfl))]
            rfl
          exact wp_of_skip hrun (hn .undef _ undef _ g' (by rw [hd]; exact hR) hk)
        · exact (noDen hk).elim
    · exact (noDen hk).elim
  · exact (noDen hk).elim

theorem mkElem_cells {ag : Bool} {sz off : Nat} {cs : List AVal} (h1 : ag = false → sz = 1) (hle : off + sz ≤ cs.length) (hp : ∀ c ∈ cs, plain c = true) :
    (mkElem ag sz cs off).cells = (cs.drop off).take sz ∧ plainAgg (mkElem ag sz cs off) = true := by
  cases ag with
  | true =>
    simp only [mkElem, cond_true, AVal.cells, plainAgg, List.all_eq_true, true_and]
    exact fun c hc => hp c (List.mem_of_mem_drop (List.mem_of_mem_take hc))
  | false =>
    have := h1 rfl
    subst this
    have hoff : off < cs.length := by omega
    have e : cs.getD off .undef = cs[off] := by simp [List.getD, List.getElem?_eq_getElem hoff]
    simp only [mkElem, cond_false, e]
    have hpl := hp _ (List.getElem_mem hoff)
    refine ⟨?_, ?_⟩
    · have : (cs[off]).cells = [cs[off]] := by
        generalize cs[off] = c at hpl
        cases c <;> first | rfl | (simp [plain] at hpl)
      rw [this, List.drop_eq_getElem_cons hoff]; rfl
    · generalize cs[off] = c at hpl
      cases c <;> first | exact hpl | (simp [plain] at hpl)

/-- A part of what a read-only pointer shows. -/
theorem rptr_part {cs : List AVal} {b a N : Nat} {ag : Bool} {sz off : Nat} (h1 : ag = false → sz = 1) (hle : off + sz ≤ cs.length) (hC : CellsAt w g N b a cs) (hi : ∀ j, j < cs.length → g.ω b (a + j) = .imm) :
    Rep w g.I g.η N (.rptr (mkElem ag sz cs off)) (.pointer (some ⟨b, a + off, none⟩)) := by
  have hp : ∀ c ∈ cs, plain c = true := fun c hc => by
    obtain ⟨j, hj, e⟩ := List.getElem_of_mem hc
    exact (hC j c (by rw [List.getElem?_eq_getElem hj, e])).1
  obtain ⟨h2, h3⟩ := mkElem_cells h1 hle hp
  refine .rptr _ b (a + off) (fun j => (w.cell? ⟨b, a + off + j, none⟩).getD undef) h3 (fun j hj => ?_) (fun j x hx => ?_)
  · rw [h2] at hj; simp at hj
    refine ⟨?_, ?_⟩
    · have := hi (off + j) (by omega)
      rw [show a + off + j = a + (off + j) by omega]; exact this
    · obtain ⟨_, x, hx, _⟩ := hC (off + j) cs[off + j] (List.getElem?_eq_getElem (by omega))
      rw [show a + off + j = a + (off + j) by omega, hx]; rfl
  · rw [h2] at hx
    have hj := lt_of_some hx
    simp only [List.length_take, List.length_drop] at hj
    rw [List.getElem?_take_of_lt (by omega), List.getElem?_drop] at hx
    obtain ⟨_, y, hy, hr⟩ := hC (off + j) x hx
    rw [show a + off + j = a + (off + j) by omega, hy]; exact hr

theorem op_fieldAddr [VR : Vars] (hT : TOk P E.T) {t : TypeId} {x : Operand} {f : Nat} (h : Rel w0 ω0 w g st vs) (ho : o.op = .fieldAddr t x f) (hk : Den C (doOp E mv o st k) r) (hn : Follows C w0 ω0 o vs k r next) : o.wp P ⟨vs, []⟩ w next Q := by
  simp only [doOp, ho] at hk
  split at hk
  · rename_i hti
    obtain ⟨fields, hu, hsz, hf, _⟩ := (hT t _ hti).kind
    split at hk
    · rename_i fi hfi
      have hlt : f < fields.size := by rw [hsz]; exact lt_of_some hfi
      have hF := hf f fields[f] fi (Array.getElem?_eq_getElem hlt) hfi
      obtain ⟨inf, hinf, hins⟩ := hF.info
      have hrun : ∀ b a, Act.eval ⟨vs, []⟩ x = .pointer (some ⟨b, a, none⟩) → (execOp (Act.eval ⟨vs, []⟩) o).run P w = .ok (.value (.pointer (some ⟨b, a + fi.off, none⟩))) w := fun b a hX => by
        simp only [execOp, ho, hX]
        refine run_value ?_
        simp only [Instr.fieldAt, Sem.run_bind, run_underlying hu, Result.andThen_ok, Array.getElem?_eq_getElem hlt, Instr.sureAddr, Sem.run_pure, fieldPlace, run_sizeOf hinf]
        rw [if_neg (by rw [hins]; have := hF.pos; omega)]
        simp [addr_add, hF.off]
      split at hk
      · rename_i s off he
        have hev := h.ev x ⟨vs, []⟩ rfl
        rw [he] at hev
        exact wp_of_value (hrun _ _ hev) (hn _ _ _ _ g (h.put_ev (v := .lptr s (off + fi.off)) rfl rfl) hk)
      · rename_i id off he
        have hr := ev_ne h he (by simp) (by simp)
        generalize hX : Act.eval ⟨vs, []⟩ x = q at hr
        cases hr with
        | href _ _ hid => exact wp_of_value (hrun _ _ hX) (hn _ _ _ _ g (h.put_ev (v := .href id (off + fi.off)) (Rep.href _ _ hid) rfl) hk)
      · rename_i cs he
        cases hb : Nat.ble (fi.off + fi.size) cs.length <;> rw [hb] at hk
        · exact (noDen hk).elim
        have hle := Nat.le_of_ble_eq_true hb
        have hr := ev_ne h he (by simp) (by simp)
        obtain ⟨b, a, hX, hC, hp, hi⟩ := rptr_cells hr
        exact wp_of_value (hrun _ _ hX) (hn _ _ _ _ g (h.put_ev (v := .rptr _) (rptr_part hF.one hle hC hi) rfl) hk)
      · exact (noDen hk).elim
    · exact (noDen hk).elim
  · exact (noDen hk).elim

/-- A part of a struct's or an array's value. -/
theorem part_run {t : TypeId} {inf : TypeInfo} {ag : Bool} {sz off : Nat} {cs : List AVal} {xs : Array Value} {N : Nat} (hinf : P.info? t = some inf) (hs : inf.size = sz) (hu : ∃ u, P.underlying t = some u)
    (hag : ag = true ↔ (∃ fs, P.underlying t = some (.struct fs)) ∨ ∃ n e, P.underlying t = some (.array n e)) (h1 : ag = false → sz = 1) (hle : off + sz ≤ cs.length) (hr : Rep w g.I g.η N (.agg cs) (.agg xs)) :
    ∃ X, (part t xs off).run P w = .ok X w ∧ Rep w g.I g.η N (mkElem ag sz cs off) X := by
  cases hr with
  | agg _ _ hl hrr hp =>
    obtain ⟨u, hu⟩ := hu
    have hisagg : (isAgg t).run P w = .ok ag w := by
      simp only [isAgg, Sem.run_bind, run_underlying hu, Result.andThen_ok]
      rw [hu] at hag
      cases u <;> simp only [Sem.run_pure] <;> cases ag <;> simp_all
    cases ag with
    | true =>
      refine ⟨.agg (xs.extract off (off + sz)), ?_, .agg _ _ ?_ ?_ ?_⟩
      · simp only [part, Sem.run_bind, hisagg, Result.andThen_ok, if_true, run_sizeOf hinf, Sem.run_pure, hs]
      · simp; omega
      · intro j c v hc hv
        have hj := lt_of_some hc
        simp only [List.length_take, List.length_drop] at hj
        rw [List.getElem?_take_of_lt (by omega), List.getElem?_drop] at hc
        rw [Array.getElem?_extract] at hv
        split at hv
        · exact hrr _ _ _ hc hv
        · cases hv
      · exact fun c hc => hp c (List.mem_of_mem_drop (List.mem_of_mem_take hc))
    | false =>
      have := h1 rfl
      subst this
      have hoff : off < cs.length := by omega
      have hx : xs[off]? = some xs[off] := Array.getElem?_eq_getElem (by rw [← hl]; exact hoff)
      refine ⟨xs[off], ?_, ?_⟩
      · simp only [part, Sem.run_bind, hisagg, Result.andThen_ok, hx]; rfl
      · simp only [mkElem, cond_false, List.getD, List.getElem?_eq_getElem hoff, Option.getD_some]
        exact hrr off _ _ (List.getElem?_eq_getElem hoff) hx

theorem op_field [VR : Vars] (hT : TOk P E.T) {t : TypeId} {x : Operand} {f : Nat} (h : Rel w0 ω0 w g st vs) (ho : o.op = .field t x f) (hk : Den C (doOp E mv o st k) r) (hn : Follows C w0 ω0 o vs k r next) : o.wp P ⟨vs, []⟩ w next Q := by
  simp only [doOp, ho] at hk
  split at hk
  · rename_i hti he
    obtain ⟨fields, hu, hsz, hf, _⟩ := (hT t _ hti).kind
    split at hk
    · rename_i fi hfi
      cases hb : Nat.ble (fi.off + fi.size) _ <;> rw [hb] at hk
      · exact (noDen hk).elim
      have hle := Nat.le_of_ble_eq_true hb
      have hlt : f < fields.size := by rw [hsz]; exact lt_of_some hfi
      have hF := hf f fields[f] fi (Array.getElem?_eq_getElem hlt) hfi
      obtain ⟨inf, hinf, hins⟩ := hF.info
      have hr := ev_ne h he (by simp) (by simp)
      generalize hX : Act.eval ⟨vs, []⟩ x = q at hr
      cases hr with
      | agg _ xs hl hrr hp =>
        obtain ⟨X, h1, h2⟩ := part_run (P := P) hinf hins hF.und hF.agg hF.one hle (.agg _ xs hl hrr hp)
        exact wp_of_value (by
          simp only [execOp, ho, hX]
          refine run_value ?_
          simp only [Instr.field, Sem.run_bind, run_underlying hu, Result.andThen_ok, Array.getElem?_eq_getElem hlt, asAgg, Sem.run_pure, hF.off]
          exact h1) (hn _ _ _ _ g (h.put_ev h2.disAgg.ev (isOwn_disAgg _)) hk)
    · exact (noDen hk).elim
  · exact (noDen hk).elim

end
end Go.AM
