/- The operations: new variables, loads, stores, addresses, fields, elements. -/
import Derived.Test.YtkkinfbipndfdaaAmF
set_option linter.unusedVariables false
set_option linter.unusedSimpArgs false
namespace Go.AM
open Go.RowKit

theorem addr_add (b o n : Nat) : (⟨b, o, none⟩ : Addr).add n = ⟨b, o + n, none⟩ := by
  unfold Addr.add; split <;> simp_all

theorem plain_one {w : World} {I : Nat → Nat → Prop} {η : Nat → Nat} {N : Nat} {a : AVal} {v : Value} (h : Rep w I η N a v) (hp : plain a = true) : v.oneCell' = true ∧ v.cells = #[v] ∧ a.cells = [a] := by
  cases h <;> first | (simp [plain] at hp; done) | exact ⟨rfl, rfl, rfl⟩
theorem rep_cells {w : World} {I : Nat → Nat → Prop} {η : Nat → Nat} {N : Nat} {a : AVal} {v : Value} (h : Rep w I η N a v) (hp : plainAgg a = true) :
    v.cells.size = a.cells.length ∧ (∀ (j : Nat) c x, a.cells[j]? = some c → v.cells[j]? = some x → plain c = true ∧ Rep w I η N c x) ∧ ∀ x ∈ v.cells.toList, x.oneCell' = true := by
  cases a with
  | agg cs =>
    cases h with
    | agg _ vs hl hr hq =>
      refine ⟨hl.symm, fun j c x hc hx => ⟨hq c (List.mem_of_getElem? hc), hr j c x hc hx⟩, fun x hx => ?_⟩
      obtain ⟨j, hj, e⟩ := List.getElem_of_mem hx
      have hj' : j < vs.size := hj
      have hjc : j < cs.length := by rw [hl]; exact hj'
      have e' : vs[j]? = some x := by rw [Array.getElem?_eq_getElem hj']; exact congrArg some e
      exact (plain_one (hr j cs[j] x (List.getElem?_eq_getElem hjc) e') (hq _ (List.getElem_mem hjc))).1
  | _ =>
    have hp' := hp
    simp only [plainAgg] at hp'
    obtain ⟨h1, h2, h3⟩ := plain_one h hp'
    rw [h2, h3]
    refine ⟨rfl, fun j c x hc hx => ?_, fun x hx => ?_⟩
    · cases j with
      | zero => simp at hc hx; subst hc; subst hx; exact ⟨hp', h⟩
      | succ j => simp at hc
    · simp at hx; subst hx; exact h1

/-- Cells that lie one behind the other. -/
def CellsAt (w : World) (g : Gh) (N b o : Nat) (l : List AVal) : Prop := ∀ (j : Nat) c, l[j]? = some c → plain c = true ∧ ∃ x, w.cell? ⟨b, o + j, none⟩ = some x ∧ Rep w g.I g.η N c x

section
variable {R : Type} {P : Program} {E : Env} {w0 : World} {ω0 : Entry} {w : World} {g : Gh} {st : St} {vs : Array Value}
  {C : FuncId → List AVal → List HObj → AVal → List HObj → Prop} {o : Oper} {k : AVal → St → Tree R} {r : R} {next : Act → World → Prop} {Q : Exit → Act → World → Prop} {mv : Bool}

theorem run_isAgg {t : TypeId} {i : TI} (h : TIOk P t i) : (isAgg t).run P w = .ok i.agg w := by
  obtain ⟨u, hu⟩ := h.und
  have ha := h.agg
  simp only [isAgg, Sem.run_bind, run_underlying hu, Result.andThen_ok]
  rw [hu] at ha
  cases u <;> simp only [Sem.run_pure] <;> simp_all
theorem TIOk.one {t : TypeId} {i : TI} (h : TIOk P t i) (ha : i.agg = false) : i.size = 1 := by
  have := h.zlen
  have hz := h.zagg
  cases hq : i.zero <;> rw [hq] at this hz <;> simp_all [AVal.cells]

theorem load_agg {t : TypeId} {i : TI} (hT : TIOk P t i) (ha : i.agg = true) {N b a : Nat} {l : List AVal} (hc : CellsAt w g N b a l) (hl : l.length = i.size) :
    ∃ X, (loadVar t ⟨b, a, none⟩).run P w = .ok X w ∧ Rep w g.I g.η N (.agg (l.map dis)) X := by
  obtain ⟨inf, z, hi, hs, _⟩ := hT.info
  have hcell : ∀ j, j < inf.size → w.cell? ((⟨b, a, none⟩ : Addr).add j) = some ((fun j => (w.cell? ⟨b, a + j, none⟩).getD undef) j) := fun j hj => by
    obtain ⟨_, x, hx, _⟩ := hc j l[j] (List.getElem?_eq_getElem (by rw [hl, ← hs]; exact hj))
    rw [addr_add, hx]; simp [hx]
  refine ⟨_, ?_, .agg _ ((List.range inf.size).map fun j => (w.cell? ⟨b, a + j, none⟩).getD undef).toArray ?_ ?_ ?_⟩
  · simp only [loadVar, Sem.run_bind, run_isAgg hT, ha, Result.andThen_ok, if_true, run_sizeOf hi, run_loadCells w _ _ _ hcell, Sem.run_pure]
  · simp [hl, hs]
  · intro j c v h1 h2
    simp only [List.getElem?_map, Option.map_eq_some_iff] at h1
    obtain ⟨c0, h0, rfl⟩ := h1
    have hj := lt_of_some h0
    obtain ⟨_, x, hx, hr⟩ := hc j c0 h0
    simp only [List.getElem?_toArray, List.getElem?_map, Option.map_eq_some_iff] at h2
    obtain ⟨j', h3, h4⟩ := h2
    have : j' = j := by rw [List.getElem?_range (by rw [hs, ← hl]; exact hj)] at h3; exact (Option.some.inj h3).symm
    subst this
    rw [hx] at h4; simp at h4; subst h4
    exact hr.dis
  · intro c h1
    obtain ⟨c0, h0, rfl⟩ := List.mem_map.1 h1
    obtain ⟨j, hj, e⟩ := List.getElem_of_mem h0
    rw [plain_dis]
    exact (hc j c0 (by rw [List.getElem?_eq_getElem hj, e])).1
theorem load_one {t : TypeId} {i : TI} (hT : TIOk P t i) (ha : i.agg = false) {b a : Nat} {x : Value} (hc : w.cell? ⟨b, a, none⟩ = some x) : (loadVar t ⟨b, a, none⟩).run P w = .ok x w := by
  simp only [loadVar, Sem.run_bind, run_isAgg hT, ha, Result.andThen_ok, if_false, run_load]
  simp [hc]

theorem store_run {t : TypeId} {i : TI} (hT : TIOk P t i) {A : AVal} {X : Value} {N b a : Nat} (hr : Rep w g.I g.η N A X) (hp : plainAgg A = true) (hl : A.cells.length = i.size)
    (hc : ∀ j, j < i.size → (w.cell? ⟨b, a + j, none⟩).isSome = true) (hf : ∀ j, j < i.size → w.frozen? ⟨b, a + j, none⟩ = false) :
    (storeVar t ⟨b, a, none⟩ X).run P w = .ok () (w.setCells b a X.cells.toList) := by
  obtain ⟨inf, z, hi, hs, _⟩ := hT.info
  obtain ⟨h1, _, h3⟩ := rep_cells hr hp
  have hsz : X.cells.size = i.size := h1.trans hl
  have hlen : X.cells.toList.length = i.size := by simpa using hsz
  simp only [storeVar, Sem.run_bind, run_sizeOf hi, Result.andThen_ok]
  rw [if_neg (by rw [hsz, hs]; simp)]
  rw [run_storeCells_cells b a X.cells.toList 0 w (fun j hj => by simpa using hc j (by rw [← hlen]; exact hj)) (fun j hj => by simpa using hf j (by rw [← hlen]; exact hj)) h3]
  simp

/-- What a slot's box holds. -/
theorem Rel.boxAt [VR : Vars] (h : Rel w0 ω0 w g st vs) {s : Nat} {cs : List AVal} (e : st.ts.getD s .undef = .lbox cs) :
    st.ts[s]? = some (.lbox cs) ∧ (∃ v, vs[s]? = some v ∧ RepSlot w g st.H.length s (.lbox cs) v) := by
  have e1 : st.ts[s]? = some (.lbox cs) := by
    rcases hq : st.ts[s]? with _ | q
    · simp [List.getD, hq] at e
    · simp [List.getD, hq] at e; rw [e]
  have hs : s < vs.size := by rw [← h.len]; exact lt_of_some e1
  exact ⟨e1, vs[s], Array.getElem?_eq_getElem hs, h.slot s _ _ e1 (Array.getElem?_eq_getElem hs)⟩
theorem Rel.boxCells [VR : Vars] (h : Rel w0 ω0 w g st vs) {s : Nat} {cs : List AVal} (e : st.ts.getD s .undef = .lbox cs) (off n : Nat) (hn : off + n ≤ cs.length) : CellsAt w g st.H.length (g.β s) off ((cs.drop off).take n) := by
  obtain ⟨_, v, _, hr⟩ := h.boxAt e
  intro j c hc
  have hj := lt_of_some hc
  simp only [List.length_take, List.length_drop] at hj
  rw [List.getElem?_take_of_lt (by omega), List.getElem?_drop] at hc
  obtain ⟨hp, x, hx, hpl⟩ := hr.2.2 (off + j) c hc
  exact ⟨hp, x, hx, hpl.1⟩
theorem Rel.vecCells [VR : Vars] (h : Rel w0 ω0 w g st vs) {t e m : Nat} {cs : List AVal} (ht : st.ts.getD t .undef = .vec e m cs) (off n : Nat) (hn : off + n ≤ cs.length) : CellsAt w g st.H.length (g.β t) off ((cs.drop off).take n) := by
  obtain ⟨_, ⟨_, hlen, hr⟩, _⟩ := h.vecOf ht
  intro j c hc
  have hj := lt_of_some hc
  simp only [List.length_take, List.length_drop] at hj
  rw [List.getElem?_take_of_lt (by omega), List.getElem?_drop] at hc
  rcases hr with ⟨_, e2⟩ | ⟨cap, e1, e2, e3, e4⟩
  · rw [e2] at hlen; omega
  · obtain ⟨h1, _, x, h2, h3⟩ := e4 (off + j) c hc
    exact ⟨h1, x, h2, h3⟩
theorem Rel.arrCells [VR : Vars] (h : Rel w0 ω0 w g st vs) {id : Nat} {cs : List AVal} (e : st.H[id]? = some (.arr cs)) (off n : Nat) (hn : off + n ≤ cs.length) : CellsAt w g st.H.length (g.η id) off ((cs.drop off).take n) := by
  have hr := h.base.heap id _ e
  intro j c hc
  have hj := lt_of_some hc
  simp only [List.length_take, List.length_drop] at hj
  rw [List.getElem?_take_of_lt (by omega), List.getElem?_drop] at hc
  obtain ⟨h1, x, h2, h3, _⟩ := hr.2 (off + j) c hc
  exact ⟨h1, x, h2, h3⟩
theorem rptr_cells {c : AVal} {X : Value} {N : Nat} (h : Rep w g.I g.η N (.rptr c) X) : ∃ b a, X = .pointer (some ⟨b, a, none⟩) ∧ CellsAt w g N b a c.cells ∧ plainAgg c = true ∧
    ∀ j, j < c.cells.length → g.ω b (a + j) = .imm := by
  cases h with
  | rptr _ b a vals hp ha hr =>
    refine ⟨b, a, rfl, fun j x hx => ⟨?_, vals j, (ha j (lt_of_some hx)).2, hr j x hx⟩, hp, fun j hj => (ha j hj).1⟩
    cases c with
    | agg cs => simp only [plainAgg, List.all_eq_true] at hp; exact hp x (List.mem_of_getElem? hx)
    | _ =>
      cases j with
      | zero => simp [AVal.cells] at hx; subst hx; exact hp
      | succ j => simp [AVal.cells] at hx

theorem getD_drop {cs : List AVal} {off : Nat} (h : off + 1 ≤ cs.length) : ((cs.drop off).take 1)[0]? = some (cs.getD off .undef) := by
  rw [List.getElem?_take_of_lt (by omega), List.getElem?_drop]
  simp [List.getD, List.getElem?_eq_getElem (show off < cs.length by omega)]

theorem Rep.ev {N : Nat} {a : AVal} {v : Value} (h : Rep w g.I g.η N a v) : EvRep w g N a v := by
  cases a <;> first | exact h | trivial | (cases h)

/-- Spare room handed from a slot to a cell of the abstract heap, or back. -/
def swp (p q o : Owner) : Owner := if o = p then q else if o = q then .free else o
def isTl : Owner → Bool
  | .tail _ _ => true
  | .ht _ _ => true
  | _ => false
theorem swp_out {p q o : Owner} (h1 : o ≠ p) (h2 : o ≠ q) : swp p q o = o := by unfold swp; rw [if_neg h1, if_neg h2]
theorem swp_not {p q o : Owner} (hp : isTl p = true) (hq : isTl q = true) (ho : isTl o = false) : swp p q o = o :=
  swp_out (fun e => by rw [e, hp] at ho; cases ho) (fun e => by rw [e, hq] at ho; cases ho)
theorem swp_back {p q o r : Owner} (hp : isTl p = true) (hq : isTl q = true) (hr : isTl r = false) (hf : r ≠ .free) (h : swp p q o = r) : o = r := by
  unfold swp at h
  split at h
  · rw [← h, hq] at hr; cases hr
  · split at h
    · exact absurd h.symm hf
    · exact h
theorem swp_free {p q o : Owner} (hp : isTl p = true) (h : swp p q o ≠ .free) : o ≠ .free := fun e => by
  subst e
  unfold swp at h
  split at h
  · rename_i e; rw [← e] at hp; cases hp
  · split at h
    · exact h rfl
    · exact h rfl
theorem swp_tl {p q o : Owner} (hp : isTl p = true) (h : isTl (swp p q o) = true) : isTl o = true := by
  unfold swp at h
  split at h
  · rename_i e; rw [e]; exact hp
  · split at h
    · cases h
    · exact h
def Gh.swp (g : Gh) (p q : Owner) : Gh := { g with ω := fun b o => AM.swp p q (g.ω b o) }
theorem Gh.swp_same (w : World) (g : Gh) (p q : Owner) (N : Nat) : Same (fun o => o = p ∨ o = q) w g N w (g.swp p q) :=
  ⟨fun b o h hX => ⟨swp_out (fun e => hX (.inl e)) (fun e => hX (.inr e)), rfl⟩, fun b _ _ => rfl, fun _ _ => rfl⟩

theorem Rel.swap [VR : Vars] (h : Rel w0 ω0 w g st vs) (id off : Nat) {p q : Owner} (hp : p = .ht id off ∨ ∃ s i, p = .tail s i) (hq : q = .ht id off ∨ ∃ s i, q = .tail s i) (hid : id < st.H.length) {H' : List HObj} {ts' : List AVal} {vs' : Array Value}
    (hHl : H'.length = st.H.length) (hH : ∀ j, j ≠ id → H'[j]? = st.H[j]?) (hobj : ∀ o, H'[id]? = some o → RepObj w (g.swp p q).I (g.swp p q).ω (g.swp p q).η H'.length id o) (hl : ts'.length = vs'.size)
    (hslot : ∀ (s : Nat) a v, ts'[s]? = some a → vs'[s]? = some v → RepSlot w (g.swp p q) H'.length s a v) (hlk : Locks H') : Rel w0 ω0 w (g.swp p q) { st with ts := ts', H := H' } vs' := by
  have hpt : isTl p = true := by rcases hp with rfl | ⟨s, i, rfl⟩ <;> rfl
  have hqt : isTl q = true := by rcases hq with rfl | ⟨s, i, rfl⟩ <;> rfl
  have tl : ∀ {o : Owner}, isTl o = true → (∃ s i, o = .tail s i) ∨ ∃ id i, o = .ht id i := fun {o} ho => by
    cases o <;> first | (cases ho; done) | exact .inl ⟨_, _, rfl⟩ | exact .inr ⟨_, _, rfl⟩
  have lt : ∀ {o : Owner}, ((∃ s i, o = .tail s i) ∨ ∃ id i, o = .ht id i) → isTl o = true := fun {o} ho => by
    rcases ho with ⟨s, i, rfl⟩ | ⟨s, i, rfl⟩ <;> rfl
  have key : ∀ b o, b < w0.heap.size → (∀ id i, ω0.ω b o ≠ .ht id i) → isTl (g.ω b o) = false := fun b o hb hn => by
    cases hh : isTl (g.ω b o) with
    | false => rfl
    | true =>
      rcases tl hh with ⟨s, i, e⟩ | ⟨id, i, e⟩
      · rcases h.mine b o (.inr ⟨s, i, e⟩) with h1 | ⟨id, i, h1⟩
        · omega
        · exact absurd h1 (hn _ _)
      · exact absurd (((h.past b hb o).1 hn).symm.trans e) (hn _ _)
  refine ⟨⟨fun j o ho => ?_, fun b o hb => h.base.live b o (swp_free hpt hb), fun b o h1 h2 h3 => h.base.soft b o (swp_free hpt h1) (fun e => h2 ?_) (fun id' e => h3 id' (by show AM.swp p q (g.ω b o) = _; rw [e]; exact swp_not hpt hqt rfl)), fun b o hb => ?_, fun b o o' id' hb => ?_, fun b o id' hb => ?_, hlk⟩, hl, hslot, fun b o hb => ?_, fun b hb o => ⟨fun hn => ?_, fun id hh => (h.past b hb o).2 id (swp_back hpt hqt rfl (by simp) hh)⟩, h.keeps, by simp only; rw [hHl]; exact h.old⟩
  · by_cases e : j = id
    · subst e; exact hobj o ho
    · rw [hH j e] at ho
      have hX : ∀ {o : Owner}, isTl o = false → ¬ (o = p ∨ o = q) := fun {o} h1 h2 => by
        rcases h2 with rfl | rfl
        · rw [hpt] at h1; cases h1
        · rw [hqt] at h1; cases h1
      refine (Gh.swp_same w g p q st.H.length).objs (hX rfl) (Nat.le_of_eq hHl.symm) h.base ho (hX rfl) (fun i hi => ?_) (fun _ _ _ _ _ => hX rfl)
      rcases hi with hi | hi
      · rcases hp with hp | ⟨s, i', hp⟩
        · rw [hp] at hi; cases hi; exact e rfl
        · rw [hp] at hi; cases hi
      · rcases hq with hq | ⟨s, i', hq⟩
        · rw [hq] at hi; cases hi; exact e rfl
        · rw [hq] at hi; cases hi
  · show AM.swp p q (g.ω b o) = .imm
    rw [e]; exact swp_not hpt hqt rfl
  · exact h.base.tail b o (tl (swp_tl hpt (lt hb)))
  · have h1 : g.ω b o = .h id' := swp_back hpt hqt rfl (by simp) hb
    rcases h.base.sep b o o' id' h1 with e | e
    · left; show AM.swp p q (g.ω b o') = _; rw [e]; exact swp_not hpt hqt rfl
    · right; show AM.swp p q (g.ω b o') = _; rw [e]; exact swp_not hpt hqt rfl
  · simp only; rw [hHl]
    rcases hb with hb | ⟨i, hb⟩
    · exact h.base.low b o id' (.inl (swp_back hpt hqt rfl (by simp) hb))
    · have hb' : AM.swp p q (g.ω b o) = .ht id' i := hb
      unfold AM.swp at hb'
      split at hb'
      · rcases hq with hq | ⟨s, i', hq⟩
        · rw [hq] at hb'; cases hb'; exact hid
        · rw [hq] at hb'; cases hb'
      · split at hb'
        · cases hb'
        · exact h.base.low b o id' (.inr ⟨i, hb'⟩)
  · by_cases hbs : w0.heap.size ≤ b
    · exact .inl hbs
    · right
      have hb2 : (∃ s, AM.swp p q (g.ω b o) = .box s) ∨ ∃ s i, AM.swp p q (g.ω b o) = .tail s i := hb
      rcases hb2 with ⟨s, e⟩ | ⟨s, i, e⟩
      · rcases h.mine b o (.inl ⟨s, swp_back hpt hqt rfl (by simp) e⟩) with h1 | h1
        · exact absurd h1 hbs
        · exact h1
      · have ht : isTl (g.ω b o) = true := swp_tl hpt (by rw [e]; rfl)
        apply Classical.byContradiction
        intro hne
        have := key b o (by omega) (fun id i e => hne ⟨id, i, e⟩)
        rw [this] at ht; cases ht
  · show AM.swp p q (g.ω b o) = _
    rw [swp_not hpt hqt (key b o hb hn)]
    exact (h.past b hb o).1 hn

/-- A cell of the abstract heap, with what it owns. -/
theorem loadMv [VR : Vars] (h : Rel w0 ω0 w g st vs) {id off : Nat} {cs : List AVal} (hcs : st.H[id]? = some (.arr cs)) (hoff : off < cs.length) {X : Value} (hx : w.cell? ⟨g.η id, off, none⟩ = some X) (hn : Follows C w0 ω0 o vs k r next)
    (hk : Den C (k (cs.getD off .undef) { st with H := st.H.set id (.arr (cs.set off (dis (cs.getD off .undef)))) }) r) : next (Act.put ⟨vs, []⟩ o.dst X) w := by
  have hid := lt_of_some hcs
  have hobj := h.base.heap id _ hcs
  have hco : cs[off]? = some (cs.getD off .undef) := by simp [List.getD, List.getElem?_eq_getElem hoff]
  obtain ⟨hp, X', hx', hr, hown⟩ := hobj.2 off _ hco
  rw [hx] at hx'; cases hx'
  have hlk : Locks (st.H.set id (.arr (cs.set off (dis (cs.getD off .undef))))) := h.base.lock.set (fun i e => by rw [hcs] at e; cases e) (fun m es t c e => by cases e)
  have hset : ∀ j, j ≠ id → (st.H.set id (.arr (cs.set off (dis (cs.getD off .undef)))))[j]? = st.H[j]? := fun j hj => List.getElem?_set_ne (Ne.symm hj)
  have hself : ∀ ob, (st.H.set id (.arr (cs.set off (dis (cs.getD off .undef)))))[id]? = some ob → ob = .arr (cs.set off (dis (cs.getD off .undef))) := fun ob hob => by
    rw [List.getElem?_set, if_pos rfl, if_pos hid] at hob; exact (Option.some.inj hob).symm
  cases hd : o.dst with
  | none =>
    have := hn (cs.getD off .undef) _ X w g ?_ hk
    · rw [hd] at this; exact this
    rw [hd]
    refine ⟨⟨fun j ob hob => ?_, h.base.live, h.base.soft, h.base.tail, h.base.sep, fun b o id' hb => by simp only [putD, List.length_set]; exact h.base.low b o id' hb, hlk⟩, h.len, fun s a v h1 h2 => by simp only [putD, List.length_set]; exact h.slot s a v h1 h2, h.mine, h.past, h.keeps, by simp only [putD, List.length_set]; exact h.old⟩
    simp only [putD, List.length_set] at hob ⊢
    by_cases e : j = id
    · subst e
      rw [hself ob hob]
      refine ⟨fun o' ho' => hobj.1 o' (by simpa using ho'), fun o' c hc => ?_⟩
      simp only [List.getElem?_set] at hc
      by_cases eo : off = o'
      · subst eo
        rw [if_pos rfl, if_pos hoff] at hc; cases hc
        exact ⟨by rw [plain_dis]; exact hp, X, hx, hr.dis, OwnHeap.not (not_own (isOwn_dis _))⟩
      · rw [if_neg eo] at hc; exact hobj.2 o' c hc
    · rw [hset j e] at hob; exact h.base.heap j ob hob
  | some d =>
    have := hn (cs.getD off .undef) _ X w (g.swp (.ht id off) (.tail d 0)) ?_ hk
    · rw [hd] at this; exact this
    rw [hd]
    have hS := Gh.swp_same w g (.ht id off) (.tail d 0) st.H.length
    refine h.swap id off (.inl rfl) (.inr ⟨d, 0, rfl⟩) hid (by simp) hset (fun ob hob => ?_) (by simp [Act.put, h.len]) (fun s a v h1 h2 => ?_) hlk
    · rw [hself ob hob]
      simp only [List.length_set]
      refine ⟨fun o' ho' => by
        have e1 := hobj.1 o' (by simpa using ho')
        show AM.swp _ _ (g.ω (g.η id) o') = _
        rw [e1]; exact swp_not rfl rfl rfl, fun o' c hc => ?_⟩
      simp only [List.getElem?_set] at hc
      by_cases eo : off = o'
      · subst eo
        rw [if_pos rfl, if_pos hoff] at hc; cases hc
        exact ⟨by rw [plain_dis]; exact hp, X, hx, hS.rep (by simp) (Nat.le_refl _) hr.dis, OwnHeap.not (not_own (isOwn_dis _))⟩
      · rw [if_neg eo] at hc
        obtain ⟨h3, x, h4, h5, h6⟩ := hobj.2 o' c hc
        refine ⟨h3, x, h4, hS.rep (by simp) (Nat.le_refl _) h5, fun e n f he => ?_⟩
        obtain ⟨ad, cap, h7, h8⟩ := h6 e n f he
        refine ⟨ad, cap, h7, fun j h9 h10 => ?_⟩
        obtain ⟨b, o2, h11, h12⟩ := h8 j h9 h10
        exact ⟨b, o2, h11, (swp_out (by rw [h12]; simp; exact fun e => eo e.symm) (by rw [h12]; simp)).trans h12⟩
    · simp only [List.length_set]
      simp only [List.getElem?_set] at h1
      simp only [Act.put] at h2
      rw [getElem?_setIf] at h2
      by_cases ed : d = s
      · subst ed
        rw [if_pos rfl] at h1
        by_cases hlt : d < st.ts.length
        · rw [if_pos hlt] at h1
          rw [if_pos ⟨rfl, by rw [← h.len]; exact hlt⟩] at h2
          cases h1; cases h2
          refine RepSlot.of_pl ⟨hS.rep (by simp) (Nat.le_refl _) hr, fun e n f he => ?_⟩
          obtain ⟨ad, cap, h7, h8⟩ := hown e n f he
          refine ⟨ad, cap, h7, fun j h9 h10 => ?_⟩
          obtain ⟨b, o2, h11, h12⟩ := h8 j h9 h10
          exact ⟨b, o2, h11, by show AM.swp _ _ (g.ω _ _) = _; rw [h12]; simp [AM.swp]⟩
        · rw [if_neg hlt] at h1; cases h1
      · rw [if_neg ed] at h1; rw [if_neg (fun hh => ed hh.1)] at h2
        exact hS.slot (by simp) (Nat.le_refl _) (by simp) (fun i => by simp; exact fun e => absurd e.symm ed) (fun _ => rfl) (fun _ _ => rfl) (h.slot s a v h1 h2)

theorem op_load [VR : Vars] (hT : TOk P E.T) {t : TypeId} {x : Operand} (h : Rel w0 ω0 w g st vs) (ho : o.op = .load t x) (hk : Den C (doOp E mv o st k) r) (hn : Follows C w0 ω0 o vs k r next) : o.wp P ⟨vs, []⟩ w next Q := by
  simp only [doOp, ho] at hk
  split at hk
  · rename_i i s off hi he
    have hTi := hT t i hi
    have hev := h.ev x ⟨vs, []⟩ rfl
    rw [he] at hev
    have hX : Act.eval ⟨vs, []⟩ x = .pointer (some ⟨g.β s, off, none⟩) := hev
    split at hk
    · rename_i cs hcs
      cases hb : Nat.ble (off + i.size) cs.length <;> rw [hb] at hk
      · exact (noDen hk).elim
      have hle := Nat.le_of_ble_eq_true hb
      have hC := h.boxCells hcs off i.size hle
      cases ha : i.agg <;> rw [ha] at hk
      · -- one cell
        have h1 := hTi.one ha
        rw [h1] at hC hle
        obtain ⟨hp, X, hx, hr⟩ := hC 0 _ (getD_drop hle)
        simp only [Nat.add_zero] at hx
        have hrun : (execOp (Act.eval ⟨vs, []⟩) o).run P w = .ok (.value X) w := by
          simp only [execOp, ho, hX]; exact run_value (by simp only [Instr.loadAt, Instr.sureAddr, Sem.run_bind, Sem.run_pure, Result.andThen_ok, load_one hTi ha hx])
        cases mv with
        | false =>
          simp only [cond_true, cond_false] at hk
          exact wp_of_value hrun (hn _ _ _ _ g (h.put_ev hr.dis.ev (isOwn_dis _)) hk)
        | true =>
          simp only [cond_true, cond_false] at hk
          obtain ⟨e1, v, hv, hrs⟩ := h.boxAt hcs
          have hs := lt_of_some e1
          have hoff : off < cs.length := by omega
          have hco : cs[off]? = some (cs.getD off .undef) := by simp [List.getD, List.getElem?_eq_getElem hoff]
          -- the box, its cell owning nothing
          have hdis : Rel w0 ω0 w g { st with ts := st.ts.set s (.lbox (cs.set off (dis (cs.getD off .undef)))) } vs := by
            refine h.set1 s (fun a v' ha' hv' => ?_)
            rw [hv] at hv'; cases hv'
            refine ⟨hrs.1, fun o ho => hrs.2.1 o (by simpa using ho), fun o c hc => ?_⟩
            simp only [List.getElem?_set] at hc
            by_cases eo : off = o
            · subst eo
              rw [if_pos rfl, if_pos hoff] at hc; cases hc
              obtain ⟨hp, x', hx', hpl⟩ := hrs.2.2 off _ hco
              exact ⟨by rw [plain_dis]; exact hp, x', hx', hpl.1.dis, fun e n f he => absurd he (not_own (isOwn_dis _) e n f)⟩
            · rw [if_neg eo] at hc; exact hrs.2.2 o c hc
          cases hd : o.dst with
          | none =>
            refine wp_of_value hrun ?_
            have := hn (cs.getD off .undef) _ X w g (by rw [hd]; exact hdis) hk
            exact this
          | some d =>
            by_cases hown : isOwn (cs.getD off .undef) = true
            · -- what the cell owned, slot d owns
              obtain ⟨hp', x', hx', hpl⟩ := hrs.2.2 off _ hco
              rw [hx] at hx'; cases hx'
              refine wp_of_value hrun ?_
              have hg' : Rel w0 ω0 w (g.ren (s, off) (d, 0)) (putD { st with ts := st.ts.set s (.lbox (cs.set off (dis (cs.getD off .undef)))) } (some d) (cs.getD off .undef)) (Act.put ⟨vs, []⟩ (some d) X).tmps := by
                refine ⟨h.base.ren _ _, by simp [putD, Act.put, h.len], ?_, h.mine_ren _ _, h.past_ren _ _, h.keeps, h.old⟩
                intro s' A v' h1 h2
                simp only [putD, List.getElem?_set] at h1
                simp only [Act.put] at h2
                rw [getElem?_setIf] at h2
                by_cases ed : d = s'
                · subst ed
                  rw [if_pos rfl] at h1
                  by_cases hlt : d < (st.ts.set s (.lbox (cs.set off (dis (cs.getD off .undef))))).length
                  · rw [if_pos hlt] at h1
                    rw [if_pos ⟨rfl, by rw [← h.len]; simpa using hlt⟩] at h2
                    cases h1; cases h2
                    exact RepSlot.of_pl hpl.moved
                  · rw [if_neg hlt] at h1; cases h1
                · rw [if_neg ed] at h1; rw [if_neg (fun hh => ed hh.1)] at h2
                  by_cases es : s = s'
                  · subst es
                    rw [if_pos rfl, if_pos hs] at h1; cases h1
                    have hslot := hdis.slot s (.lbox (cs.set off (dis (cs.getD off .undef)))) v' (by simp [hs]) h2
                    refine hslot.ren _ _ (fun j c hj => ?_)
                    by_cases ej : j = off
                    · subst ej
                      right
                      refine ⟨rfl, fun cs' c' hcs' hc' => ?_⟩
                      cases hcs'
                      simp only [List.getElem?_set, if_true, if_pos hoff] at hc'
                      cases hc'; exact isOwn_dis _
                    · left; exact ⟨fun hh => ej (by cases hh; rfl), fun hh => ed (by cases hh; rfl)⟩
                  · rw [if_neg es] at h1
                    exact (h.slot s' A v' h1 h2).ren _ _ (fun j c hj => .inl ⟨fun hh => es (by cases hh; rfl), fun hh => ed (by cases hh; rfl)⟩)
              have := hn (cs.getD off .undef) _ X w _ (by rw [hd]; exact hg') hk
              exact this
            · refine wp_of_value hrun ?_
              have := hn (cs.getD off .undef) _ X w g (by rw [hd]; exact hdis.put_ev hr.ev (by simpa using hown)) hk
              exact this
      · simp only [cond_true] at hk
        obtain ⟨X, hX2, hr⟩ := load_agg hTi ha hC (by simp; omega)
        exact wp_of_value (by simp only [execOp, ho, hX]; exact run_value (by simp only [Instr.loadAt, Instr.sureAddr, Sem.run_bind, Sem.run_pure, Result.andThen_ok, hX2])) (hn _ _ _ _ g (h.put_ev hr.ev rfl) hk)
    · rename_i e' n' cs hcs
      obtain ⟨hb, hk⟩ := hk.chk
      have hle := Nat.le_of_ble_eq_true hb
      have hC := h.vecCells hcs off i.size hle
      cases ha : i.agg <;> rw [ha] at hk
      · have h1 := hTi.one ha
        rw [h1] at hC hle
        obtain ⟨hp, X, hx, hr⟩ := hC 0 _ (getD_drop hle)
        simp only [Nat.add_zero] at hx
        have hrun : (execOp (Act.eval ⟨vs, []⟩) o).run P w = .ok (.value X) w := by
          simp only [execOp, ho, hX]; exact run_value (by simp only [Instr.loadAt, Instr.sureAddr, Sem.run_bind, Sem.run_pure, Result.andThen_ok, load_one hTi ha hx])
        simp only [cond_false] at hk
        exact wp_of_value hrun (hn _ _ _ _ g (h.put_ev hr.dis.ev (isOwn_dis _)) hk)
      · simp only [cond_true] at hk
        obtain ⟨X, hX2, hr⟩ := load_agg hTi ha hC (by simp; omega)
        exact wp_of_value (by simp only [execOp, ho, hX]; exact run_value (by simp only [Instr.loadAt, Instr.sureAddr, Sem.run_bind, Sem.run_pure, Result.andThen_ok, hX2])) (hn _ _ _ _ g (h.put_ev hr.ev rfl) hk)
    · exact (noDen hk).elim
  · rename_i i c hi he
    have hTi := hT t i hi
    have hr := ev_ne h he (by simp) (by simp)
    obtain ⟨b, a, hX, hC, hp, -⟩ := rptr_cells hr
    cases ha : i.agg <;> rw [ha] at hk
    · simp only [cond_false] at hk
      split at hk
      · exact (noDen hk).elim
      · rename_i hne
        have hcc : c.cells = [c] := by cases c <;> first | rfl | (exact absurd rfl (hne _))
        obtain ⟨_, X, hx, hrx⟩ := hC 0 c (by rw [hcc]; rfl)
        simp only [Nat.add_zero] at hx
        exact wp_of_value (by simp only [execOp, ho, hX]; exact run_value (by simp only [Instr.loadAt, Instr.sureAddr, Sem.run_bind, Sem.run_pure, Result.andThen_ok, load_one hTi ha hx])) (hn _ _ _ _ g (h.put_ev hrx.dis.ev (isOwn_dis _)) hk)
    · simp only [cond_true] at hk
      split at hk
      · rename_i cs
        cases hb : Nat.beq cs.length i.size <;> rw [hb] at hk
        · exact (noDen hk).elim
        obtain ⟨X, hX2, hr2⟩ := load_agg hTi ha hC (Nat.eq_of_beq_eq_true hb)
        exact wp_of_value (by simp only [execOp, ho, hX]; exact run_value (by simp only [Instr.loadAt, Instr.sureAddr, Sem.run_bind, Sem.run_pure, Result.andThen_ok, hX2])) (hn _ _ _ _ g (h.put_ev hr2.ev rfl) hk)
      · exact (noDen hk).elim
  · rename_i i id off hi he
    have hTi := hT t i hi
    have hr := ev_ne h he (by simp) (by simp)
    generalize hX : Act.eval ⟨vs, []⟩ x = q at hr
    cases hr with
    | href _ _ hid =>
      split at hk
      · rename_i cs hcs
        obtain ⟨hb, hk⟩ := hk.chk
        have hle := Nat.le_of_ble_eq_true hb
        have hC := h.arrCells hcs off i.size hle
        cases ha : i.agg <;> rw [ha] at hk
        · have h1 := hTi.one ha
          rw [h1] at hC hle
          obtain ⟨hp, X, hx, hrx⟩ := hC 0 _ (getD_drop hle)
          simp only [Nat.add_zero] at hx
          have hrun : (execOp (Act.eval ⟨vs, []⟩) o).run P w = .ok (.value X) w := by
            simp only [execOp, ho, hX]; exact run_value (by simp only [Instr.loadAt, Instr.sureAddr, Sem.run_bind, Sem.run_pure, Result.andThen_ok, load_one hTi ha hx])
          cases mv with
          | false =>
            simp only [cond_false] at hk
            exact wp_of_value hrun (hn _ _ _ _ g (h.put_ev hrx.dis.ev (isOwn_dis _)) hk)
          | true =>
            simp only [cond_false, cond_true] at hk
            exact wp_of_value hrun (loadMv h hcs (by omega) hx hn hk)
        · simp only [cond_true] at hk
          obtain ⟨X, hX2, hr2⟩ := load_agg hTi ha hC (by simp; omega)
          exact wp_of_value (by simp only [execOp, ho, hX]; exact run_value (by simp only [Instr.loadAt, Instr.sureAddr, Sem.run_bind, Sem.run_pure, Result.andThen_ok, hX2])) (hn _ _ _ _ g (h.put_ev hr2.ev rfl) hk)
      · exact (noDen hk).elim
  · exact (noDen hk).elim

end
end Go.AM
