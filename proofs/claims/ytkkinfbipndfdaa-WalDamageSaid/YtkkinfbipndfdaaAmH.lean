/- The operations: new variables, stores, addresses, fields, elements. -/
import Derived.Test.YtkkinfbipndfdaaAmG
set_option linter.unusedVariables false
set_option linter.unusedSimpArgs false
namespace Go.AM
open Go.RowKit

section
variable {R : Type} {P : Program} {E : Env} {w0 : World} {ω0 : Entry} {w : World} {g : Gh} {st : St} {vs : Array Value}
  {C : FuncId → List AVal → List HObj → AVal → List HObj → Prop} {o : Oper} {k : AVal → St → Tree R} {r : R} {next : Act → World → Prop} {Q : Exit → Act → World → Prop} {mv : Bool}

/-- A new block's cells, as they are read. -/
theorem cell_fresh (w : World) (arr : Array Value) (t : TypeId) (j : Nat) : (w.alloc (.cells arr t)).cell? ⟨w.heap.size, j, none⟩ = arr[j]? := by simp
theorem frozen_fresh (w : World) (arr : Array Value) (t : TypeId) (j : Nat) : (w.alloc (.cells arr t)).frozen? ⟨w.heap.size, j, none⟩ = false := by simp

theorem Rep.fresh {B : Base w g.ω g.η st.H} {ob : Obj} {own : Nat → Owner} {d β' : Nat} {N' : Nat} (hN : st.H.length ≤ N') {a : AVal} {v : Value} (h : Rep w g.I g.η st.H.length a v) :
    Rep (w.alloc ob) (g.fresh w.heap.size d own β' st.H.length).I (g.fresh w.heap.size d own β' st.H.length).η N' a v := by
  refine h.mono (fun b o hb => ?_) hN (fun id hid => by simp [Gh.fresh, hid])
  have hb' : g.ω b o = .imm := hb
  have hne : b ≠ w.heap.size := fun e => by have := B.live b o (by rw [hb']; simp); omega
  refine ⟨?_, World.cell?_alloc_old _ _ _ hne⟩
  show (if b = _ then _ else _) = _
  rw [if_neg hne, hb']; rfl

/-- A new box in slot d, or in the abstract heap. -/
theorem Rel.newBox [VR : Vars] (h : Rel w0 ω0 w g st vs) (d : Nat) (t : TypeId) (cs : List AVal) (arr : Array Value) (hl : arr.size = cs.length) (hpos : 0 < cs.length)
    (hc : ∀ (j : Nat) c x, cs[j]? = some c → arr[j]? = some x → plain c = true ∧ isOwn c = false ∧ Rep w g.I g.η st.H.length c x) :
    Rel w0 ω0 (w.alloc (.cells arr t)) (g.fresh w.heap.size d (fun o => if o < cs.length then .box d else .free) w.heap.size st.H.length) { st with ts := (st.ts.map (kill d)).set d (.lbox cs), H := st.H } (vs.setIfInBounds d (.pointer (some ⟨w.heap.size, 0, none⟩))) := by
  have := h.fresh d (.cells arr t) (fun o => if o < cs.length then .box d else .free) st.H true (.lbox cs) (.pointer (some ⟨w.heap.size, 0, none⟩)) w.heap.size (by simp) (.inl rfl)
    (fun o => by by_cases e : o < cs.length <;> simp [e, ofSlot]) (fun o _ _ => frozen_fresh _ _ _ _) (fun o s i hh => by by_cases e : o < cs.length <;> simp [e] at hh)
    (fun o o' id hh => by by_cases e : o < cs.length <;> simp [e] at hh) ⟨by simp [Gh.fresh], fun o ho => by simp [Gh.fresh, ho], fun o c hcc => ?_⟩
  · simpa using this
  · have ho := lt_of_some hcc
    have hx : arr[o]? = some arr[o] := Array.getElem?_eq_getElem (by rw [hl]; exact ho)
    obtain ⟨h1, h2, h3⟩ := hc o c _ hcc hx
    refine ⟨h1, arr[o], ?_, Rep.fresh (B := h.base) (Nat.le_refl _) h3, fun e n f he => absurd he (not_own h2 e n f)⟩
    have : (g.fresh w.heap.size d (fun o => if o < cs.length then .box d else .free) w.heap.size st.H.length).β d = w.heap.size := by simp [Gh.fresh]
    rw [this, cell_fresh]; exact hx

/-- What it owns is nothing. -/
def Lone (c : AVal) (x : Value) : Prop := ∀ e n f, c = .slice .own e n f → ∃ ad, x = .slice ad n n
theorem Lone.not {c : AVal} {x : Value} (h : isOwn c = false) : Lone c x := fun e n f he => absurd he (not_own h e n f)
theorem Lone.heap {ω : Nat → Nat → Owner} {id i : Nat} {c : AVal} {x : Value} (h : Lone c x) : OwnHeap ω id i c x := fun e n f he => by
  obtain ⟨ad, hx⟩ := h e n f he
  exact ⟨ad, n, hx, fun j h1 h2 => by omega⟩
theorem normV_rep {I : Nat → Nat → Prop} {η : Nat → Nat} {N : Nat} {a : AVal} {v : Value} (h : Rep w I η N a v) : Rep w I η N (normV a) v ∧ (isOwn a = false → Lone (normV a) v) ∧ ∀ {ω : Nat → Nat → Owner} {id i : Nat}, OwnHeap ω id i a v → OwnHeap ω id i (normV a) v := by
  cases h with
  | slice sp esz n f ad cap vals hc hx hnl ha hl hp hrr =>
    cases sp with
    | exact =>
      have hcap := hx rfl
      subst hcap
      have hL : Lone (normV (.slice .exact esz cap f)) (.slice ad cap cap) := fun e n f he => by cases he; exact ⟨ad, rfl⟩
      exact ⟨.slice .own esz cap f ad cap vals hc (by simp) (by simp) ha hl hp hrr, fun _ => hL, fun _ => hL.heap⟩
    | nil =>
      obtain ⟨h1, h2⟩ := hnl rfl
      have hn : n = cap := by omega
      subst hn
      have hL : Lone (normV (.slice .nil esz n f)) (.slice ad n n) := fun e n f he => by cases he; exact ⟨ad, rfl⟩
      exact ⟨.slice .own esz n f ad n vals hc (by simp) (by simp) ha hl hp hrr, fun _ => hL, fun _ => hL.heap⟩
    | shared => exact ⟨.slice .shared esz n f ad cap vals hc hx hnl ha hl hp hrr, Lone.not, fun h => h⟩
    | own => exact ⟨.slice .own esz n f ad cap vals hc hx hnl ha hl hp hrr, Lone.not, fun h => h⟩
  | agg cs vs hl hr hp => exact ⟨.agg cs vs hl hr hp, Lone.not, fun h => h⟩
  | bool b => exact ⟨.bool b, Lone.not, fun h => h⟩
  | int k n => exact ⟨.int k n, Lone.not, fun h => h⟩
  | str s => exact ⟨.str s, Lone.not, fun h => h⟩
  | nilIface => exact ⟨.nilIface, Lone.not, fun h => h⟩
  | nilFunc => exact ⟨.nilFunc, Lone.not, fun h => h⟩
  | nilMap => exact ⟨.nilMap, Lone.not, fun h => h⟩
  | nilPtr => exact ⟨.nilPtr, Lone.not, fun h => h⟩
  | func f cs vs hl hr => exact ⟨.func f cs vs hl hr, Lone.not, fun h => h⟩
  | tuple cs vs hl hr => exact ⟨.tuple cs vs hl hr, Lone.not, fun h => h⟩
  | rptr c b o vals hp ha hr => exact ⟨.rptr c b o vals hp ha hr, Lone.not, fun h => h⟩
  | map id h => exact ⟨.map id h, Lone.not, fun h => h⟩
  | href id off h => exact ⟨.href id off h, Lone.not, fun h => h⟩
  | mslice id off n esz ag cap h hc hag => exact ⟨.mslice id off n esz ag cap h hc hag, Lone.not, fun h => h⟩
  | iface t a v hr => exact ⟨.iface t a v hr, Lone.not, fun h => h⟩
  | yld id h => exact ⟨.yld id h, Lone.not, fun h => h⟩
  | err t v => exact ⟨.err t v, Lone.not, fun h => h⟩
theorem plain_normV (c : AVal) : plain (normV c) = plain c := by
  cases c <;> first | rfl | (rename_i sp e n f; cases sp <;> rfl)

theorem Rel.newArr' [VR : Vars] (h : Rel w0 ω0 w g st vs) (d : Nat) (t : TypeId) (cs : List AVal) (arr : Array Value) (A : AVal) (x : Value) (hl : cs.length ≤ arr.size)
    (hc : ∀ (j : Nat) c x, cs[j]? = some c → arr[j]? = some x → plain c = true ∧ Lone c x ∧ Rep w g.I g.η st.H.length c x)
    (hA : ∀ (g' : Gh) w', g'.η st.H.length = w.heap.size → EvRep w' g' (st.H.length + 1) A x) (hA' : isOwn A = false) :
    ∃ g', Rel w0 ω0 (w.alloc (.cells arr t)) g' { st with ts := st.ts.set d A, H := st.H ++ [.arr cs] } (vs.setIfInBounds d x) := by
  refine ⟨_, h.fresh d (.cells arr t) (fun o => if o < cs.length then .h st.H.length else .free) (st.H ++ [.arr cs]) false A x (g.β d) (by simp) (.inr ⟨_, rfl, ?_⟩)
    (fun o => by by_cases e : o < cs.length <;> simp [e, ofSlot]) (fun o _ _ => frozen_fresh _ _ _ _) (fun o s i hh => by by_cases e : o < cs.length <;> simp [e] at hh)
    (fun o o' id hh => by by_cases e : o < cs.length <;> by_cases e' : o' < cs.length <;> simp_all) ?_⟩
  · have hη : (g.fresh w.heap.size d (fun o => if o < cs.length then .h st.H.length else .free) (g.β d) st.H.length).η st.H.length = w.heap.size := by simp [Gh.fresh]
    refine ⟨fun o ho => by rw [hη]; simp [Gh.fresh, ho], fun o c hcc => ?_⟩
    have ho := lt_of_some hcc
    have hx : arr[o]? = some arr[o] := Array.getElem?_eq_getElem (by omega)
    obtain ⟨h1, h2, h3⟩ := hc o c _ hcc hx
    exact ⟨h1, arr[o], by rw [hη, cell_fresh]; exact hx, Rep.fresh (B := h.base) (by simp) h3, h2.heap⟩
  · have := hA (g.fresh w.heap.size d (fun o => if o < cs.length then .h st.H.length else .free) (g.β d) st.H.length) (w.alloc (.cells arr t)) (by simp [Gh.fresh])
    simp only [List.length_append, List.length_cons, List.length_nil]
    exact this.slot hA'

/-- A new builder. -/
theorem Rel.newBld [VR : Vars] (h : Rel w0 ω0 w g st vs) (d : Nat) (t e : TypeId) (arr : Array Value) (A : AVal) (x : Value) (harr : arr = #[.pointer none, .slice none 0 0])
    (hA : ∀ (g' : Gh) w', g'.η st.H.length = w.heap.size → EvRep w' g' (st.H.length + 1) A x) (hA' : isOwn A = false) :
    ∃ g', Rel w0 ω0 (w.alloc (.cells arr t)) g' { st with ts := st.ts.set d A, H := st.H ++ [.bld t e ByteArray.empty] } (vs.setIfInBounds d x) := by
  subst harr
  refine ⟨_, h.fresh d (.cells #[.pointer none, .slice none 0 0] t) (fun _ => .h st.H.length) (st.H ++ [.bld t e ByteArray.empty]) false A x (g.β d) (by simp) (.inr ⟨_, rfl, ?_⟩)
    (fun o => by simp [ofSlot]) (fun o _ _ => frozen_fresh _ _ _ _) (fun o s i hh => by simp at hh)
    (fun o o' id hh => .inl hh) ?_⟩
  · have hη : (g.fresh w.heap.size d (fun _ => .h st.H.length) (g.β d) st.H.length).η st.H.length = w.heap.size := by simp [Gh.fresh]
    refine ⟨fun o => by rw [hη]; simp [Gh.fresh], .inl ⟨Nat.zero_le _, .slice none 0 0, by rw [hη]; exact by show (w.heap.push _)[w.heap.size]? = _; simp, ⟨rfl, .inl ⟨rfl, rfl⟩⟩, by simp [Value.ownBlock]⟩, fun q n cap hc => ?_⟩
    rw [hη, cell_fresh] at hc
    simp at hc
  · have := hA (g.fresh w.heap.size d (fun _ => .h st.H.length) (g.β d) st.H.length) (w.alloc (.cells #[.pointer none, .slice none 0 0] t)) (by simp [Gh.fresh])
    simp only [List.length_append, List.length_cons, List.length_nil]
    exact this.slot hA'
theorem bldZero_cells {cs : List AVal} {arr : Array Value} {w : World} {I : Nat → Nat → Prop} {η : Nat → Nat} {N : Nat} (hz : bldZero cs = true) (hl : arr.size = cs.length) (hr : ∀ (j : Nat) c x, cs[j]? = some c → arr[j]? = some x → Rep w I η N c x) : arr = #[.pointer none, .slice none 0 0] := by
  unfold bldZero at hz
  split at hz
  · rename_i es n f
    have hn : n = 0 := Nat.beq_eq ▸ hz
    subst hn
    have hs : arr.size = 2 := by simpa using hl
    have h0 := hr 0 .nilPtr arr[0] rfl (Array.getElem?_eq_getElem (by omega))
    have h1 := hr 1 (.slice .nil es 0 f) arr[1] rfl (Array.getElem?_eq_getElem (by omega))
    apply Array.ext
    · simp [hs]
    · intro i hi1 hi2
      rcases (show i = 0 ∨ i = 1 by omega) with rfl | rfl
      · generalize arr[0] = q at h0
        cases h0; rfl
      · generalize arr[1] = q at h1
        cases h1 with
        | slice _ _ _ _ ad cap vals hc hx hn ha hll hp hrr =>
          obtain ⟨e1, e2⟩ := hn rfl
          subst e1; subst e2; rfl
  · cases hz
theorem Rel.newArr [VR : Vars] (h : Rel w0 ω0 w g st vs) (d : Nat) (t : TypeId) (cs : List AVal) (arr : Array Value) (A : AVal) (x : Value) (hl : arr.size = cs.length)
    (hc : ∀ (j : Nat) c x, cs[j]? = some c → arr[j]? = some x → plain c = true ∧ Lone c x ∧ Rep w g.I g.η st.H.length c x)
    (hA : ∀ (g' : Gh) w', g'.η st.H.length = w.heap.size → EvRep w' g' (st.H.length + 1) A x) (hA' : isOwn A = false) :
    ∃ g', Rel w0 ω0 (w.alloc (.cells arr t)) g' { st with ts := st.ts.set d A, H := st.H ++ [.arr cs] } (vs.setIfInBounds d x) := h.newArr' d t cs arr A x (Nat.le_of_eq hl.symm) hc hA hA'

theorem normCs {cs : List AVal} {arr : Array Value} {I : Nat → Nat → Prop} {η : Nat → Nat} {N : Nat} (h : ∀ (j : Nat) c x, cs[j]? = some c → arr[j]? = some x → plain c = true ∧ isOwn c = false ∧ Rep w I η N c x) :
    ∀ (j : Nat) c x, (cs.map normV)[j]? = some c → arr[j]? = some x → plain c = true ∧ Lone c x ∧ Rep w I η N c x := fun j c x hc hx => by
  simp only [List.getElem?_map, Option.map_eq_some_iff] at hc
  obtain ⟨c0, hc0, rfl⟩ := hc
  obtain ⟨h1, h2, h3⟩ := h j c0 x hc0 hx
  obtain ⟨h4, h5, _⟩ := normV_rep h3
  exact ⟨by rw [plain_normV]; exact h1, h5 h2, h4⟩
theorem put_some (d : Nat) (x : Value) : (Act.put ⟨vs, []⟩ (some d) x).tmps = vs.setIfInBounds d x := rfl

theorem op_alloc [VR : Vars] (hT : TOk P E.T) {t : TypeId} (h : Rel w0 ω0 w g st vs) (ho : o.op = .alloc t) (hk : Den C (doOp E mv o st k) r) (hn : Follows C w0 ω0 o vs k r next) : o.wp P ⟨vs, []⟩ w next Q := by
  simp only [doOp, ho] at hk
  split at hk
  · rename_i i d hi hd
    have hTi := hT t i hi
    obtain ⟨inf, z, hinf, hs, hby, hz, hzs, hzr, hzc⟩ := hTi.info
    have hrun : (execOp (Act.eval ⟨vs, []⟩) o).run P w = .ok (.value (.pointer (some ⟨w.heap.size, 0, none⟩))) (w.alloc (.cells z.cells t)) := by
      simp only [execOp, ho]
      refine run_value ?_
      simp only [Instr.alloc, zeroValue, Sem.run_bind, run_typeInfo hinf, Result.andThen_ok, hz]
      rfl
    have hcs : ∀ (j : Nat) c x, i.zero.cells[j]? = some c → z.cells[j]? = some x → plain c = true ∧ isOwn c = false ∧ Rep w g.I g.η st.H.length c x :=
      fun j c x h1 h2 => ⟨(hTi.zown c (List.mem_of_getElem? h1)).2, (hTi.zown c (List.mem_of_getElem? h1)).1, hzc j c x h1 h2 _ _ _ _⟩
    cases hb : E.esc.contains d <;> rw [hb] at hk
    · refine wp_of_value hrun ?_
      have hR := h.newBox d t i.zero.cells z.cells (by rw [hzs, hTi.zlen]) (by rw [hTi.zlen]; exact hTi.pos) hcs
      exact hn _ _ _ _ _ (by rw [hd]; exact hR) hk
    · refine wp_of_value hrun ?_
      have hA : ∀ (g' : Gh) w', g'.η st.H.length = w.heap.size → EvRep w' g' (st.H.length + 1) (.href st.H.length 0) (.pointer (some ⟨w.heap.size, 0, none⟩)) := fun g' w' hη => by
        have := Rep.href (w := w') (I := g'.I) (η := g'.η) (N := st.H.length + 1) st.H.length 0 (by omega)
        rw [hη] at this; exact this
      simp only [cond_true] at hk
      split at hk
      · rename_i e he hz0
        have hz2 := bldZero_cells hz0 (by rw [hzs, hTi.zlen]) (fun j c x h1 h2 => (hcs j c x h1 h2).2.2)
        obtain ⟨g', hR⟩ := h.newBld d t e z.cells (.href st.H.length 0) (.pointer (some ⟨w.heap.size, 0, none⟩)) hz2 hA rfl
        exact hn _ _ _ _ _ (by rw [hd]; exact hR) hk
      · obtain ⟨g', hR⟩ := h.newArr d t (i.zero.cells.map normV) z.cells (.href st.H.length 0) (.pointer (some ⟨w.heap.size, 0, none⟩)) (by rw [List.length_map, hzs, hTi.zlen]) (normCs hcs) hA rfl
        exact hn _ _ _ _ _ (by rw [hd]; exact hR) hk
  · exact (noDen hk).elim

theorem op_box [VR : Vars] (hT : TOk P E.T) {t : TypeId} {x : Operand} (h : Rel w0 ω0 w g st vs) (ho : o.op = .box t x) (hk : Den C (doOp E mv o st k) r) (hn : Follows C w0 ω0 o vs k r next) : o.wp P ⟨vs, []⟩ w next Q := by
  simp only [doOp, ho] at hk
  split at hk
  · rename_i i d hi hd
    have hTi := hT t i hi
    cases hb0 : (plainAgg (ev st.ts x) && Nat.beq (ev st.ts x).cells.length i.size) <;> rw [hb0] at hk
    · exact (noDen hk).elim
    simp only [Bool.and_eq_true] at hb0
    obtain ⟨hp, hlen⟩ := hb0
    have hlen := Nat.eq_of_beq_eq_true hlen
    have hne : ev st.ts x ≠ .undef ∧ ∀ s o, ev st.ts x ≠ .lptr s o := ⟨fun e => by rw [e] at hp; simp [plainAgg, plain] at hp, fun s o e => by rw [e] at hp; simp [plainAgg, plain] at hp⟩
    have hr := ev_ne h rfl hne.1 hne.2 (fun s n e => by rw [e] at hp; simp [plainAgg, plain] at hp)
    obtain ⟨h1, h2, h3⟩ := rep_cells hr hp
    have hrun : (execOp (Act.eval ⟨vs, []⟩) o).run P w = .ok (.value (.pointer (some ⟨w.heap.size, 0, none⟩))) (w.alloc (.cells (Act.eval ⟨vs, []⟩ x).cells t)) := by
      simp only [execOp, ho]; exact run_value rfl
    have hcs : ∀ (j : Nat) c x', ((ev st.ts x).cells.map dis)[j]? = some c → (Act.eval ⟨vs, []⟩ x).cells[j]? = some x' → plain c = true ∧ isOwn c = false ∧ Rep w g.I g.η st.H.length c x' := fun j c x' hc hx => by
      simp only [List.getElem?_map, Option.map_eq_some_iff] at hc
      obtain ⟨c0, hc0, rfl⟩ := hc
      obtain ⟨h4, h5⟩ := h2 j c0 x' hc0 hx
      exact ⟨by rw [plain_dis]; exact h4, isOwn_dis _, h5.dis⟩
    have hl : (Act.eval ⟨vs, []⟩ x).cells.size = ((ev st.ts x).cells.map dis).length := by simpa using h1
    cases hb : E.esc.contains d <;> rw [hb] at hk
    · refine wp_of_value hrun ?_
      have hR := h.newBox d t _ _ hl (by rw [List.length_map, hlen]; exact hTi.pos) hcs
      exact hn _ _ _ _ _ (by rw [hd]; exact hR) hk
    · refine wp_of_value hrun ?_
      obtain ⟨g', hR⟩ := h.newArr d t _ _ (.href st.H.length 0) (.pointer (some ⟨w.heap.size, 0, none⟩)) (by rw [List.length_map]; exact hl) (normCs hcs)
        (fun g' w' hη => by
          have := Rep.href (w := w') (I := g'.I) (η := g'.η) (N := st.H.length + 1) st.H.length 0 (by omega)
          rw [hη] at this; exact this) rfl
      exact hn _ _ _ _ _ (by rw [hd]; exact hR) hk
  · exact (noDen hk).elim

theorem over_length (cs : List AVal) (off : Nat) (ps : List AVal) (h : off + ps.length ≤ cs.length) : (over cs off ps).length = cs.length := by
  simp [over]; omega
theorem over_get (cs : List AVal) (off : Nat) (ps : List AVal) (h : off + ps.length ≤ cs.length) (j : Nat) : (over cs off ps)[j]? = if off ≤ j ∧ j < off + ps.length then ps[j - off]? else cs[j]? := by
  simp only [over]
  by_cases h1 : j < off
  · rw [List.getElem?_append_left (by simp; omega), List.getElem?_append_left (by simp; omega), List.getElem?_take_of_lt h1, if_neg (by omega)]
  · by_cases h2 : j < off + ps.length
    · rw [List.getElem?_append_left (by simp; omega), List.getElem?_append_right (by simp; omega), if_pos ⟨by omega, h2⟩]
      congr 1; simp; omega
    · rw [List.getElem?_append_right (by simp; omega), List.getElem?_drop, if_neg (by omega)]
      congr 1; simp; omega

/-- The world behind a write, for what does not lie there. -/
theorem Same.write [VR : Vars] (h : Rel w0 ω0 w g st vs) (Y : Owner → Prop) (b off : Nat) (cs : List Value) (hY : ∀ j, j < cs.length → Y (g.ω b (off + j))) (hYf : ¬ Y .free) :
    (∀ b' o', ¬ Y (g.ω b' o') → (w.setCells b off cs).cell? ⟨b', o', none⟩ = w.cell? ⟨b', o', none⟩) := by
  intro b' o' hn
  refine World.cell?_setCells_out b cs off w _ (fun e1 _ => ?_)
  simp only at e1 ⊢
  subst e1
  rcases Nat.lt_or_ge o' off with h1 | h1
  · exact .inl h1
  · rcases Nat.lt_or_ge o' (off + cs.length) with h2 | h2
    · exact absurd (hY (o' - off) (by omega)) (by rw [show off + (o' - off) = o' by omega]; exact hn)
    · exact .inr h2
theorem Rep.write [VR : Vars] (h : Rel w0 ω0 w g st vs) {Y : Owner → Prop} {b off : Nat} {cs : List Value} (hY : ∀ j, j < cs.length → Y (g.ω b (off + j))) (hYf : ¬ Y .free) (hYi : ¬ Y .imm) {a : AVal} {v : Value} {N : Nat} (hr : Rep w g.I g.η N a v) :
    Rep (w.setCells b off cs) g.I g.η N a v :=
  hr.mono (fun b' o' hb => ⟨hb, Same.write h Y b off cs hY hYf b' o' (by rw [show g.ω b' o' = .imm from hb]; exact hYi)⟩) (Nat.le_refl _) (fun _ _ => rfl)

/-- A box's cells, written; what is written owns nothing, or is one slice whose spare room has been handed to that place. -/
theorem Rel.storeBox [VR : Vars] (h : Rel w0 ω0 w g st vs) {s off : Nat} {cs : List AVal} (hcs : st.ts.getD s .undef = .lbox cs) {ps : List AVal} {xs : List Value} (hl : xs.length = ps.length) (hle : off + ps.length ≤ cs.length)
    (hp : ∀ (j : Nat) c x, ps[j]? = some c → xs[j]? = some x → plain c = true ∧ RepPl w g st.H.length s (off + j) c x) :
    Rel w0 ω0 (w.setCells (g.β s) off xs) g { st with ts := st.ts.set s (.lbox (over cs off ps)) } vs := by
  obtain ⟨e1, v, hv, hrs⟩ := h.boxAt hcs
  have hbox : ∀ j, j < xs.length → g.ω (g.β s) (off + j) = .box s := fun j hj => hrs.2.1 _ (by omega)
  have hcell : ∀ j, j < xs.length → (w.cell? ⟨g.β s, off + j, none⟩).isSome = true := fun j hj => by
    obtain ⟨_, x, hx, _⟩ := hrs.2.2 (off + j) cs[off + j] (List.getElem?_eq_getElem (by omega))
    rw [hx]; rfl
  by_cases hx0 : xs = []
  · subst hx0
    have : ps = [] := by simpa using hl.symm
    subst this
    have e : over cs off [] = cs := by simp [over]
    rw [e]
    have e2 : st.ts.set s (.lbox cs) = st.ts := by
      apply List.ext_getElem?; intro j
      simp only [List.getElem?_set]
      by_cases hj : s = j
      · subst hj; rw [if_pos rfl, if_pos (lt_of_some e1), e1]
      · rw [if_neg hj]
    rw [e2]; exact h
  have hpos : 0 < xs.length := List.length_pos_iff.2 hx0
  refine h.write (fun q => q = .box s) (g.β s) off xs g st.H _ _ hbox (by simp) (by simp) (.inl ((h.mine (g.β s) off (.inl ⟨s, by simpa using hbox 0 hpos⟩)).imp (fun e => e) (fun ⟨id, i, e⟩ => ⟨off, id, i, e⟩))) (fun _ _ _ => rfl) rfl rfl (fun _ _ _ => .inr (.inr (.inr rfl))) rfl
    (fun id hh => by cases hh) (fun id _ => rfl) (by simp [h.len]) (fun s' a v' h1 h2 => ?_) hcell (fun id hh => by cases hh) (fun id hh => by cases hh)
  simp only [List.getElem?_set] at h1
  by_cases es : s = s'
  · subst es
    right
    rw [if_pos rfl, if_pos (lt_of_some e1)] at h1; cases h1
    rw [hv] at h2; cases h2
    refine ⟨hrs.1, fun o ho => hrs.2.1 o (by rw [← over_length cs off ps hle]; exact ho), fun o c hc => ?_⟩
    rw [over_get cs off ps hle] at hc
    have hmono : ∀ {a : AVal} {v : Value} {i : Nat}, RepPl w g st.H.length s i a v → RepPl (w.setCells (g.β s) off xs) g st.H.length s i a v := fun hh => ⟨Rep.write h (Y := fun q => q = .box s) hbox (by simp) (by simp) hh.1, hh.2⟩
    by_cases hin : off ≤ o ∧ o < off + ps.length
    · rw [if_pos hin] at hc
      have hj : o - off < xs.length := by omega
      obtain ⟨h3, h4⟩ := hp (o - off) c xs[o - off] hc (List.getElem?_eq_getElem hj)
      have := World.cell?_setCells_in (g.β s) xs off w hcell (o - off) hj
      rw [show off + (o - off) = o by omega] at this h4
      exact ⟨h3, _, this, hmono h4⟩
    · rw [if_neg hin] at hc
      obtain ⟨h3, x, hx, h4⟩ := hrs.2.2 o c hc
      refine ⟨h3, x, ?_, hmono h4⟩
      rw [World.cell?_setCells_out (g.β s) xs off w _ (fun _ _ => by simp only; omega)]; exact hx
  · left
    rw [if_neg es] at h1
    exact ⟨h1, h2, fun hh => es (by cases hh; rfl), fun i hh => by cases hh⟩

/-- Cells of a slice that a slot holds, written. -/
theorem Rel.vecPoke [VR : Vars] (h : Rel w0 ω0 w g st vs) {t e cap off : Nat} {xs : List Value} (ht : t < st.ts.length) (hown : ∀ o, o < cap * e → g.ω (g.β t) o = .box t ∧ (w.cell? ⟨g.β t, o, none⟩).isSome = true) (hle : off + xs.length ≤ cap * e) {A : AVal} {v : Value} (hv : vs[t]? = some v)
    (hA : RepSlot (w.setCells (g.β t) off xs) g st.H.length t A v) : Rel w0 ω0 (w.setCells (g.β t) off xs) g { st with ts := st.ts.set t A } vs := by
  have hbox : ∀ j, j < xs.length → g.ω (g.β t) (off + j) = .box t := fun j hj => (hown _ (by omega)).1
  have hcell : ∀ j, j < xs.length → (w.cell? ⟨g.β t, off + j, none⟩).isSome = true := fun j hj => (hown _ (by omega)).2
  by_cases hx0 : xs = []
  · subst hx0
    refine ⟨h.base, by simp [h.len], fun s a v' h1 h2 => ?_, h.mine, h.past, h.keeps, h.old⟩
    by_cases es : t = s
    · subst es
      simp only [List.getElem?_set_self ht] at h1; cases h1
      rw [hv] at h2; cases h2; exact hA
    · simp only [List.getElem?_set_ne es] at h1
      exact h.slot s a v' h1 h2
  have hpos : 0 < xs.length := List.length_pos_iff.2 hx0
  refine h.write (fun q => q = .box t) (g.β t) off xs g st.H _ _ hbox (by simp) (by simp) (.inl ((h.mine (g.β t) off (.inl ⟨t, by simpa using hbox 0 hpos⟩)).imp (fun e => e) (fun ⟨id, i, e⟩ => ⟨off, id, i, e⟩))) (fun _ _ _ => rfl) rfl rfl (fun _ _ _ => .inr (.inr (.inr rfl))) rfl
    (fun id hh => by cases hh) (fun id _ => rfl) (by simp [h.len]) (fun s a v' h1 h2 => ?_) hcell (fun id hh => by cases hh) (fun id hh => by cases hh)
  by_cases es : t = s
  · subst es
    rw [List.getElem?_set_self ht] at h1; cases h1
    rw [hv] at h2; cases h2; exact .inr hA
  · rw [List.getElem?_set_ne es] at h1
    exact .inl ⟨h1, h2, fun hh => es (by cases hh; rfl), fun i hh => by cases hh⟩
theorem Rel.vecStore [VR : Vars] (h : Rel w0 ω0 w g st vs) {t e n off : Nat} {cs : List AVal} (ht : st.ts.getD t .undef = .vec e n cs) {ps : List AVal} {xs : List Value} (hl : xs.length = ps.length) (hle : off + ps.length ≤ cs.length) (hp0 : 0 < ps.length)
    (hp : ∀ (j : Nat) c x, ps[j]? = some c → xs[j]? = some x → plain c = true ∧ isOwn0 c = false ∧ Rep w g.I g.η st.H.length c x) :
    Rel w0 ω0 (w.setCells (g.β t) off xs) g { st with ts := st.ts.set t (.vec e n (over cs off ps)) } vs := by
  obtain ⟨hv, ⟨he, hlen, hr⟩, htl⟩ := h.vecOf ht
  rcases hr with ⟨_, e2⟩ | ⟨cap, e1, e2, e3, e4⟩
  · rw [e2] at hlen; omega
  · have hnc : n * e ≤ cap * e := Nat.mul_le_mul_right _ e2
    have hbox : ∀ j, j < xs.length → g.ω (g.β t) (off + j) = .box t := fun j hj => (e3 _ (by omega)).1
    have hcell : ∀ j, j < xs.length → (w.cell? ⟨g.β t, off + j, none⟩).isSome = true := fun j hj => (e3 _ (by omega)).2
    have hmono : ∀ {a : AVal} {v : Value}, Rep w g.I g.η st.H.length a v → Rep (w.setCells (g.β t) off xs) g.I g.η st.H.length a v := fun hh => Rep.write h (Y := fun q => q = .box t) hbox (by simp) (by simp) hh
    refine h.vecPoke htl e3 (by omega) hv ⟨he, (over_length cs off ps hle).trans hlen, .inr ⟨cap, e1, e2, fun o ho => ⟨(e3 o ho).1, ?_⟩, fun o c hc => ?_⟩⟩
    · by_cases hin : off ≤ o ∧ o < off + xs.length
      · have := World.cell?_setCells_in (g.β t) xs off w hcell (o - off) (by omega)
        rw [show off + (o - off) = o by omega] at this
        rw [this]; rfl
      · rw [World.cell?_setCells_out (g.β t) xs off w _ (fun _ _ => by simp only; omega)]; exact (e3 o ho).2
    · rw [over_get cs off ps hle] at hc
      by_cases hin : off ≤ o ∧ o < off + ps.length
      · rw [if_pos hin] at hc
        have hj : o - off < xs.length := by omega
        obtain ⟨h3, h4, h5⟩ := hp (o - off) c xs[o - off] hc (List.getElem?_eq_getElem hj)
        have := World.cell?_setCells_in (g.β t) xs off w hcell (o - off) hj
        rw [show off + (o - off) = o by omega] at this
        exact ⟨h3, h4, _, this, hmono h5⟩
      · rw [if_neg hin] at hc
        obtain ⟨h3, h4, x, hx, h5⟩ := e4 o c hc
        refine ⟨h3, h4, x, ?_, hmono h5⟩
        rw [World.cell?_setCells_out (g.β t) xs off w _ (fun _ _ => by simp only; omega)]; exact hx

/-- An object's cells, written. -/
theorem Rel.storeArr [VR : Vars] (h : Rel w0 ω0 w g st vs) {id off : Nat} {cs : List AVal} (hcs : st.H[id]? = some (.arr cs)) {ps : List AVal} {xs : List Value} (hl : xs.length = ps.length) (hle : off + ps.length ≤ cs.length)
    (hp : ∀ (j : Nat) c x, ps[j]? = some c → xs[j]? = some x → plain c = true ∧ Rep w g.I g.η st.H.length c x ∧ OwnHeap g.ω id (off + j) c x) :
    Rel w0 ω0 (w.setCells (g.η id) off xs) g { st with H := st.H.set id (.arr (over cs off ps)) } vs := by
  have hr := h.base.heap id _ hcs
  have hid := lt_of_some hcs
  have hown : ∀ j, j < xs.length → g.ω (g.η id) (off + j) = .h id := fun j hj => hr.1 _ (by omega)
  have hcell : ∀ j, j < xs.length → (w.cell? ⟨g.η id, off + j, none⟩).isSome = true := fun j hj => by
    obtain ⟨_, x, hx, _⟩ := hr.2 (off + j) cs[off + j] (List.getElem?_eq_getElem (by omega))
    rw [hx]; rfl
  by_cases hx0 : xs = []
  · subst hx0
    have : ps = [] := by simpa using hl.symm
    subst this
    have e : over cs off [] = cs := by simp [over]
    rw [e]
    have e2 : st.H.set id (.arr cs) = st.H := by
      apply List.ext_getElem?; intro j
      simp only [List.getElem?_set]
      by_cases hj : id = j
      · subst hj; rw [if_pos rfl, if_pos hid, hcs]
      · rw [if_neg hj]
    rw [e2]; exact h
  have hpos : 0 < xs.length := List.length_pos_iff.2 hx0
  refine h.write (fun q => q = .h id) (g.η id) off xs g (st.H.set id (.arr (over cs off ps))) st.ts vs hown (by simp) (by simp) (.inr ⟨off, id, by simpa using hown 0 hpos⟩) (fun _ _ _ => rfl) rfl rfl (fun _ _ _ => .inr (.inr (.inr rfl))) (by simp)
    (fun id' hh q hq => ?_) (fun id' hh => ?_) h.len (fun s' a v' h1 h2 => .inl ⟨h1, h2, by simp, by simp⟩) hcell (fun id' hh b o e => e) (fun id' hh => by
      cases hh
      exact ⟨fun i => by rw [hcs]; simp, fun m es t c => by rw [List.getElem?_set, if_pos rfl, if_pos hid]; simp⟩)
  · cases hh
    rw [List.getElem?_set, if_pos rfl, if_pos hid] at hq; cases hq
    simp only [List.length_set]
    refine ⟨fun o ho => hr.1 o (by rw [← over_length cs off ps hle]; exact ho), fun o c hc => ?_⟩
    rw [over_get cs off ps hle] at hc
    have hmono : ∀ {a : AVal} {v : Value}, Rep w g.I g.η st.H.length a v → Rep (w.setCells (g.η id) off xs) g.I g.η st.H.length a v := fun hh => Rep.write h (Y := fun q => q = .h id) hown (by simp) (by simp) hh
    by_cases hin : off ≤ o ∧ o < off + ps.length
    · rw [if_pos hin] at hc
      have hj : o - off < xs.length := by omega
      obtain ⟨h3, h4, h5⟩ := hp (o - off) c xs[o - off] hc (List.getElem?_eq_getElem hj)
      rw [show off + (o - off) = o by omega] at h5
      have := World.cell?_setCells_in (g.η id) xs off w hcell (o - off) hj
      rw [show off + (o - off) = o by omega] at this
      exact ⟨h3, _, this, hmono h4, h5⟩
    · rw [if_neg hin] at hc
      obtain ⟨h3, x, hx, h4, h5⟩ := hr.2 o c hc
      refine ⟨h3, x, ?_, hmono h4, h5⟩
      rw [World.cell?_setCells_out (g.η id) xs off w _ (fun _ _ => by simp only; omega)]; exact hx
  · rw [List.getElem?_set, if_neg (fun e => hh (by rw [e]))]

end
end Go.AM
