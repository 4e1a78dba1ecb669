/- Calls as a whole: what the machine's run answers, the Go function answers. -/
import Derived.Test.YtkkinfbipndfdaaAmO
set_option linter.unusedVariables false
set_option linter.unusedSimpArgs false
namespace Go.AM
open Go.RowKit

def readVar (tmps : Array Value) : ResultVar → Sem Value
  | .tmp t => pure (tmps.getD t undef)
  | .cell a t => do loadVar t (← asAddr (tmps.getD a undef))

theorem results_eq (fn : Func) (tmps : Array Value) : results fn tmps = (do let vs ← fn.results.mapM (readVar tmps); pure (if h : vs.size = 1 then vs[0] else .tuple vs)) := by
  unfold results
  congr 1

section
variable {R : Type} {P : Program} {E : Env} {w0 : World} {ω0 : Entry} {w : World} {g : Gh} {st : St} {vs : Array Value}

theorem resultOf_run [VR : Vars] (hT : TOk P E.T) (h : Rel w0 ω0 w g st vs) {q : ResultVar} {a : AVal} (hq : resultOf E st q = some a) : ∃ x, (readVar vs q).run P w = .ok x w ∧ Rep w g.I g.η st.H.length a x := by
  cases q with
  | tmp t =>
    simp only [resultOf] at hq
    obtain ⟨hp, hq⟩ := cond_some hq
    cases hq
    exact ⟨vs.getD t undef, rfl, ev_ne (x := .tmp t) h rfl (fun e => by rw [e] at hp; simp [plainAgg, plain] at hp) (fun s o e => by rw [e] at hp; simp [plainAgg, plain] at hp) (fun s o e => by rw [e] at hp; simp [plainAgg, plain] at hp)⟩
  | cell s t =>
    simp only [resultOf] at hq
    split at hq
    · rename_i i cs hi hcs
      obtain ⟨hb, hq⟩ := cond_some hq
      cases hq
      have hlen := Nat.eq_of_beq_eq_true hb
      have hTi := hT t i hi
      obtain ⟨e1, v, hv, hrs⟩ := h.boxAt hcs
      have hC := h.boxCells hcs 0 i.size (by omega)
      have hvv : vs.getD s undef = .pointer (some ⟨g.β s, 0, none⟩) := by
        simp [Array.getD_eq_getD_getElem?, hv, hrs.1]
      have hcs' : (cs.drop 0).take i.size = cs := by simp [hlen]
      rw [hcs'] at hC
      cases ha : i.agg with
      | true =>
        obtain ⟨X, h1, h2⟩ := load_agg hTi ha hC hlen.symm
        exact ⟨X, by simp only [readVar, hvv, asAddr, Sem.run_bind, Sem.run_pure, Result.andThen_ok, h1], by simpa using h2⟩
      | false =>
        have h1 := hTi.one ha
        obtain ⟨hp, X, hx, hr⟩ := hC 0 (cs.getD 0 .undef) (by simp [List.getD, List.getElem?_eq_getElem (show 0 < cs.length by omega)])
        simp only [Nat.add_zero] at hx
        exact ⟨X, by simp only [readVar, hvv, asAddr, Sem.run_bind, Sem.run_pure, Result.andThen_ok, load_one hTi ha hx], by simpa using hr.dis⟩
    · rename_i i id hi hcs
      split at hq
      · rename_i cs hobj
        obtain ⟨hb, hq⟩ := cond_some hq
        cases hq
        have hlen := Nat.eq_of_beq_eq_true hb
        have hTi := hT t i hi
        have hC := h.arrCells hobj 0 i.size (by omega)
        have hrp := ev_ne (x := .tmp s) h (show ev st.ts (.tmp s) = .href id 0 by simp only [ev, hcs, slotVal]) (by simp) (by simp)
        have hvv : vs.getD s undef = .pointer (some ⟨g.η id, 0, none⟩) := by
          have e : Act.eval ⟨vs, []⟩ (.tmp s) = vs.getD s undef := rfl
          rw [e] at hrp
          generalize vs.getD s undef = q at hrp
          cases hrp; rfl
        have hcs' : (cs.drop 0).take i.size = cs := by simp [hlen]
        rw [hcs'] at hC
        cases ha : i.agg with
        | true =>
          obtain ⟨X, h1, h2⟩ := load_agg hTi ha hC hlen.symm
          exact ⟨X, by simp only [readVar, hvv, asAddr, Sem.run_bind, Sem.run_pure, Result.andThen_ok, h1], by simpa using h2⟩
        | false =>
          have h1 := hTi.one ha
          obtain ⟨hp, X, hx, hr⟩ := hC 0 (cs.getD 0 .undef) (by simp [List.getD, List.getElem?_eq_getElem (show 0 < cs.length by omega)])
          simp only [Nat.add_zero] at hx
          exact ⟨X, by simp only [readVar, hvv, asAddr, Sem.run_bind, Sem.run_pure, Result.andThen_ok, load_one hTi ha hx], by simpa using hr.dis⟩
      · cases hq
    · cases hq

theorem resultsOf_run [VR : Vars] (hT : TOk P E.T) (h : Rel w0 ω0 w g st vs) : ∀ (rs : List ResultVar) (l : List AVal), resultsOf E st rs = some l →
    ∃ xs : List Value, (rs.mapM (readVar vs)).run P w = .ok xs w ∧ xs.length = l.length ∧ ∀ (j : Nat) a x, l[j]? = some a → xs[j]? = some x → Rep w g.I g.η st.H.length a x
  | [], l, hl => by
    simp only [resultsOf, Option.some.injEq] at hl; subst hl
    exact ⟨[], by simp, rfl, fun j a x h => by simp at h⟩
  | q :: rs, l, hl => by
    simp only [resultsOf] at hl
    split at hl
    · rename_i a as h1 h2
      cases hl
      obtain ⟨x, hx, hr⟩ := resultOf_run hT h h1
      obtain ⟨xs, hxs, hlen, hrs⟩ := resultsOf_run hT h rs as h2
      refine ⟨x :: xs, by simp [List.mapM_cons, hx, hxs], by simp [hlen], fun j a' x' h3 h4 => ?_⟩
      cases j with
      | zero => simp at h3 h4; subst h3; subst h4; exact hr
      | succ j => exact hrs j a' x' (by simpa using h3) (by simpa using h4)
    · cases hl

theorem pack_rep {I : Nat → Nat → Prop} {η : Nat → Nat} {N : Nat} {l : List AVal} {xs : List Value} (hl : xs.length = l.length) (h : ∀ (j : Nat) a x, l[j]? = some a → xs[j]? = some x → Rep w I η N a x) :
    Rep w I η N (pack l) (if hh : xs.toArray.size = 1 then xs.toArray[0] else .tuple xs.toArray) := by
  match l, xs, hl with
  | [], [], _ => exact .tuple [] #[] rfl (fun i c v h => by simp at h)
  | [a], [x], _ => exact h 0 a x rfl rfl
  | a :: b :: l, x :: y :: xs, hl =>
    have : ¬ ((x :: y :: xs).toArray.size = 1) := by simp
    rw [dif_neg this]
    exact .tuple (a :: b :: l) _ (by simpa using hl.symm) (fun i c v hc hv => h i c v hc (by simpa using hv))

/-- The owners as a call leaves them: its own arrays that it hands back are nobody's any more. -/
def leave (h0 : Nat) (ω : Nat → Nat → Owner) : Nat → Nat → Owner := fun b o => match ω b o with | .imm => .imm | .h id => if id < h0 then .h id else .imm | .ht id i => if id < h0 then .ht id i else .free | _ => .free

theorem leave_imm {h0 : Nat} {ω : Nat → Nat → Owner} {b o : Nat} (h : ω b o = .imm) : leave h0 ω b o = .imm := by unfold leave; rw [h]
theorem leave_h {h0 : Nat} {ω : Nat → Nat → Owner} {b o id : Nat} : leave h0 ω b o = .h id ↔ ω b o = .h id ∧ id < h0 := by
  unfold leave; split
  · rename_i e; rw [e]; simp
  · rename_i id' e
    rw [e]
    by_cases hh : id' < h0
    · rw [if_pos hh]; constructor
      · intro he; cases he; exact ⟨rfl, hh⟩
      · rintro ⟨he, _⟩; cases he; rfl
    · rw [if_neg hh]; constructor
      · intro he; cases he
      · rintro ⟨he, h2⟩; cases he; exact absurd h2 hh
  · rename_i id' i e
    rw [e]
    constructor
    · intro he; split at he <;> cases he
    · rintro ⟨he, _⟩; cases he
  · rename_i h1 h2 h3
    constructor
    · intro he; cases he
    · rintro ⟨he, _⟩; exact absurd he (h2 id)
theorem leave_ht {h0 : Nat} {ω : Nat → Nat → Owner} {b o id i : Nat} : leave h0 ω b o = .ht id i ↔ ω b o = .ht id i ∧ id < h0 := by
  unfold leave
  cases e : ω b o with
  | imm => simp
  | h id' => simp only; split <;> simp
  | ht id' i' =>
    simp only
    by_cases hh : id' < h0
    · rw [if_pos hh]; constructor
      · intro he; cases he; exact ⟨rfl, hh⟩
      · rintro ⟨he, _⟩; exact he
    · rw [if_neg hh]; constructor
      · intro he; cases he
      · rintro ⟨he, h2⟩; cases he; exact absurd h2 hh
  | _ => simp

theorem Rep.low0 {w : World} {I : Nat → Nat → Prop} {η : Nat → Nat} {N h0 : Nat} {a : AVal} {v : Value} (h : Rep w I η N a v) (hl : refLow0 h0 a = true) : Rep w I η h0 a v := by
  cases h with
  | map id h => exact .map id (by simpa [refLow0, Nat.blt_eq] using hl)
  | href id off h => exact .href id off (by simpa [refLow0, Nat.blt_eq] using hl)
  | mslice id off n esz ag cap h hc hag => exact .mslice id off n esz ag cap (by simpa [refLow0, Nat.blt_eq] using hl) hc hag
  | yld id h => exact .yld id (by simpa [refLow0, Nat.blt_eq] using hl)
  | err t v => exact .err t v
  | agg cs vs hl2 hr hp => simp [refLow0, AM.noRef] at hl
  | tuple cs vs hl2 hr => simp [refLow0, AM.noRef] at hl
  | rptr c b o vals hp ha hr => simp [refLow0, AM.noRef] at hl
  | iface t a v hr => simp [refLow0, AM.noRef] at hl
  | func f cs vs hl2 hr => exact (Rep.func f cs vs hl2 hr).noRef η h0 (noRef_agg hl)
  | slice sp esz n f ad cap vals hc hx hn ha hl2 hp hr => exact (Rep.slice sp esz n f ad cap vals hc hx hn ha hl2 hp hr).noRef η h0 rfl
  | bool b => exact .bool b
  | int k n => exact .int k n
  | str s => exact .str s
  | nilIface => exact .nilIface
  | nilFunc => exact .nilFunc
  | nilMap => exact .nilMap
  | nilPtr => exact .nilPtr
theorem Rep.low {w : World} {I : Nat → Nat → Prop} {η : Nat → Nat} {N h0 : Nat} {a : AVal} {v : Value} (h : Rep w I η N a v) (hl : refLow h0 a = true) : Rep w I η h0 a v := by
  cases a with
  | func f caps =>
    cases h with
    | func _ _ vs hl2 hr =>
      refine .func f caps vs hl2 (fun i c v hc hv => ?_)
      have := List.all_eq_true.1 hl c (List.mem_of_getElem? hc)
      simp only [Bool.or_eq_true] at this
      rcases this with h1 | h1
      · exact (hr i c v hc hv).low0 h1
      · exact (hr i c v hc hv).noRefArg η h0 (by simp [AM.noRefArg, h1])
  | _ => exact h.low0 hl

theorem Rep.freeze1 [VR : Vars] (h : Rel w0 ω0 w g st vs) {h0 : Nat} {a : AVal} {v : Value} (hr : Rep w g.I g.η st.H.length a v) (hn : AM.noRef (AM.freeze1 st.H a) = true) (hok : ∀ b ∈ frz1 h0 st.H a, b = true) :
    Rep w (fun b o => leave h0 g.ω b o = .imm) g.η st.H.length (AM.freeze1 st.H a) v := by
  cases a with
  | mslice id off n esz ag =>
    simp only [AM.freeze1, frz1] at hn hok ⊢
    split
    · rename_i cs hcs
      rw [hcs] at hn hok
      simp only at hn hok
      have hb := hok _ (List.mem_singleton.2 rfl)
      simp only [Bool.and_eq_true] at hb
      obtain ⟨hid0, hle, hnr⟩ := hb
      have hid0 := Nat.le_of_ble_eq_true hid0
      have hle := Nat.le_of_ble_eq_true hle
      cases hr with
      | mslice _ _ _ _ _ cap hid hc hag =>
        have hobj := h.base.heap id _ hcs
        have hcp : ∀ c ∈ cs, plain c = true := fun c hc => by
          obtain ⟨j, hj, e⟩ := List.getElem_of_mem hc
          exact (hobj.2 j c (by rw [List.getElem?_eq_getElem hj, e])).1
        have hil : ∀ i, i < n → off + i * esz + esz ≤ cs.length := fun i hi => by
          have : (i + 1) * esz ≤ n * esz := Nat.mul_le_mul_right esz hi
          rw [Nat.succ_mul] at this; omega
        have hval : ∀ q, q < cs.length → ∃ x, w.cell? ⟨g.η id, q, none⟩ = some x ∧ Rep w g.I g.η st.H.length (cs.getD q .undef) x := fun q hq => by
          obtain ⟨_, x, h6, h7⟩ := hobj.2 q (cs.getD q .undef) (by simp [List.getD, List.getElem?_eq_getElem hq])
          exact ⟨x, h6, h7.1⟩
        refine .slice .shared esz n _ _ cap (fun i j => (w.cell? ⟨g.η id, off + i * esz + j, none⟩).getD undef) hc (by simp) (by simp) (fun hpos => ⟨g.η id, off, rfl, fun i hi j hj => ?_⟩) (fun i hi => ?_) (fun i hi => ?_) (fun i hi j c hcc => ?_)
        · have := hil i hi
          refine ⟨?_, ?_⟩
          · have e := hobj.1 (off + i * esz + j) (by omega)
            show leave h0 g.ω _ _ = _
            unfold leave; rw [e]; simp only; rw [if_neg (by omega)]
          · obtain ⟨x, h6, _⟩ := hval (off + i * esz + j) (by omega)
            rw [h6]; rfl
        · rw [(mkElem_cells hag (hil i hi) hcp).1]
          have := hil i hi
          simp; omega
        · exact ⟨(mkElem_cells hag (hil i hi) hcp).2, mkElem_noRef hag (hil i hi) (List.all_eq_true.1 hnr)⟩
        · have := hil i hi
          rw [(mkElem_cells hag (hil i hi) hcp).1] at hcc
          have hj := lt_of_some hcc
          simp only [List.length_take, List.length_drop] at hj
          rw [List.getElem?_take_of_lt (by omega), List.getElem?_drop] at hcc
          obtain ⟨x, h6, h7⟩ := hval (off + i * esz + j) (by omega)
          have he : cs.getD (off + i * esz + j) .undef = c := by simp [List.getD, hcc]
          rw [he] at h7
          rw [h6]; exact h7.sub (fun b o hb => leave_imm hb)
    · rename_i hne
      exfalso
      split at hn
      · rename_i cs hcs; exact hne cs hcs
      · simp [AM.noRef] at hn
  | _ => exact hr.sub (fun b o hb => leave_imm hb)

theorem noRefAgg_of {a : AVal} (h1 : ∀ cs, a ≠ .agg cs) (h : AM.noRefAgg a = true) : AM.noRef a = true := by
  cases a <;> first | exact h | exact absurd rfl (h1 _)

theorem plain_freeze1 (H : List HObj) {a : AVal} (hn : AM.noRef (freeze1 H a) = true) : plain (freeze1 H a) = true := by
  cases hh : freeze1 H a <;> rw [hh] at hn <;> first | rfl | (simp [AM.noRef] at hn; done)

theorem Rep.freeze [VR : Vars] (h : Rel w0 ω0 w g st vs) {h0 : Nat} {a : AVal} {v : Value} (hr : Rep w g.I g.η st.H.length a v) (hn : AM.noRefAgg (AM.freeze st.H a) = true) (hok : ∀ b ∈ frz h0 st.H a, b = true) :
    Rep w (fun b o => leave h0 g.ω b o = .imm) g.η st.H.length (AM.freeze st.H a) v := by
  cases a with
  | agg cs =>
    cases hr with
    | agg _ xs hl hrr hp =>
      simp only [AM.freeze, AM.noRefAgg] at hn ⊢
      have hn' := noRef_mem hn
      refine .agg _ xs (by simpa using hl) (fun i c v hc hv => ?_) (fun c hc => ?_)
      · simp only [List.getElem?_map, Option.map_eq_some_iff] at hc
        obtain ⟨c0, hc0, rfl⟩ := hc
        exact Rep.freeze1 h (hrr i c0 v hc0 hv) (hn' _ (List.mem_map.2 ⟨c0, List.mem_of_getElem? hc0, rfl⟩)) (fun b hb => hok b (List.mem_flatMap.2 ⟨c0, List.mem_of_getElem? hc0, hb⟩))
      · obtain ⟨c0, h3, rfl⟩ := List.mem_map.1 hc
        exact plain_freeze1 _ (hn' _ hc)
  | mslice id off n esz ag =>
    refine Rep.freeze1 h hr ?_ hok
    refine noRefAgg_of (fun cs e => ?_) hn
    simp only [AM.freeze, AM.freeze1] at e
    split at e <;> cases e
  | _ => exact hr.sub (fun b o hb => leave_imm hb)

/-- What is behind a call, as its caller sees it. -/
theorem Rel.post [VR : Vars] {H0 : List HObj} (h : Rel w0 ω0 w g st vs) (hpre : Pre w0 ω0.ω ω0.η H0) (hn0 : ω0.n = H0.length) {a : AVal} {v : Value} : 
    (Owned w0 (down g.ω) w a v → Rep w (fun b o => down g.ω b o = .imm) g.η st.H.length a v → Post w0 ω0.ω ω0.η H0 w (down g.ω) g.η st.H a v) ∧
    ((st.H.take H0.length).all (objLow H0.length) = true → Owned w0 (leave H0.length g.ω) w a v → Rep w (fun b o => leave H0.length g.ω b o = .imm) g.η H0.length a v → Post w0 ω0.ω ω0.η H0 w (leave H0.length g.ω) g.η (st.H.take H0.length) a v) := by
  have hold := h.old
  rw [hn0] at hold
  refine ⟨fun how hr => ⟨h.pre, hr, hold.1, hold.2, fun b hb o => ⟨fun hno => ?_, fun id hh => (h.past b hb o).2 id (down_h.1 hh)⟩, h.keeps, how⟩, fun hall how hr => ?_⟩
  · have e := (h.past b hb o).1 hno
    rcases hpre.none b o with e2 | e2 | ⟨id, e2⟩ | ⟨id, i, e2⟩
    · rw [e2] at e ⊢; unfold down; rw [e]
    · rw [e2] at e ⊢; unfold down; rw [e]
    · rw [e2] at e ⊢; unfold down; rw [e]
    · exact absurd e2 (hno _ _)
  · have hlen : (st.H.take H0.length).length = H0.length := by rw [List.length_take]; exact Nat.min_eq_left hold.1
    have hfree : ∀ b o, leave H0.length g.ω b o ≠ .free → g.ω b o ≠ .free := fun b o hb e => hb (by unfold leave; rw [e])
    have himm : ∀ {a : AVal} {v : Value}, Rep w (fun b o => g.ω b o = .imm) g.η H0.length a v → Rep w (fun b o => leave H0.length g.ω b o = .imm) g.η H0.length a v := fun hh => hh.sub (fun b o hb => leave_imm hb)
    refine ⟨⟨⟨fun id o ho => ?_, fun b o hb => h.base.live b o (hfree b o hb), fun b o h1 h2 h3 => ?_, fun b o hb => ?_, fun b o o' id hb => ?_, fun b o id hb => ?_, h.base.lock.take _⟩, fun b o => ?_, h.keeps.varsOk (fun b hb o hno => by
      have e := (h.past b hb o).1 hno
      rcases hpre.none b o with e2 | e2 | ⟨id, e2⟩ | ⟨id, i, e2⟩
      · rw [e2] at e; unfold leave; rw [e, e2]; exact .inl rfl
      · rw [e2] at e; unfold leave; rw [e, e2]; exact .inl rfl
      · have := hpre.low b o id (.inl e2)
        rw [e2] at e; exact .inl ((leave_h.2 ⟨e, this⟩).trans e2.symm)
      · exact absurd e2 (hno _ _))⟩, by rw [hlen]; exact hr, by rw [hlen]; exact Nat.le_refl _, fun id hid => hold.2 id hid, fun b hb o => ⟨fun hno => ?_, fun id hh => (h.past b hb o).2 id (leave_h.1 hh).1⟩, h.keeps, how⟩
    · have hid : id < H0.length := by have := lt_of_some ho; rw [hlen] at this; exact this
      have ho' : st.H[id]? = some o := by rwa [List.getElem?_take_of_lt hid] at ho
      have hnr := List.all_eq_true.1 hall o (List.mem_of_getElem? ho)
      have hrr := h.base.heap id o ho'
      rw [hlen]
      cases o with
      | arr cs =>
        refine ⟨fun o ho => leave_h.2 ⟨hrr.1 o ho, hid⟩, fun o c hc => ?_⟩
        obtain ⟨h1, x, h2, h3, h4⟩ := hrr.2 o c hc
        refine ⟨h1, x, h2, himm (h3.low (List.all_eq_true.1 hnr c (List.mem_of_getElem? hc))), fun e n f he => ?_⟩
        obtain ⟨ad, cap, h5, h6⟩ := h4 e n f he
        refine ⟨ad, cap, h5, fun j h7 h8 => ?_⟩
        obtain ⟨b, o', h9, h10⟩ := h6 j h7 h8
        exact ⟨b, o', h9, leave_ht.2 ⟨h10, hid⟩⟩
      | map es =>
        obtain ⟨h1, ents, clock, h2, h3, h4⟩ := hrr
        refine ⟨leave_h.2 ⟨h1, hid⟩, ents, clock, h2, h3, fun i k x e he hi => ?_⟩
        obtain ⟨a, b, c, d⟩ := h4 i k x e he hi
        have hkx := List.all_eq_true.1 hnr (k, x) (List.mem_of_getElem? he)
        simp only [Bool.and_eq_true] at hkx
        exact ⟨(a.noRef _ _ (by have := hkx.1; cases k <;> first | exact this | (simp [AM.noRef] at this))).sub (fun b o hb => leave_imm hb), (b.noRef _ _ hkx.2).sub (fun b o hb => leave_imm hb), c, d⟩
      | iter m es t c => cases hnr
      | locked i => exact leave_h.2 ⟨hrr, hid⟩
      | dfr => exact ⟨leave_h.2 ⟨hrr.1, hid⟩, hrr.2⟩
      | bld T e s => exact ⟨fun o => leave_h.2 ⟨hrr.1 o, hid⟩, hrr.2.1, fun q n cap hc o => leave_h.2 ⟨hrr.2.2 q n cap hc o, hid⟩⟩
      | loop L ts s =>
        obtain ⟨h1, fn, vs, D, h2, h3, h4⟩ := hrr
        refine ⟨leave_h.2 ⟨h1, hid⟩, fn, vs, D, h2, h3, fun i a v ha hv => ?_⟩
        have hc := List.all_eq_true.1 hnr a (List.mem_of_getElem? ha)
        simp only [Bool.or_eq_true] at hc
        rcases h4 i a v ha hv with e | hr
        · exact .inl e
        · rcases hc with e | e | e
          · left; cases a <;> first | rfl | (cases e; done)
          · exact .inr (himm (hr.low e))
          · exact .inr (himm (hr.noRefArg g.η H0.length e))
    · by_cases e : g.ω b o = .imm
      · exact absurd (leave_imm e) h2
      · exact h.base.soft b o (hfree b o h1) e (fun id e2 => by
          by_cases hlt : id < H0.length
          · exact h3 id (leave_h.2 ⟨e2, hlt⟩)
          · exact absurd (show leave H0.length g.ω b o = .imm by unfold leave; rw [e2]; simp only; rw [if_neg hlt]) h2)
    · rcases hb with ⟨s, i, hb⟩ | ⟨id, i, hb⟩
      · unfold leave at hb
        split at hb
        · cases hb
        · split at hb <;> cases hb
        · split at hb <;> cases hb
        · cases hb
      · exact h.base.tail b o (.inr ⟨id, i, (leave_ht.1 hb).1⟩)
    · obtain ⟨h1, h2⟩ := leave_h.1 hb
      rcases h.base.sep b o o' id h1 with e | e
      · exact .inl (leave_h.2 ⟨e, h2⟩)
      · right; unfold leave; rw [e]
    · rw [hlen]
      rcases hb with hb | ⟨i, hb⟩
      · exact (leave_h.1 hb).2
      · exact (leave_ht.1 hb).2
    · unfold leave; split
      · exact .inr (.inl rfl)
      · split
        · exact .inr (.inr (.inl ⟨_, rfl⟩))
        · exact .inr (.inl rfl)
      · split
        · exact .inr (.inr (.inr ⟨_, _, rfl⟩))
        · exact .inl rfl
      · exact .inl rfl
    · have e := (h.past b hb o).1 hno
      rcases hpre.none b o with e2 | e2 | ⟨id, e2⟩ | ⟨id, i, e2⟩
      · rw [e2] at e ⊢; unfold leave; rw [e]
      · rw [e2] at e ⊢; unfold leave; rw [e]
      · have := hpre.low b o id (.inl e2)
        rw [e2] at e ⊢; exact leave_h.2 ⟨e, this⟩
      · exact absurd e2 (hno _ _)

end

/-- A function of the table, held against the program's. -/
structure FunOk (P : Program) (f : FuncId) (fn : Fun) : Prop where
  ok : ∃ F : Func, P.funcs[f]? = some F ∧ (F.name == "runtime.NumGoroutine") = false ∧ F.body = some fn.body ∧ F.ntmps = fn.ntmps ∧ F.results.toList = fn.results

theorem FunOk.callable {P : Program} {f : FuncId} {fn : Fun} (h : FunOk P f fn) : Callable P f := by
  obtain ⟨F, h1, h2, h3, _⟩ := h.ok
  exact ⟨F, h1, h2, by rw [h3]; rfl⟩

theorem zip_get {α β : Type} {l : List α} {m : List β} {i : Nat} {p : α × β} (h : (l.zip m)[i]? = some p) : l[i]? = some p.1 := by
  rw [List.getElem?_zip_eq_some] at h; exact h.1

theorem pack_noRef {l : List AVal} (h : l.all noRefAgg = true) : noRefAll (pack l) = true := by
  match l with
  | [] => rfl
  | [a] =>
    have ha := List.all_eq_true.1 h a (by simp)
    simp only [pack]
    cases a <;> first | exact ha | (simp [noRefAgg, noRef] at ha)
  | a :: b :: l => exact h

theorem asks_den {R : Type} {C : FuncId → List AVal → List HObj → AVal → List HObj → Prop} {t : Tree R} {r : R} : ∀ {l : List Bool}, Den C (asks l t) r → (∀ b ∈ l, b = true) ∧ Den C t r
  | [], h => ⟨fun b hb => by simp at hb, h⟩
  | b :: l, h => by
    obtain ⟨hb, h⟩ := Den.chk (t := asks l t) h
    obtain ⟨h1, h2⟩ := asks_den h
    exact ⟨fun x hx => by rcases List.mem_cons.1 hx with e | e; exact e ▸ hb; exact h1 x e, h2⟩

theorem hand_den {R : Type} {E : Env} {C : FuncId → List AVal → List HObj → AVal → List HObj → Prop} {v : AVal} {k : AVal → Tree R} {r : R} (h : Den C (hand E v k) r) : ∃ v', SameV v v' ∧ Den C (k v') r := by
  unfold hand at h
  cases hb : E.hint.eqr <;> rw [hb] at h
  · exact ⟨v, .refl v, h⟩
  · exact h.sameInv

theorem Rep.toOwn {w : World} {I : Nat → Nat → Prop} {η : Nat → Nat} {N : Nat} {a : AVal} {v : Value} (h : Rep w I η N a v) : Rep w I η N (AM.toOwn a) v := by
  cases h with
  | slice sp esz n f ad cap vals hc hx hn ha hl hp hr => exact .slice .own esz n f ad cap vals hc (by simp) (by simp) ha hl hp hr
  | bool b => exact .bool b
  | int k n => exact .int k n
  | str s => exact .str s
  | nilIface => exact .nilIface
  | nilFunc => exact .nilFunc
  | nilMap => exact .nilMap
  | nilPtr => exact .nilPtr
  | func f cs vs hl hr => exact .func f cs vs hl hr
  | agg cs vs hl hr hp => exact .agg cs vs hl hr hp
  | tuple cs vs hl hr => exact .tuple cs vs hl hr
  | rptr c b o vals hp ha hr => exact .rptr c b o vals hp ha hr
  | map id h => exact .map id h
  | href id off h => exact .href id off h
  | mslice id off n esz ag cap h hc hag => exact .mslice id off n esz ag cap h hc hag
  | iface t a v hr => exact .iface t a v hr
  | yld id h => exact .yld id h
  | err t v => exact .err t v
theorem Rep.sliceVal {w : World} {I : Nat → Nat → Prop} {η : Nat → Nat} {N : Nat} {sp : Spare} {e n : Nat} {f : Nat → AVal} {v : Value} (h : Rep w I η N (.slice sp e n f) v) : ∃ ad cap, v = .slice ad n cap ∧ (sp = .exact → cap = n) ∧ (sp = .nil → ad = none ∧ cap = 0) := by
  cases h with
  | slice _ _ _ _ ad cap vals hc hx hn ha hl hp hr => exact ⟨ad, cap, rfl, hx, hn⟩
theorem isOwn_same {a b : AVal} (h : SameV a b) (ha : isOwn a = false) : isOwn b = false := by
  cases h with
  | refl => exact ha
  | slice sp => cases sp <;> first | exact ha | rfl
  | _ => rfl
theorem isOwn_canon (ti : Option TI) (T : TypeId → Option TI) (a : AVal) : isOwn (canon ti T a) = false := by
  cases a with
  | slice sp e n f =>
    show isOwn (canon1 ti T (.slice sp e n f)) = false
    cases sp with
    | nil => 
      simp only [canon1]
      split
      · split
        · cases Nat.beq n 0 <;> rfl
        · rfl
      · rfl
    | _ => rfl
  | _ => rfl
theorem isOwn_freeze (H : List HObj) (a : AVal) (h : isOwn a = false) : isOwn (freeze H a) = false := by
  cases a with
  | mslice => simp only [freeze, freeze1]; split <;> rfl
  | agg => rfl
  | _ => exact h
theorem isOwn_outs {E : Env} {kp : Keep} {H : List HObj} {l : List AVal} {ts : List TypeId} (hk : (match kp with | .own => false | _ => true) = true) (hl : True) : isOwn (pack (outs E kp H l ts)) = false := by
  unfold outs
  generalize hz : l.zip ts = z
  match z with
  | [] => rfl
  | [p] =>
    show isOwn (canonR E.T kp H p.2 p.1) = false
    cases kp with
    | drop => exact isOwn_freeze _ _ (isOwn_canon _ _ _)
    | keep => exact isOwn_canon _ _ _
    | clip => exact isOwn_dis _
    | own => cases hk
  | p :: q :: z => rfl

theorem heapAsks_spec {h0 : Nat} {H : List HObj} (h : ∀ b ∈ heapAsks h0 H, b = true) : (H.take h0).all (objLow h0) = true := by
  cases h0 with
  | zero => simp
  | succ n => exact h _ (List.mem_singleton.2 rfl)

theorem canon1_slice {ti : Option TI} {T : TypeId → Option TI} {sp : Spare} {e n : Nat} {f : Nat → AVal} : ∃ e' n' f', canon1 ti T (.slice sp e n f) = .slice .shared e' n' f' := by
  cases sp with
  | nil =>
    simp only [canon1]
    split
    · split
      · cases Nat.beq n 0
        · exact ⟨_, _, _, rfl⟩
        · exact ⟨_, _, _, rfl⟩
      · exact ⟨_, _, _, rfl⟩
    · exact ⟨_, _, _, rfl⟩
  | _ => exact ⟨_, _, _, rfl⟩
theorem frz1_canon1 {h0 : Nat} {H : List HObj} {ti : Option TI} {T : TypeId → Option TI} {a : AVal} : frz1 h0 H (canon1 ti T a) = frz1 h0 H a := by
  cases a with
  | slice sp e n f =>
    obtain ⟨e', n', f', h⟩ := canon1_slice (ti := ti) (T := T) (sp := sp) (e := e) (n := n) (f := f)
    rw [h]; rfl
  | _ => rfl
theorem frz_canon {h0 : Nat} {H : List HObj} {ti : Option TI} {T : TypeId → Option TI} {a : AVal} {b : Bool} (h : b ∈ frz h0 H (canon ti T a)) : b ∈ frz h0 H a := by
  cases a with
  | agg cs =>
    simp only [canon, frz] at h ⊢
    obtain ⟨c, hc, hb⟩ := List.mem_flatMap.1 h
    obtain ⟨c0, hc0, rfl⟩ := List.mem_map.1 hc
    rw [frz1_canon1] at hb
    exact List.mem_flatMap.2 ⟨c0, hc0, hb⟩
  | slice sp e n f =>
    exfalso
    have h1 : canon ti T (.slice sp e n f) = canon1 ti T (.slice sp e n f) := rfl
    obtain ⟨e', n', f', h2⟩ := canon1_slice (ti := ti) (T := T) (sp := sp) (e := e) (n := n) (f := f)
    rw [h1, h2] at h
    simp [frz, frz1] at h
  | _ => exact h

/-- The blocks of the deferred calls are handed over. -/
theorem unmark_sound [VR : Vars] {P : Program} {F : Func} {w0 : World} {vs : Array Value} {nn : Nat} {RR : Ending → World → Prop} {ω0 : Entry} {st' : St} : ∀ (ms : List Nat) (st : St) (ds : List Deferred) (w : World) (g : Gh), Rel w0 ω0 w g st vs → Marks ω0 ms ds → unmark ms st = some st' →
    (∀ w' g', Rel w0 ω0 w' g' st' vs → LeavesIn (Fc none) nn P F vs RR [] .returning w') → LeavesInM (Fc none) nn P F vs RR ds .returning w
  | [], st, ds, w, g, h, hm, hu, hn => by
    have : ds = [] := hm.2
    subst this
    simp only [unmark, Option.some.injEq] at hu
    subst hu
    exact hn w g (h.ms [])
  | m :: l, st, ds, w, g, h, hm, hu, hn => by
    have hd := hm.2
    simp only [List.map_cons] at hd
    subst hd
    simp only [unmark] at hu
    split at hu
    · rename_i hq
      obtain ⟨h1, h2⟩ := h.base.heap m _ hq
      have hη : ω0.η m = g.η m := (h.old.2 m (hm.1 m (by simp))).symm
      refine ⟨by simp, .inl ⟨ω0.η m, _, rfl, by rw [hη]; exact run_takeDeferred h2, ?_⟩⟩
      refine unmark_sound l _ _ _ g (h.turn (q' := .locked 0) (ob' := .deferred none) hq h2 (fun _ _ _ e => by cases e) (fun _ _ _ e => by cases e) h1 (fun i e => by cases e) (fun _ _ _ _ e => by cases e) (fun w' _ _ _ => h1)) ⟨fun x hx => hm.1 x (by simp [hx]), rfl⟩ hu hn
    · cases hu

theorem enter_sound [VR : Vars] {P : Program} {E : Env} {C : FuncId → List AVal → List HObj → AVal → List HObj → Prop} (hE : EnvOk P E C) {n : Nat} {f : FuncId} {fn : Fun} (hF : FunOk P f fn) : Sound P f (fun args H r H' => Den C (enter E n fn args H) (r, H')) := by
  intro args H r H' hrun vals w ω η hpre hargs
  obtain ⟨F, hF1, hF2, hF3, hF4, hF5⟩ := hF.ok
  have hR : Rel w ⟨ω, η, H.length⟩ w ⟨ω, η, fun _ => 0⟩ { ts := args.map dis ++ List.replicate (fn.ntmps - args.length) .undef, H := H } (vals ++ Array.replicate (F.ntmps - vals.size) undef) := by
    refine ⟨hpre.toBase, by simp [hF4, hargs.len], fun s a v h1 h2 => ?_, fun b o hb => ?_, fun b hb o => ⟨fun _ => rfl, fun _ h => h⟩, Keeps.refl _ _ hpre.vars, ⟨Nat.le_refl _, fun _ _ => rfl⟩⟩
    · by_cases hs : s < args.length
      · rw [List.getElem?_append_left (by simpa using hs)] at h1
        rw [Array.getElem?_append_left (by rw [hargs.len]; exact hs)] at h2
        simp only [List.getElem?_map, Option.map_eq_some_iff] at h1
        obtain ⟨a0, ha0, rfl⟩ := h1
        exact (hargs.rep s a0 v ha0 h2).dis.ev.slot (isOwn_dis _)
      · rw [List.getElem?_append_right (by simp; omega)] at h1
        have := List.mem_of_getElem? h1
        simp only [List.mem_replicate] at this
        rw [this.2]; trivial
    · rcases hpre.none b o with e | e | ⟨id, e⟩ | ⟨id, i, e⟩ <;> (rcases hb with ⟨s, h⟩ | ⟨s, i, h⟩ <;> (simp only at h; rw [e] at h; cases h))
  refine (callsIn_wide (n := 0)).1 (callsIn_of_wp_marks (F := Fc none) hF1 hF3 trivial (exec_sound hE (ρ := none) (fun _ => rfl) fn.body _ _ w _ _ _ ⟨ω, η, H.length⟩ [] hR ⟨fun m hm => by simp [start] at hm, rfl⟩ hrun (fun e w' g' st' vs' ω0' ds' hx hR' hm hk => ?_)))
  have hfin : ∀ (st' : St) (w' : World) (g' : Gh), Rel w ω0' w' g' st' vs' → Den C (finish E fn H.length st') (r, H') → LeavesIn (Fc none) 0 P F vs' (fun e w' => ∃ v ω' η', e = .returned v ∧ Post w ω η H w' ω' η' H' r v) [] .returning w' := by
    intro st' w' g' hR0 hk
    have hR' := hR0.shrink hx
    show ∃ v, (results F vs').run P w' = .ok v w' ∧ ∃ v' ω' η', Ending.returned v = .returned v' ∧ Post w ω η H w' ω' η' H' r v'
    unfold finish at hk
    split at hk
    · rename_i l hl
      obtain ⟨hb, hk⟩ := cond_den hk
      obtain ⟨xs, hxs, hlen, hrep⟩ := resultsOf_run hE.T hR' fn.results l hl
      have hres : (results F vs').run P w' = .ok (if hh : xs.toArray.size = 1 then xs.toArray[0] else .tuple xs.toArray) w' := by
        rw [results_eq, Array.mapM_eq_mapM_toList, hF5]
        simp only [Sem.run_bind, Sem.run_map, hxs, Result.andThen_ok, Sem.run_pure]
      refine ⟨_, hres, ?_⟩
      obtain ⟨hp1, hp2⟩ := Rel.post (H0 := H) (a := r) (v := (if hh : xs.toArray.size = 1 then xs.toArray[0] else .tuple xs.toArray)) hR' hpre rfl
      have hzl : ∀ kp, xs.length = (outs E kp st'.H l fn.types).length := fun kp => by
        have := Nat.eq_of_beq_eq_true hb
        unfold outs
        rw [List.length_map, List.length_zip, hlen]; omega
      have hget : ∀ kp (j : Nat) a x, (outs E kp st'.H l fn.types)[j]? = some a → xs[j]? = some x → ∃ a0 t, a0 ∈ l ∧ a = canonR E.T kp st'.H t a0 ∧ Rep w' g'.I g'.η st'.H.length a0 x := fun kp j a x h1 h2 => by
        unfold outs at h1
        simp only [List.getElem?_map, Option.map_eq_some_iff] at h1
        obtain ⟨p, hp, rfl⟩ := h1
        exact ⟨p.1, p.2, List.mem_of_getElem? (zip_get hp), rfl, hrep j p.1 x (zip_get hp) h2⟩
      split at hk
      · obtain ⟨r', hs, hk⟩ := hand_den hk
        cases hk
        refine ⟨_, _, _, rfl, hp1 (.of_not (isOwn_same hs (isOwn_outs rfl (by simp)))) (Rep.same hs (pack_rep (hzl _) (fun j a x h1 h2 => ?_)))⟩
        obtain ⟨a0, t, _, rfl, hr0⟩ := hget _ j a x h1 h2
        exact (hr0.canon (E.T t) E.T).sub (fun b o hb => down_imm.2 hb)
      · obtain ⟨hnr, hk⟩ := cond_den hk
        obtain ⟨hfz, hk⟩ := asks_den hk
        obtain ⟨hall, hk⟩ := asks_den hk
        obtain ⟨r', hs, hk⟩ := hand_den hk
        cases hk
        refine ⟨_, _, _, rfl, hp2 (heapAsks_spec hall) (.of_not (isOwn_same hs (isOwn_outs rfl (by simp)))) (Rep.same hs ?_)⟩
        have hnr' := List.all_eq_true.1 hnr
        refine Rep.noRefAll (pack_rep (η := g'.η) (N := st'.H.length) (hzl _) (fun j a x h1 h2 => ?_)) _ _ (pack_noRef hnr)
        have hna := hnr' a (List.mem_of_getElem? h1)
        obtain ⟨a0, t, hm, rfl, hr0⟩ := hget _ j a x h1 h2
        refine Rep.freeze hR' (hr0.canon (E.T t) E.T) hna (fun b hb => hfz b (List.mem_flatMap.2 ⟨a0, hm, ?_⟩))
        exact frz_canon hb
      · obtain ⟨hnr, hk⟩ := cond_den hk
        obtain ⟨hall, hk⟩ := asks_den hk
        obtain ⟨r', hs, hk⟩ := hand_den hk
        cases hk
        refine ⟨_, _, _, rfl, hp2 (heapAsks_spec hall) (.of_not (isOwn_same hs (isOwn_outs rfl (by simp)))) (Rep.same hs ?_)⟩
        have hnr' := List.all_eq_true.1 hnr
        refine Rep.noRefAll (pack_rep (η := g'.η) (N := st'.H.length) (hzl _) (fun j a x h1 h2 => ?_)) _ _ (pack_noRef hnr)
        obtain ⟨a0, t, hm, rfl, hr0⟩ := hget _ j a x h1 h2
        exact hr0.dis.sub (fun b o hb => leave_imm hb)
      · split at hk
        · rename_i s a t hrs hl1 hl2
          obtain ⟨hnr, hk⟩ := cond_den hk
          simp only [Bool.and_eq_true] at hnr
          have h0 := Nat.eq_of_beq_eq_true hnr.1
          obtain ⟨r', hs, hk⟩ := hand_den hk
          cases hk
          obtain ⟨x, rfl⟩ : ∃ x, xs = [x] := by
            match xs, hlen with
            | [x], _ => exact ⟨x, rfl⟩
          have hx := hrep 0 a x rfl rfl
          have hcr : Rep w' g'.I g'.η st'.H.length (canonR E.T .own st'.H t a) x := by
            unfold canonR; simp only
            split
            · exact hx
            · exact hx.toOwn
            · exact (hx.canon (E.T t) E.T).toOwn
            · exact hx.canon (E.T t) E.T
          have hown : Owned w (leave 0 g'.ω) w' r x := by
            intro e n f he
            subst he
            have hc : ∃ f', canonR E.T .own st'.H t a = .slice .own e n f' := by
              generalize canonR E.T .own st'.H t a = q at hs
              cases hs with
              | refl => exact ⟨f, rfl⟩
              | slice _ _ _ f0 _ _ => exact ⟨f0, rfl⟩
            obtain ⟨f', hc⟩ := hc
            rw [hc] at hcr
            obtain ⟨ad0, cap0, hx0, hx1⟩ := hcr.sliceVal
            by_cases hve : cap0 * e ≤ n * e
            · exact ⟨ad0, cap0, hx0, fun j h1 h2 => by omega⟩
            have ha : a = .slice .own e n f' := by
              unfold canonR at hc; simp only at hc
              split at hc
              · exact hc
              · cases hc
                obtain ⟨ad1, cap1, h3, h4⟩ := hx.sliceVal
                rw [h3] at hx0; cases hx0
                rw [h4.1 rfl] at hve; exact absurd (Nat.le_refl _) hve
              · obtain ⟨ad1, cap1, h3, h4⟩ := hx.sliceVal
                rw [h3] at hx0; cases hx0
                rw [(h4.2 rfl).2] at hve; simp at hve
              · exact absurd (congrArg isOwn hc) (by rw [isOwn_canon]; simp [isOwn])
            subst ha
            have hsl : st'.ts[s]? = some (.slice .own e n f') := by
              rw [hrs] at hl
              simp only [resultsOf] at hl
              split at hl
              · rename_i a' as h1 h2
                cases hl
                simp only [resultOf] at h1
                obtain ⟨_, h1⟩ := cond_some h1
                simp only [Option.some.injEq] at h1
                obtain ⟨t', e', n', f'', e1, e2, e3⟩ := ev_tmp_own (x := .tmp s) (st := st') (by rw [h1]; rfl)
                cases e1
                rw [h1] at e3; cases e3
                exact e2
              · cases hl
            have hxv : vs'[s]? = some x := by
              have hsz : s < vs'.size := by rw [← hR'.len]; exact lt_of_some hsl
              have := hxs
              rw [hrs] at this
              simp only [List.mapM_cons, List.mapM_nil, readVar, Sem.run_bind, Sem.run_pure, Result.andThen_ok] at this
              have h5 : vs'.getD s undef = x := by simpa using this
              rw [← h5]; simp [Array.getD, hsz]
            have hpl : RepPl w' g' st'.H.length s 0 (.slice .own e n f') x := hR'.slot s _ _ hsl hxv
            obtain ⟨ad, cap, e1, e2⟩ := hpl.2 e n f' rfl
            refine ⟨ad, cap, e1, fun j h1 h2 => ?_⟩
            obtain ⟨b, o, e3, e4⟩ := e2 j h1 h2
            have hH0 : H = [] := List.length_eq_zero_iff.1 h0
            refine ⟨b, o, e3, ?_, by unfold leave; rw [e4], hR'.base.soft b _ (by rw [e4]; simp) (by rw [e4]; simp) (fun id e5 => by rw [e4] at e5; cases e5), hR'.base.tail b _ (.inl ⟨_, _, e4⟩), fun o' id hh => by have := (leave_h.1 hh).2; omega⟩
            rcases hR'.mine b _ (.inr ⟨_, _, e4⟩) with h5 | ⟨id, i, h5⟩
            · exact h5
            · have := hpre.low b _ id (.inr ⟨i, h5⟩)
              rw [h0] at this; omega
          have hall : (st'.H.take H.length).all (objLow H.length) = true := by rw [h0]; simp
          have hx1 : (if hh : [x].toArray.size = 1 then [x].toArray[0] else .tuple [x].toArray) = x := rfl
          have := hp2 hall (by rw [h0]; exact hown) (Rep.same hs (by
            rw [h0]
            exact (hcr.noRef g'.η 0 hnr.2).sub (fun b o hb => leave_imm hb)))
          rw [h0] at this
          exact ⟨_, _, _, rfl, this⟩
        · exact (noDen hk).elim
    · exact (noDen hk).elim
  have hgo : Den C (match st'.ms with
      | [] => finish E fn H.length st'
      | ms => match unmark ms st' with
        | some st' => finish E fn H.length st'
        | none => .none) (r, H') → LeavesInM (Fc none) 0 P F vs' (fun e w' => ∃ v ω' η', e = .returned v ∧ Post w ω η H w' ω' η' H' r v) ds' .returning w' := by
    intro hk
    split at hk
    · rename_i hms
      rw [hms] at hm
      have : ds' = [] := hm.2
      subst this
      exact hfin st' w' g' hR' hk
    · split at hk
      · rename_i st2 hu
        exact unmark_sound st'.ms st' ds' w' g' hR' hm hu (fun w2 g2 h2 => hfin st2 w2 g2 h2 hk)
      · exact (noDen hk).elim
  cases e with
  | normal => exact hgo hk
  | ret => exact hgo hk
  | exit id => exact (noDen hk).elim

theorem setPs_rel {w : World} {g : Gh} {N : Nat} : ∀ (ps : List Nat) (as : List AVal) (l : List Value) (ts : List AVal) (vs : Array Value), as.length = l.length → ts.length = vs.size →
    (∀ (i : Nat) a v, as[i]? = some a → l[i]? = some v → Rep w g.I g.η N a v) → (∀ (s : Nat) a v, ts[s]? = some a → vs[s]? = some v → RepSlot w g N s a v) →
    (setPs ps as ts).length = (foldPs ps l vs).size ∧ ∀ (s : Nat) a v, (setPs ps as ts)[s]? = some a → (foldPs ps l vs)[s]? = some v → RepSlot w g N s a v
  | [], as, l, ts, vs, _, hl, _, hs => by simp only [setPs, foldPs]; exact ⟨hl, hs⟩
  | p :: ps, [], [], ts, vs, _, hl, _, hs => by simp only [setPs, foldPs]; exact ⟨hl, hs⟩
  | p :: ps, [], v :: l, ts, vs, h, _, _, _ => by cases h
  | p :: ps, a :: as, [], ts, vs, h, _, _, _ => by cases h
  | p :: ps, a :: as, v :: l, ts, vs, h, hl, ha, hs => by
    simp only [setPs, foldPs]
    refine setPs_rel ps as l _ _ (by simpa using h) (by simpa using hl) (fun i a' v' h1 h2 => ha (i + 1) a' v' (by simpa using h1) (by simpa using h2)) (fun s a' v' h1 h2 => ?_)
    simp only [List.getElem?_set] at h1
    rw [getElem?_setIf] at h2
    by_cases e : p = s
    · subst e
      rw [if_pos rfl] at h1
      by_cases hlt : p < ts.length
      · rw [if_pos hlt] at h1
        rw [if_pos ⟨rfl, by rw [← hl]; exact hlt⟩] at h2
        cases h1; cases h2
        exact (ha 0 a v rfl rfl).dis.ev.slot (isOwn_dis _)
      · rw [if_neg hlt] at h1; cases h1
    · rw [if_neg e] at h1; rw [if_neg (fun hh => e hh.1)] at h2
      exact hs s a' v' h1 h2

/-- A round: what the machine's says, the model's does. -/
theorem round_sound [VR : Vars] {P : Program} {E : Env} {C : FuncId → List AVal → List HObj → AVal → List HObj → Prop} (hE : EnvOk P E C) {n : Nat} {kp : Keep} (hr : E.rnd = true) :
    RSound P (fun args H r H' => ∃ id args' L ts, args = .yld id :: args' ∧ H[id]? = some (.loop L ts .ready) ∧ Den C (enterRound E n L kp id ts args' H) (r, H')) := by
  rintro id args H r H' ⟨id', args', L, ts, he, hH', hrun⟩ L2 ts2 hH vals w ω η hpre hargs fn vs D nn hrec
  cases he
  rw [hH] at hH'; cases hH'
  obtain ⟨h1, fn', vs', D', h2, h3, h4⟩ := hpre.heap id _ hH
  have hrr := hrec.symm.trans h2
  simp only [Option.some.injEq, Obj.loop.injEq, Loop.mk.injEq] at hrr
  obtain ⟨_, _, rfl, rfl, _, _, _, rfl⟩ := hrr
  have hid := lt_of_some hH
  have hslots : ∀ (s : Nat) a v, (ts.map dis)[s]? = some a → vs[s]? = some v → RepSlot w ⟨ω, η, fun _ => 0⟩ H.length s a v := fun s a v ha hv => by
    simp only [List.getElem?_map, Option.map_eq_some_iff] at ha
    obtain ⟨a0, ha0, rfl⟩ := ha
    rcases h4 s a0 v ha0 hv with e | hrp
    · subst e; trivial
    · exact EvRep.slot (Rep.ev (g := ⟨ω, η, fun _ => 0⟩) hrp.dis) (isOwn_dis _)
  obtain ⟨q1, q2⟩ := setPs_rel (g := ⟨ω, η, fun _ => 0⟩) L.params args vals.toList (ts.map dis) vs (by simpa using hargs.len.symm) (by simpa using h3) (fun i a v ha hv => hargs.rep i a v ha (by simpa using hv)) hslots
  have hR : Rel w ⟨ω, η, H.length⟩ w ⟨ω, η, fun _ => 0⟩ { ts := setPs L.params args (ts.map dis), H := H } (foldPs L.params vals.toList vs) := by
    refine ⟨hpre.toBase, q1, q2, fun b o hb => ?_, fun b hb o => ⟨fun _ => rfl, fun _ h => h⟩, Keeps.refl _ _ hpre.vars, ⟨Nat.le_refl _, fun _ _ => rfl⟩⟩
    rcases hpre.none b o with e | e | ⟨id, e⟩ | ⟨id, i, e⟩ <;> (rcases hb with ⟨s, h⟩ | ⟨s, i, h⟩ <;> (simp only at h; rw [e] at h; cases h))
  refine roundIn_of_wpIn (F := Fc none) trivial (exec_sound hE (ρ := some (η id)) (fun h => by rw [hr] at h; cases h) L.assign _ _ w _ _ _ ⟨ω, η, H.length⟩ [] hR ⟨fun m hm => by simp at hm, rfl⟩ hrun (fun e w1 g1 st1 vs1 ω1 ds1 hx1 hR1 hm1 hk1 => ?_))
  cases e with
  | ret => exact (noDen hk1).elim
  | exit i => exact (noDen hk1).elim
  | normal =>
    simp only at hk1
    split at hk1
    · rename_i L1 ts1 hq1
      have hη1 : g1.η id = η id := (hR1.shrink hx1).old.2 id hid
      obtain ⟨p1, fn1, vs2, D1, p2, p3, p4⟩ := hR1.base.heap id _ hq1
      have hb := run_beginRound (P := P) p2 rfl
      rw [hη1] at hb
      refine ⟨_, hb, ?_⟩
      have hR2 := hR1.turn (q' := .loop L1 ts1 .busy) (ob' := .loop { state := .busy, pending := none, fn := fn1, tmps := vs2, params := L1.params.toArray, assign := L1.assign, body := L1.body, defers := D1 }) hq1 p2 (fun _ _ _ e => by cases e) (fun _ _ _ e => by cases e) p1 (fun i e => by cases e) (fun _ _ _ _ e => by cases e)
        (fun w' _ hm hh => ⟨p1, fn1, vs2, D1, hh, p3, fun i a v ha hv => (p4 i a v ha hv).imp (fun e => e) hm⟩)
      rw [hη1] at hR2
      refine exec_sound hE (ρ := some (η id)) (fun h => by rw [hr] at h; cases h) L.body _ _ _ _ _ _ ω1 ds1 hR2 hm1 hk1 (fun e w3 g3 st3 vs3 ω3 ds3 hx3 hR3 hm3 hk3 => ?_)
      have hRs := hR3.shrink (hx1.trans hx3)
      have hη3 : g3.η id = η id := hRs.old.2 id hid
      unfold roundEnd at hk3
      split at hk3
      · rename_i L3 ts3 hq3
        obtain ⟨s1, fn3, vs4, D3, s2, s3, s4⟩ := hR3.base.heap id _ hq3
        obtain ⟨s', hs'⟩ : ∃ s', s' = endOf e := ⟨_, rfl⟩
        obtain ⟨b', hb'⟩ : ∃ b', b' = goesOn e := ⟨_, rfl⟩
        have hpb : (pendOf s').isNone = b' := by rw [hs', hb']; cases e <;> rfl
        have hend := run_endRound (P := P) (pendOf s') s2
        rw [hη3, hpb] at hend
        have hst : stateOf s' = if b' = true then .ready else .done := by rw [hs', hb']; cases e <;> rfl
        have hR4 := hRs.turn (q' := .loop L3 ts3 s') (ob' := .loop { state := stateOf s', pending := pendOf s', fn := fn3, tmps := vs4, params := L3.params.toArray, assign := L3.assign, body := L3.body, defers := D3 }) hq3 s2 (fun _ _ _ e => by cases e) (fun _ _ _ e => by cases e) s1 (fun i e => by cases e) (fun _ _ _ _ e => by cases e)
          (fun w' _ hm hh => ⟨s1, fn3, vs4, D3, hh, s3, fun i a v ha hv => (s4 i a v ha hv).imp (fun e => e) hm⟩)
        rw [hη3] at hR4
        have hpost : ∃ v ω' η', Ending.returned (.bool b') = .returned v ∧ Post w ω η H { w3 with heap := w3.heap.setIfInBounds (η id) (.loop { state := stateOf s', pending := pendOf s', fn := fn3, tmps := vs4, params := L3.params.toArray, assign := L3.assign, body := L3.body, defers := D3 }) } ω' η' H' r v := by
          obtain ⟨hp1, hp2⟩ := Rel.post (H0 := H) (a := .bool b') (v := .bool b') hR4 hpre rfl
          rw [← hs', ← hb'] at hk3
          cases kp with
          | keep => simp only at hk3; cases hk3; exact ⟨_, _, _, rfl, hp1 (.of_not rfl) (.bool b')⟩
          | drop =>
            simp only at hk3
            obtain ⟨hall, hk3⟩ := asks_den hk3
            cases hk3; exact ⟨_, _, _, rfl, hp2 (heapAsks_spec hall) (.of_not rfl) (.bool b')⟩
          | clip =>
            simp only at hk3
            obtain ⟨hall, hk3⟩ := asks_den hk3
            cases hk3; exact ⟨_, _, _, rfl, hp2 (heapAsks_spec hall) (.of_not rfl) (.bool b')⟩
          | own =>
            simp only at hk3
            obtain ⟨hall, hk3⟩ := asks_den hk3
            cases hk3; exact ⟨_, _, _, rfl, hp2 (heapAsks_spec hall) (.of_not rfl) (.bool b')⟩
        rw [hst] at hpost
        cases e with
        | normal => subst hs'; exact ⟨_, _, hend, hpost⟩
        | ret => subst hs'; exact ⟨_, _, hend, hpost⟩
        | exit i => subst hs'; exact ⟨_, _, hend, hpost⟩
      · exact (noDen hk3).elim
    · exact (noDen hk1).elim

structure ProgOk [VR : Vars] (P : Program) (G : Prog) : Prop where
  T : TOk P G.T
  fns : ∀ f fn, G.fns f = some fn → FunOk P f fn
  ext : ∀ f, Sound P f (G.ext f)
  able : ∀ f args H r H', G.ext f args H r H' → Callable P f
  mixed : P.follows .mixedOrders = true
  small : P.funcs.size ≤ rnd0
  str : (∀ f fn, G.fns f = some fn → StrOk fn.hint G.ext) ∧ ∀ i h kp, G.rnds i = some (h, kp) → StrOk h G.ext

theorem callable_lt {P : Program} {f : FuncId} (h : Callable P f) : f < P.funcs.size := by
  obtain ⟨F, h1, _⟩ := h
  exact (Array.getElem?_eq_some_iff.1 h1).1

theorem run_callable [VR : Vars] {P : Program} {G : Prog} (hG : ProgOk P G) : ∀ n f args H r H', f < rnd0 → Run G n f args H r H' → Callable P f
  | 0, f, args, H, r, H', _, h => hG.able f args H r H' h
  | n + 1, f, args, H, r, H', hlt, h => by
    rcases h with h | ⟨fn, hfn, _⟩ | ⟨i, _, _, _, _, _, _, rfl, _⟩
    · exact hG.able f args H r H' h
    · exact (hG.fns f fn hfn).callable
    · omega

/-- THE MACHINE'S RUN IS THE MODEL'S, of functions and of rounds. -/
theorem run_sound2 [VR : Vars] {P : Program} {G : Prog} (hG : ProgOk P G) : ∀ n, (∀ f, f < rnd0 → Sound P f (Run G n f)) ∧ ∀ i, RSound P (Run G n (rnd0 + i))
  | 0 => ⟨fun f _ args H r H' h => hG.ext f args H r H' h, fun i id args H r H' h => by
      have h1 : rnd0 + i < P.funcs.size := callable_lt (hG.able _ _ _ _ _ h)
      have := hG.small; omega⟩
  | n + 1 => by
    obtain ⟨ih1, ih2⟩ := run_sound2 hG n
    have hup : ∀ g args H r H', G.ext g args H r H' → CallIn (Run G n g) args H r H' := fun g args H r H' this => .inr (by
      cases n with
      | zero => exact this
      | succ n => exact .inl this)
    have hstr : ∀ {l}, StrOk l G.ext → StrOk l (fun g args H r H' => CallIn (Run G n g) args H r H') := fun h =>
      ⟨fun g T e h1 H id b h2 h3 => hup _ _ _ _ _ (h.str g T e h1 H id b h2 h3), fun g T e h1 H id b h2 => hup _ _ _ _ _ (h.len g T e h1 H id b h2)⟩
    have hE : ∀ (hint : Hint) rnd, StrOk hint G.ext → EnvOk P { T := G.T, hint := hint, rnd := rnd } (fun g args H r H' => CallIn (Run G n g) args H r H') := fun hint rnd hs =>
      ⟨hG.T, fun f hf => (ih1 f hf).callIn, fun f' args' H'' r' H3 hlt hr' => by
        rcases hr' with ⟨_, _, _, H0, hr'⟩ | hr'
        · exact run_callable hG n f' _ _ _ _ hlt hr'
        · exact run_callable hG n f' _ _ _ _ hlt hr', fun i id args H r H' h => by
        rcases h with ⟨hn, _⟩ | h
        · simp [noRefArg, noRefAgg, noRef, noRef1] at hn
        · exact ih2 i id args H r H' h, hG.mixed, hstr hs⟩
    refine ⟨fun f hf args H r H' h => ?_, fun i id args H r H' h => ?_⟩
    · rcases h with h | ⟨fn, hfn, h⟩ | ⟨i, _, _, _, _, _, _, rfl, _⟩
      · exact hG.ext f args H r H' h
      · exact enter_sound (n := n) (hE fn.hint false (hG.str.1 f fn hfn)) (hG.fns f fn hfn) args H r H' h
      · omega
    · rcases h with h | ⟨fn, hfn, h⟩ | ⟨i', id', args', L, ts, hh, kp, hi, ha, hH, hL, hl, hr, h⟩
      · have h1 : rnd0 + i < P.funcs.size := callable_lt (hG.able _ _ _ _ _ h)
        have := hG.small; omega
      · have h1 : rnd0 + i < P.funcs.size := callable_lt (hG.fns _ _ hfn).callable
        have := hG.small; omega
      · exact round_sound (n := n) (kp := kp) (hE hh true (hG.str.2 i' hh kp hr)) rfl id args H r H' ⟨id', args', L, ts, ha, hH, h⟩

theorem run_sound [VR : Vars] {P : Program} {G : Prog} (hG : ProgOk P G) (n : Nat) (f : FuncId) (hf : f < rnd0) : Sound P f (Run G n f) := (run_sound2 hG n).1 f hf

end Go.AM
