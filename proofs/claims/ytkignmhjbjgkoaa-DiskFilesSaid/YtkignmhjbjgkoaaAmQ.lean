/- Calls as a whole: what the machine's run answers, the Go function answers. -/
import Derived.Test.YtkignmhjbjgkoaaAmO
set_option linter.unusedVariables false
set_option linter.unusedSimpArgs false
namespace Go.AM
open Go.RowKit

def readVar (tmps : Array Value) : ResultVar → Sem Value
  | .tmp t => pure (tmps.getD t undef)
  | .cell a t => do loadVar t (← asAddr (tmps.getD a undef))

theorem results_eq (fn : Func) (tmps : Array Value) : results fn tmps = (do let vs ← fn.results.mapM (readVar tmps); pure (if h : vs.size = 1 then vs[0] else .tuple vs)) := by
  unfold results
  congr 1

section
variable {R : Type} {P : Program} {E : Env} {w0 : World} {ω0 : Entry} {w : World} {g : Gh} {st : St} {vs : Array Value}

theorem resultOf_run (hT : TOk P E.T) (h : Rel w0 ω0 w g st vs) {q : ResultVar} {a : AVal} (hq : resultOf E st q = some a) : ∃ x, (readVar vs q).run P w = .ok x w ∧ Rep w g.I g.η st.H.length a x := by
  cases q with
  | tmp t =>
    simp only [resultOf] at hq
    obtain ⟨hp, hq⟩ := cond_some hq
    cases hq
    exact ⟨vs.getD t undef, rfl, ev_ne (x := .tmp t) h rfl (fun e => by rw [e] at hp; simp [plainAgg, plain] at hp) (fun s o e => by rw [e] at hp; simp [plainAgg, plain] at hp)⟩
  | cell s t =>
    simp only [resultOf] at hq
    split at hq
    · rename_i i cs hi hcs
      obtain ⟨hb, hq⟩ := cond_some hq
      cases hq
      have hlen := Nat.eq_of_beq_eq_true hb
      have hTi := hT t i hi
      obtain ⟨e1, v, hv, hrs⟩ := h.boxAt hcs
      have hC := h.boxCells hcs 0 i.size (by omega)
      have hvv : vs.getD s undef = .pointer (some ⟨g.β s, 0, none⟩) := by
        simp [Array.getD_eq_getD_getElem?, hv, hrs.1]
      have hcs' : (cs.drop 0).take i.size = cs := by simp [hlen]
      rw [hcs'] at hC
      cases ha : i.agg with
      | true =>
        obtain ⟨X, h1, h2⟩ := load_agg hTi ha hC hlen.symm
        exact ⟨X, by simp only [readVar, hvv, asAddr, Sem.run_bind, Sem.run_pure, Result.andThen_ok, h1], by simpa using h2⟩
      | false =>
        have h1 := hTi.one ha
        obtain ⟨hp, X, hx, hr⟩ := hC 0 (cs.getD 0 .undef) (by simp [List.getD, List.getElem?_eq_getElem (show 0 < cs.length by omega)])
        simp only [Nat.add_zero] at hx
        exact ⟨X, by simp only [readVar, hvv, asAddr, Sem.run_bind, Sem.run_pure, Result.andThen_ok, load_one hTi ha hx], by simpa using hr.dis⟩
    · cases hq

theorem resultsOf_run (hT : TOk P E.T) (h : Rel w0 ω0 w g st vs) : ∀ (rs : List ResultVar) (l : List AVal), resultsOf E st rs = some l →
    ∃ xs : List Value, (rs.mapM (readVar vs)).run P w = .ok xs w ∧ xs.length = l.length ∧ ∀ (j : Nat) a x, l[j]? = some a → xs[j]? = some x → Rep w g.I g.η st.H.length a x
  | [], l, hl => by
    simp only [resultsOf, Option.some.injEq] at hl; subst hl
    exact ⟨[], by simp, rfl, fun j a x h => by simp at h⟩
  | q :: rs, l, hl => by
    simp only [resultsOf] at hl
    split at hl
    · rename_i a as h1 h2
      cases hl
      obtain ⟨x, hx, hr⟩ := resultOf_run hT h h1
      obtain ⟨xs, hxs, hlen, hrs⟩ := resultsOf_run hT h rs as h2
      refine ⟨x :: xs, by simp [List.mapM_cons, hx, hxs], by simp [hlen], fun j a' x' h3 h4 => ?_⟩
      cases j with
      | zero => simp at h3 h4; subst h3; subst h4; exact hr
      | succ j => exact hrs j a' x' (by simpa using h3) (by simpa using h4)
    · cases hl

theorem pack_rep {I : Nat → Nat → Prop} {η : Nat → Nat} {N : Nat} {l : List AVal} {xs : List Value} (hl : xs.length = l.length) (h : ∀ (j : Nat) a x, l[j]? = some a → xs[j]? = some x → Rep w I η N a x) :
    Rep w I η N (pack l) (if hh : xs.toArray.size = 1 then xs.toArray[0] else .tuple xs.toArray) := by
  match l, xs, hl with
  | [], [], _ => exact .tuple [] #[] rfl (fun i c v h => by simp at h)
  | [a], [x], _ => exact h 0 a x rfl rfl
  | a :: b :: l, x :: y :: xs, hl =>
    have : ¬ ((x :: y :: xs).toArray.size = 1) := by simp
    rw [dif_neg this]
    exact .tuple (a :: b :: l) _ (by simpa using hl.symm) (fun i c v hc hv => h i c v hc (by simpa using hv))

/-- The owners as a call leaves them: its own arrays that it hands back are nobody's any more. -/
def leave (h0 : Nat) (ω : Nat → Nat → Owner) : Nat → Nat → Owner := fun b o => match ω b o with | .imm => .imm | .h id => if id < h0 then .h id else .imm | _ => .free

theorem leave_imm {h0 : Nat} {ω : Nat → Nat → Owner} {b o : Nat} (h : ω b o = .imm) : leave h0 ω b o = .imm := by unfold leave; rw [h]
theorem leave_h {h0 : Nat} {ω : Nat → Nat → Owner} {b o id : Nat} : leave h0 ω b o = .h id ↔ ω b o = .h id ∧ id < h0 := by
  unfold leave; split
  · rename_i e; rw [e]; simp
  · rename_i id' e
    rw [e]
    by_cases hh : id' < h0
    · rw [if_pos hh]; constructor
      · intro he; cases he; exact ⟨rfl, hh⟩
      · rintro ⟨he, _⟩; cases he; rfl
    · rw [if_neg hh]; constructor
      · intro he; cases he
      · rintro ⟨he, h2⟩; cases he; exact absurd h2 hh
  · rename_i h1 h2
    constructor
    · intro he; cases he
    · rintro ⟨he, _⟩; exact absurd he (h2 id)

theorem Rep.freeze1 (h : Rel w0 ω0 w g st vs) {h0 : Nat} {a : AVal} {v : Value} (hr : Rep w g.I g.η st.H.length a v) (hn : AM.noRef (AM.freeze1 st.H a) = true) (hok : ∀ b ∈ frz1 h0 st.H a, b = true) :
    Rep w (fun b o => leave h0 g.ω b o = .imm) g.η st.H.length (AM.freeze1 st.H a) v := by
  cases a with
  | mslice id off n esz ag =>
    simp only [AM.freeze1, frz1] at hn hok ⊢
    split
    · rename_i cs hcs
      rw [hcs] at hn hok
      simp only at hn hok
      have hb := hok _ (List.mem_singleton.2 rfl)
      simp only [Bool.and_eq_true] at hb
      obtain ⟨hid0, hle, hnr⟩ := hb
      have hid0 := Nat.le_of_ble_eq_true hid0
      have hle := Nat.le_of_ble_eq_true hle
      cases hr with
      | mslice _ _ _ _ _ cap hid hc hag =>
        have hobj := h.base.heap id _ hcs
        have hcp : ∀ c ∈ cs, plain c = true := fun c hc => by
          obtain ⟨j, hj, e⟩ := List.getElem_of_mem hc
          exact (hobj.2 j c (by rw [List.getElem?_eq_getElem hj, e])).1
        have hil : ∀ i, i < n → off + i * esz + esz ≤ cs.length := fun i hi => by
          have : (i + 1) * esz ≤ n * esz := Nat.mul_le_mul_right esz hi
          rw [Nat.succ_mul] at this; omega
        have hval : ∀ q, q < cs.length → ∃ x, w.cell? ⟨g.η id, q, none⟩ = some x ∧ Rep w g.I g.η st.H.length (cs.getD q .undef) x := fun q hq => by
          obtain ⟨_, x, h6, h7⟩ := hobj.2 q (cs.getD q .undef) (by simp [List.getD, List.getElem?_eq_getElem hq])
          exact ⟨x, h6, h7⟩
        refine .slice .shared esz n _ _ cap (fun i j => (w.cell? ⟨g.η id, off + i * esz + j, none⟩).getD undef) hc (by simp) (by simp) (fun hpos => ⟨g.η id, off, rfl, fun i hi j hj => ?_⟩) (fun i hi => ?_) (fun i hi => ?_) (fun i hi j c hcc => ?_)
        · have := hil i hi
          refine ⟨?_, ?_⟩
          · have e := hobj.1 (off + i * esz + j) (by omega)
            show leave h0 g.ω _ _ = _
            unfold leave; rw [e]; simp only; rw [if_neg (by omega)]
          · obtain ⟨x, h6, _⟩ := hval (off + i * esz + j) (by omega)
            rw [h6]; rfl
        · rw [(mkElem_cells hag (hil i hi) hcp).1]
          have := hil i hi
          simp; omega
        · exact ⟨(mkElem_cells hag (hil i hi) hcp).2, mkElem_noRef hag (hil i hi) (List.all_eq_true.1 hnr)⟩
        · have := hil i hi
          rw [(mkElem_cells hag (hil i hi) hcp).1] at hcc
          have hj := lt_of_some hcc
          simp only [List.length_take, List.length_drop] at hj
          rw [List.getElem?_take_of_lt (by omega), List.getElem?_drop] at hcc
          obtain ⟨x, h6, h7⟩ := hval (off + i * esz + j) (by omega)
          have he : cs.getD (off + i * esz + j) .undef = c := by simp [List.getD, hcc]
          rw [he] at h7
          rw [h6]; exact h7.sub (fun b o hb => leave_imm hb)
    · rename_i hne
      exfalso
      split at hn
      · rename_i cs hcs; exact hne cs hcs
      · simp [AM.noRef] at hn
  | _ => exact hr.sub (fun b o hb => leave_imm hb)

theorem noRefAgg_of {a : AVal} (h1 : ∀ cs, a ≠ .agg cs) (h : AM.noRefAgg a = true) : AM.noRef a = true := by
  cases a <;> first | exact h | exact absurd rfl (h1 _)

theorem plain_freeze1 (H : List HObj) {a : AVal} (hn : AM.noRef (freeze1 H a) = true) : plain (freeze1 H a) = true := by
  cases hh : freeze1 H a <;> rw [hh] at hn <;> first | rfl | (simp [AM.noRef] at hn; done)

theorem Rep.freeze (h : Rel w0 ω0 w g st vs) {h0 : Nat} {a : AVal} {v : Value} (hr : Rep w g.I g.η st.H.length a v) (hn : AM.noRefAgg (AM.freeze st.H a) = true) (hok : ∀ b ∈ frz h0 st.H a, b = true) :
    Rep w (fun b o => leave h0 g.ω b o = .imm) g.η st.H.length (AM.freeze st.H a) v := by
  cases a with
  | agg cs =>
    cases hr with
    | agg _ xs hl hrr hp =>
      simp only [AM.freeze, AM.noRefAgg] at hn ⊢
      have hn' := noRef_mem hn
      refine .agg _ xs (by simpa using hl) (fun i c v hc hv => ?_) (fun c hc => ?_)
      · simp only [List.getElem?_map, Option.map_eq_some_iff] at hc
        obtain ⟨c0, hc0, rfl⟩ := hc
        exact Rep.freeze1 h (hrr i c0 v hc0 hv) (hn' _ (List.mem_map.2 ⟨c0, List.mem_of_getElem? hc0, rfl⟩)) (fun b hb => hok b (List.mem_flatMap.2 ⟨c0, List.mem_of_getElem? hc0, hb⟩))
      · obtain ⟨c0, h3, rfl⟩ := List.mem_map.1 hc
        exact plain_freeze1 _ (hn' _ hc)
  | mslice id off n esz ag =>
    refine Rep.freeze1 h hr ?_ hok
    refine noRefAgg_of (fun cs e => ?_) hn
    simp only [AM.freeze, AM.freeze1] at e
    split at e <;> cases e
  | _ => exact hr.sub (fun b o hb => leave_imm hb)

/-- What is behind a call, as its caller sees it. -/
theorem Rel.post {H0 : List HObj} (h : Rel w0 ω0 w g st vs) (hpre : Pre w0 ω0.ω ω0.η H0) (hn0 : ω0.n = H0.length) {a : AVal} {v : Value} : 
    (Rep w (fun b o => down g.ω b o = .imm) g.η st.H.length a v → Post w0 ω0.ω ω0.η H0 w (down g.ω) g.η st.H a v) ∧
    ((st.H.take H0.length).all objNoRef = true → Rep w (fun b o => leave H0.length g.ω b o = .imm) g.η H0.length a v → Post w0 ω0.ω ω0.η H0 w (leave H0.length g.ω) g.η (st.H.take H0.length) a v) := by
  have hold := h.old
  rw [hn0] at hold
  refine ⟨fun hr => ⟨h.pre, hr, hold.1, hold.2, fun b hb o => ?_, h.keeps⟩, fun hall hr => ?_⟩
  · have e := h.past b hb o
    rcases hpre.none b o with e2 | e2 | ⟨id, e2⟩ <;> (rw [e2] at e ⊢; unfold down; rw [e])
  · have hlen : (st.H.take H0.length).length = H0.length := by rw [List.length_take]; exact Nat.min_eq_left hold.1
    have hfree : ∀ b o, leave H0.length g.ω b o ≠ .free → g.ω b o ≠ .free := fun b o hb e => hb (by unfold leave; rw [e])
    refine ⟨⟨⟨fun id o ho => ?_, fun b o hb => h.base.live b o (hfree b o hb), fun b o h1 h2 => ?_, fun b o s i hb => ?_, fun b o o' id hb => ?_, fun b o id hb => by rw [hlen]; exact (leave_h.1 hb).2, h.base.lock.take _⟩, fun b o => ?_⟩, by rw [hlen]; exact hr, by rw [hlen]; exact Nat.le_refl _, fun id hid => hold.2 id hid, fun b hb o => ?_, h.keeps⟩
    · have hid : id < H0.length := by have := lt_of_some ho; rw [hlen] at this; exact this
      have ho' : st.H[id]? = some o := by rwa [List.getElem?_take_of_lt hid] at ho
      have hnr := List.all_eq_true.1 hall o (List.mem_of_getElem? ho)
      have hrr := h.base.heap id o ho'
      rw [hlen]
      cases o with
      | arr cs =>
        refine ⟨fun o ho => leave_h.2 ⟨hrr.1 o ho, hid⟩, fun o c hc => ?_⟩
        obtain ⟨h1, x, h2, h3⟩ := hrr.2 o c hc
        have hc' := noRef_mem hnr c (List.mem_of_getElem? hc)
        exact ⟨h1, x, h2, (h3.noRef _ _ (by cases c <;> first | exact hc' | (simp [AM.noRef] at hc'))).sub (fun b o hb => leave_imm hb)⟩
      | map es =>
        obtain ⟨h1, ents, clock, h2, h3, h4⟩ := hrr
        refine ⟨leave_h.2 ⟨h1, hid⟩, ents, clock, h2, h3, fun i k x e he hi => ?_⟩
        obtain ⟨a, b, c, d⟩ := h4 i k x e he hi
        have hkx := List.all_eq_true.1 hnr (k, x) (List.mem_of_getElem? he)
        simp only [Bool.and_eq_true] at hkx
        exact ⟨(a.noRef _ _ (by have := hkx.1; cases k <;> first | exact this | (simp [AM.noRef] at this))).sub (fun b o hb => leave_imm hb), (b.noRef _ _ hkx.2).sub (fun b o hb => leave_imm hb), c, d⟩
      | iter m es t c => cases hnr
      | locked i => cases hnr
    · by_cases e : g.ω b o = .imm
      · exact absurd (leave_imm e) h2
      · exact h.base.soft b o (hfree b o h1) e
    · unfold leave at hb; split at hb
      · cases hb
      · split at hb <;> cases hb
      · cases hb
    · obtain ⟨h1, h2⟩ := leave_h.1 hb
      rcases h.base.sep b o o' id h1 with e | e
      · exact .inl (leave_h.2 ⟨e, h2⟩)
      · right; unfold leave; rw [e]
    · unfold leave; split
      · exact .inr (.inl rfl)
      · split
        · exact .inr (.inr ⟨_, rfl⟩)
        · exact .inr (.inl rfl)
      · exact .inl rfl
    · have e := h.past b hb o
      rcases hpre.none b o with e2 | e2 | ⟨id, e2⟩
      · rw [e2] at e ⊢; unfold leave; rw [e]
      · rw [e2] at e ⊢; unfold leave; rw [e]
      · have := hpre.low b o id e2
        rw [e2] at e ⊢; exact leave_h.2 ⟨e, this⟩

end

/-- A function of the table, held against the program's. -/
structure FunOk (P : Program) (f : FuncId) (fn : Fun) : Prop where
  ok : ∃ F : Func, P.funcs[f]? = some F ∧ (F.name == "runtime.NumGoroutine") = false ∧ F.body = some fn.body ∧ F.ntmps = fn.ntmps ∧ F.results.toList = fn.results

theorem FunOk.callable {P : Program} {f : FuncId} {fn : Fun} (h : FunOk P f fn) : Callable P f := by
  obtain ⟨F, h1, h2, h3, _⟩ := h.ok
  exact ⟨F, h1, h2, by rw [h3]; rfl⟩

theorem zip_get {α β : Type} {l : List α} {m : List β} {i : Nat} {p : α × β} (h : (l.zip m)[i]? = some p) : l[i]? = some p.1 := by
  rw [List.getElem?_zip_eq_some] at h; exact h.1

theorem pack_noRef {l : List AVal} (h : l.all noRefAgg = true) : noRefAll (pack l) = true := by
  match l with
  | [] => rfl
  | [a] =>
    have ha := List.all_eq_true.1 h a (by simp)
    simp only [pack]
    cases a <;> first | exact ha | (simp [noRefAgg, noRef] at ha)
  | a :: b :: l => exact h

theorem asks_den {R : Type} {C : FuncId → List AVal → List HObj → AVal → List HObj → Prop} {t : Tree R} {r : R} : ∀ {l : List Bool}, Den C (asks l t) r → (∀ b ∈ l, b = true) ∧ Den C t r
  | [], h => ⟨fun b hb => by simp at hb, h⟩
  | b :: l, h => by
    obtain ⟨hb, h⟩ := Den.chk (t := asks l t) h
    obtain ⟨h1, h2⟩ := asks_den h
    exact ⟨fun x hx => by rcases List.mem_cons.1 hx with e | e; exact e ▸ hb; exact h1 x e, h2⟩

theorem hand_den {R : Type} {E : Env} {C : FuncId → List AVal → List HObj → AVal → List HObj → Prop} {v : AVal} {k : AVal → Tree R} {r : R} (h : Den C (hand E v k) r) : ∃ v', SameV v v' ∧ Den C (k v') r := by
  unfold hand at h
  cases hb : E.hint.eqr <;> rw [hb] at h
  · exact ⟨v, .refl v, h⟩
  · exact h.sameInv

theorem heapAsks_spec {h0 : Nat} {H : List HObj} (h : ∀ b ∈ heapAsks h0 H, b = true) : (H.take h0).all objNoRef = true := by
  cases h0 with
  | zero => simp
  | succ n => exact h _ (List.mem_singleton.2 rfl)

theorem canon1_slice {ti : Option TI} {T : TypeId → Option TI} {sp : Spare} {e n : Nat} {f : Nat → AVal} : ∃ e' n' f', canon1 ti T (.slice sp e n f) = .slice .shared e' n' f' := by
  cases sp with
  | nil =>
    simp only [canon1]
    split
    · split
      · cases Nat.beq n 0
        · exact ⟨_, _, _, rfl⟩
        · exact ⟨_, _, _, rfl⟩
      · exact ⟨_, _, _, rfl⟩
    · exact ⟨_, _, _, rfl⟩
  | _ => exact ⟨_, _, _, rfl⟩
theorem frz1_canon1 {h0 : Nat} {H : List HObj} {ti : Option TI} {T : TypeId → Option TI} {a : AVal} : frz1 h0 H (canon1 ti T a) = frz1 h0 H a := by
  cases a with
  | slice sp e n f =>
    obtain ⟨e', n', f', h⟩ := canon1_slice (ti := ti) (T := T) (sp := sp) (e := e) (n := n) (f := f)
    rw [h]; rfl
  | _ => rfl
theorem frz_canon {h0 : Nat} {H : List HObj} {ti : Option TI} {T : TypeId → Option TI} {a : AVal} {b : Bool} (h : b ∈ frz h0 H (canon ti T a)) : b ∈ frz h0 H a := by
  cases a with
  | agg cs =>
    simp only [canon, frz] at h ⊢
    obtain ⟨c, hc, hb⟩ := List.mem_flatMap.1 h
    obtain ⟨c0, hc0, rfl⟩ := List.mem_map.1 hc
    rw [frz1_canon1] at hb
    exact List.mem_flatMap.2 ⟨c0, hc0, hb⟩
  | slice sp e n f =>
    exfalso
    have h1 : canon ti T (.slice sp e n f) = canon1 ti T (.slice sp e n f) := rfl
    obtain ⟨e', n', f', h2⟩ := canon1_slice (ti := ti) (T := T) (sp := sp) (e := e) (n := n) (f := f)
    rw [h1, h2] at h
    simp [frz, frz1] at h
  | _ => exact h

theorem enter_sound {P : Program} {E : Env} {C : FuncId → List AVal → List HObj → AVal → List HObj → Prop} (hE : EnvOk P E C) {n : Nat} {f : FuncId} {fn : Fun} (hF : FunOk P f fn) : Sound P f (fun args H r H' => Den C (enter E n fn args H) (r, H')) := by
  intro args H r H' hrun vals w ω η hpre hargs
  obtain ⟨F, hF1, hF2, hF3, hF4, hF5⟩ := hF.ok
  have hR : Rel w ⟨ω, η, H.length⟩ w ⟨ω, η, fun _ => 0⟩ { ts := args.map dis ++ List.replicate (fn.ntmps - args.length) .undef, H := H } (vals ++ Array.replicate (F.ntmps - vals.size) undef) := by
    refine ⟨hpre.toBase, by simp [hF4, hargs.len], fun s a v h1 h2 => ?_, fun b o hb => ?_, fun b hb o => rfl, Keeps.refl _ _, ⟨Nat.le_refl _, fun _ _ => rfl⟩⟩
    · by_cases hs : s < args.length
      · rw [List.getElem?_append_left (by simpa using hs)] at h1
        rw [Array.getElem?_append_left (by rw [hargs.len]; exact hs)] at h2
        simp only [List.getElem?_map, Option.map_eq_some_iff] at h1
        obtain ⟨a0, ha0, rfl⟩ := h1
        exact (hargs.rep s a0 v ha0 h2).dis.ev.slot (isOwn_dis _)
      · rw [List.getElem?_append_right (by simp; omega)] at h1
        have := List.mem_of_getElem? h1
        simp only [List.mem_replicate] at this
        rw [this.2]; trivial
    · rcases hpre.none b o with e | e | ⟨id, e⟩ <;> (rcases hb with ⟨s, h⟩ | ⟨s, i, h⟩ <;> (simp only at h; rw [e] at h; cases h))
  refine calls_of_wp hF1 hF3 (exec_sound hE fn.body _ _ w _ _ _ hR hrun (fun e w' g' st' vs' hR' hk => ?_))
  have hfin : Den C (finish E fn H.length st') (r, H') → (⟨vs', []⟩ : Act).defers = [] ∧ ∃ v, (results F (⟨vs', []⟩ : Act).tmps).run P w' = .ok v w' ∧ ∃ v' ω' η', Ending.returned v = .returned v' ∧ Post w ω η H w' ω' η' H' r v' := by
    intro hk
    refine ⟨rfl, ?_⟩
    unfold finish at hk
    split at hk
    · rename_i l hl
      obtain ⟨hb, hk⟩ := cond_den hk
      obtain ⟨xs, hxs, hlen, hrep⟩ := resultsOf_run hE.T hR' fn.results l hl
      have hres : (results F vs').run P w' = .ok (if hh : xs.toArray.size = 1 then xs.toArray[0] else .tuple xs.toArray) w' := by
        rw [results_eq, Array.mapM_eq_mapM_toList, hF5]
        simp only [Sem.run_bind, Sem.run_map, hxs, Result.andThen_ok, Sem.run_pure]
      refine ⟨_, hres, ?_⟩
      obtain ⟨hp1, hp2⟩ := Rel.post (H0 := H) (a := r) (v := (if hh : xs.toArray.size = 1 then xs.toArray[0] else .tuple xs.toArray)) hR' hpre rfl
      have hzl : ∀ kp, xs.length = (outs E kp st'.H l fn.types).length := fun kp => by
        have := Nat.eq_of_beq_eq_true hb
        unfold outs
        rw [List.length_map, List.length_zip, hlen]; omega
      have hget : ∀ kp (j : Nat) a x, (outs E kp st'.H l fn.types)[j]? = some a → xs[j]? = some x → ∃ a0 t, a0 ∈ l ∧ a = canonR E.T kp st'.H t a0 ∧ Rep w' g'.I g'.η st'.H.length a0 x := fun kp j a x h1 h2 => by
        unfold outs at h1
        simp only [List.getElem?_map, Option.map_eq_some_iff] at h1
        obtain ⟨p, hp, rfl⟩ := h1
        exact ⟨p.1, p.2, List.mem_of_getElem? (zip_get hp), rfl, hrep j p.1 x (zip_get hp) h2⟩
      split at hk
      · obtain ⟨r', hs, hk⟩ := hand_den hk
        cases hk
        refine ⟨_, _, _, rfl, hp1 (Rep.same hs (pack_rep (hzl _) (fun j a x h1 h2 => ?_)))⟩
        obtain ⟨a0, t, _, rfl, hr0⟩ := hget _ j a x h1 h2
        exact (hr0.canon (E.T t) E.T).sub (fun b o hb => down_imm.2 hb)
      · obtain ⟨hnr, hk⟩ := cond_den hk
        obtain ⟨hfz, hk⟩ := asks_den hk
        obtain ⟨hall, hk⟩ := asks_den hk
        obtain ⟨r', hs, hk⟩ := hand_den hk
        cases hk
        refine ⟨_, _, _, rfl, hp2 (heapAsks_spec hall) (Rep.same hs ?_)⟩
        have hnr' := List.all_eq_true.1 hnr
        refine Rep.noRefAll (pack_rep (η := g'.η) (N := st'.H.length) (hzl _) (fun j a x h1 h2 => ?_)) _ _ (pack_noRef hnr)
        have hna := hnr' a (List.mem_of_getElem? h1)
        obtain ⟨a0, t, hm, rfl, hr0⟩ := hget _ j a x h1 h2
        refine Rep.freeze hR' (hr0.canon (E.T t) E.T) hna (fun b hb => hfz b (List.mem_flatMap.2 ⟨a0, hm, ?_⟩))
        exact frz_canon hb
      · obtain ⟨hnr, hk⟩ := cond_den hk
        obtain ⟨hall, hk⟩ := asks_den hk
        obtain ⟨r', hs, hk⟩ := hand_den hk
        cases hk
        refine ⟨_, _, _, rfl, hp2 (heapAsks_spec hall) (Rep.same hs ?_)⟩
        have hnr' := List.all_eq_true.1 hnr
        refine Rep.noRefAll (pack_rep (η := g'.η) (N := st'.H.length) (hzl _) (fun j a x h1 h2 => ?_)) _ _ (pack_noRef hnr)
        obtain ⟨a0, t, hm, rfl, hr0⟩ := hget _ j a x h1 h2
        exact hr0.dis.sub (fun b o hb => leave_imm hb)
    · exact (noDen hk).elim
  cases e with
  | normal => exact hfin hk
  | ret => exact hfin hk
  | exit id => exact (noDen hk).elim

structure ProgOk (P : Program) (G : Prog) : Prop where
  T : TOk P G.T
  fns : ∀ f fn, G.fns f = some fn → FunOk P f fn
  ext : ∀ f, Sound P f (G.ext f)
  able : ∀ f args H r H', G.ext f args H r H' → Callable P f
  mixed : P.follows .mixedOrders = true

theorem run_callable {P : Program} {G : Prog} (hG : ProgOk P G) : ∀ n f args H r H', Run G n f args H r H' → Callable P f
  | 0, f, args, H, r, H', h => h.elim
  | n + 1, f, args, H, r, H', h => by
    rcases h with h | ⟨fn, hfn, _⟩
    · exact hG.able f args H r H' h
    · exact (hG.fns f fn hfn).callable

/-- THE MACHINE'S RUN IS THE MODEL'S. -/
theorem run_sound {P : Program} {G : Prog} (hG : ProgOk P G) : ∀ n f, Sound P f (Run G n f)
  | 0, f => fun args H r H' h => h.elim
  | n + 1, f => by
    intro args H r H' h
    rcases h with h | ⟨fn, hfn, h⟩
    · exact hG.ext f args H r H' h
    · refine enter_sound (n := n) ⟨hG.T, fun f' => (run_sound hG n f').callIn, fun f' args' H'' r' H3 hr' => ?_, hG.mixed⟩ (hG.fns f fn hfn) args H r H' h
      rcases hr' with ⟨_, _, _, H0, hr'⟩ | hr'
      · exact run_callable hG n f' _ _ _ _ hr'
      · exact run_callable hG n f' _ _ _ _ hr'

end Go.AM
