/- Regions, code, calls: the machine's run is the model's. -/
import Derived.Test.YtkkinfbipndfdaaAmZ
import Derived.LoopN
set_option linter.unusedVariables false
set_option linter.unusedSimpArgs false
namespace Go.AM
open Go.RowKit

section
variable {R : Type} {P : Program} {E : Env} {w0 : World} {ω0 : Entry} {w : World} {g : Gh} {st : St} {vs : Array Value}
  {C : FuncId → List AVal → List HObj → AVal → List HObj → Prop} {o : Oper} {k : AVal → St → Tree R} {r : R} {next : Act → World → Prop} {Q : Exit → Act → World → Prop} {mv : Bool}

theorem run_equal_slice {t e : TypeId} {p : Option Addr} {n c : Nat} (h : P.underlying t = some (.slice e)) : (Op.equal t (.slice p n c) (.slice none 0 0)).run P w = .ok p.isNone w := by
  unfold Op.equal Op.maxDepth
  rw [Op.equalIn]
  cases p <;> simp only [Sem.run_bind, run_underlying h, Result.andThen_ok, Sem.run_pure, Option.isNone]

theorem run_eqGuard_slice {op : BinOp} {t : TypeId} {x y : Operand} {p q : Option Addr} {n c m d : Nat} : (eqGuard op t x y (.slice p n c) (.slice q m d)).run P w = .ok () w := by
  unfold eqGuard
  cases op <;> simp [Sem.run_pure]

theorem nilTest_run [VR : Vars] (hT : TOk P E.T) (h : Rel w0 ω0 w g st vs) {n : Nat} {b : Bool} (e : nilTest E st o.op = some (n, b)) :
    ∃ c, (execOp (Act.eval ⟨vs, []⟩) o).run P w = .ok (.value (.bool c)) w ∧ (c = b ∨ c = !b) ∧ (0 < n → c = !b) := by
  unfold nilTest at e
  split at e
  · rename_i t x u ho
    split at e
    · rename_i hti hx
      cases e
      have hu := (hT t _ hti).kind
      simp only [KOk] at hu
      have hv := ev_ne h hx (by simp) (by simp)
      generalize hq : Act.eval ⟨vs, []⟩ x = q at hv
      cases hv with
      | slice sp esz n f ad cap vals hc hx' hnl ha hl hp hrr =>
        refine ⟨ad.isNone, ?_, by cases ad <;> simp, fun h0 => by obtain ⟨b, o, rfl, _⟩ := ha h0; rfl⟩
        simp only [execOp, ho, hq]
        refine run_value ?_
        simp only [Act.eval, Sem.run_bind, run_eqGuard_slice, Result.andThen_ok, binOp, run_equal_slice hu, Sem.run_pure]
    · cases e
  · rename_i t x u ho
    split at e
    · rename_i hti hx
      cases e
      have hu := (hT t _ hti).kind
      simp only [KOk] at hu
      have hv := ev_ne h hx (by simp) (by simp)
      generalize hq : Act.eval ⟨vs, []⟩ x = q at hv
      cases hv with
      | slice sp esz n f ad cap vals hc hx' hnl ha hl hp hrr =>
        refine ⟨!ad.isNone, ?_, by cases ad <;> simp, fun h0 => by obtain ⟨b, o, rfl, _⟩ := ha h0; rfl⟩
        simp only [execOp, ho, hq]
        refine run_value ?_
        simp only [Act.eval, Sem.run_bind, run_eqGuard_slice, Result.andThen_ok, binOp, run_equal_slice hu, Sem.run_pure]
    · cases e
  · cases e

/-- An operation that yields a value. -/
theorem wpIn_val {ρ : Option Nat} {nn : Nat} {ds : List Deferred} {K : Act → World → Prop} {x : Value} {w' : World} (hd : ∀ c, o.op ≠ .defer c) (h : (execOp (Act.eval ⟨vs, []⟩) o).run P w = .ok (.value x) w') (hn : K ⟨(Act.put ⟨vs, []⟩ o.dst x).tmps, ds⟩ w') : o.wpIn (Fc ρ) nn P ⟨vs, ds⟩ w K Q :=
  wpIn_of_wp hd (wp_of_value h ⟨by cases o.dst <;> rfl, hn⟩)
theorem nilTest_op {n : Nat} {b : Bool} (e : nilTest E st o.op = some (n, b)) : ∀ c, o.op ≠ .defer c := fun c hc => by rw [hc] at e; cases e
theorem nextOf_op {x : Nat × Nat × List (AVal × AVal) × List (AVal × AVal)} (e : nextOf st o.op = some x) : ∀ c, o.op ≠ .defer c := fun c hc => by rw [hc] at e; cases e

theorem doOps_sound [VR : Vars] (hE : EnvOk P E C) {ρ : Option Nat} {nn : Nat} {ds : List Deferred} {ops : Array Oper} {kf : St → Tree R} : ∀ (rest : List Oper) (l : List Nat) (w : World) (g : Gh) (st : St) (vs : Array Value), (rest.length = l.length ∧ ∀ (j : Nat) i, l[j]? = some i → ops[i]? = rest[j]?) → Rel w0 ω0 w g st vs →
    Den C (doOps E ops.toList rest st kf) r → (∀ w' g' st' vs', Rel w0 ω0 w' g' st' vs' → Den C (kf st') r → Q .normal ⟨vs', ds⟩ w') → wpOpsIn (Fc ρ) nn P ops Q l ⟨vs, ds⟩ w
  | [], [], w, g, st, vs, _, h, hk, hn => by simp only [wpOpsIn]; exact hn w g st vs h hk
  | [], i :: l, _, _, _, _, hl, _, _, _ => by simp at hl
  | o :: rest, [], _, _, _, _, hl, _, _, _ => by simp at hl
  | o :: rest, i :: l, w, g, st, vs, hl, h, hk, hn => by
    have ho : ops[i]? = some o := hl.2 0 i rfl
    have hl' : rest.length = l.length ∧ ∀ (j : Nat) i, l[j]? = some i → ops[i]? = rest[j]? := ⟨by simpa using hl.1, fun j i' hj => by simpa using hl.2 (j + 1) i' (by simpa using hj)⟩
    simp only [wpOpsIn, ho]
    have hdo : ∀ st1, st1 = st → Den C (doOp E (mvOf E ops.toList o) o st1 (fun v st' => eqv E o.dst v fun v => doOps E ops.toList rest (putD st' o.dst v) kf)) r → o.wpIn (Fc ρ) nn P ⟨vs, ds⟩ w (wpOpsIn (Fc ρ) nn P ops Q l) Q := fun st1 e hk2 => by
      rw [e] at hk2
      refine doOpIn_sound hE h hk2 (fun v st' x w' g' hR hk' => ?_)
      obtain ⟨v', hsv, hk'⟩ := eqv_den hk'
      exact doOps_sound hE rest l w' g' _ _ hl' (hR.put_same hsv) hk' hn
    have hskip : ∀ st1, st1 = st → Den C (doOps E ops.toList rest (putD st1 o.dst (.tuple [])) kf) r → wpOpsIn (Fc ρ) nn P ops Q l (Act.put ⟨vs, ds⟩ o.dst undef) w := fun st1 e hk2 => by
      rw [e] at hk2
      have hR := h.put o.dst (v := .tuple []) (x := undef) (fun s => repSlot_skip)
      have hd : (Act.put ⟨vs, ds⟩ o.dst undef) = ⟨(Act.put ⟨vs, []⟩ o.dst undef).tmps, ds⟩ := by cases o.dst <;> rfl
      rw [hd]
      exact doOps_sound hE rest l w g _ _ hl' hR hk2 hn
    simp only [doOps] at hk
    split at hk
    · rename_i hg
      rw [if_pos (by simp [Region.wanted, hg])]
      split at hk
      · rename_i n b hnt
        obtain ⟨c, hrun, hc, h0⟩ := nilTest_run hE.T h hnt
        refine wpIn_val (nilTest_op hnt) hrun ?_
        have hput : ∀ c', Den C (doOps E ops.toList rest (putD st o.dst (.bool c')) kf) r → c = c' → wpOpsIn (Fc ρ) nn P ops Q l ⟨(Act.put ⟨vs, []⟩ o.dst (.bool c)).tmps, ds⟩ w := fun c' hk2 e => by
          subst e
          have hR := h.put o.dst (v := .bool c) (x := .bool c) (fun s => RepSlot.of_pl ⟨.bool c, fun e n f he => by cases he⟩)
          exact doOps_sound hE rest l w g _ _ hl' hR hk2 hn
        rcases hk.inv with ⟨e, hk⟩ | ⟨e, hk⟩
        · exact hput _ hk (h0 (of_decide_eq_true e))
        · obtain ⟨hk1, hk2⟩ := hk.anyInv
          rcases hc with e | e
          · exact hput _ hk1 e
          · exact hput _ hk2 e
      · split at hk
        · rename_i id m es todo hnx
          have hput : ∀ {w' : World} {g' : Gh} {st' : St} {A : List AVal} {V : Array Value}, Rel w0 ω0 w' g' st' vs → Rep w' g'.I g'.η st'.H.length (.tuple A) (.tuple V) → (execOp (Act.eval ⟨vs, []⟩) o).run P w = .ok (.value (.tuple V)) w' →
              Den C (doOps E ops.toList rest (putD st' o.dst (.tuple A)) kf) r → o.wpIn (Fc ρ) nn P ⟨vs, ds⟩ w (wpOpsIn (Fc ρ) nn P ops Q l) Q := fun {w' g' st' A V} hR' hrep hrun hk2 => by
            refine wpIn_val (nextOf_op hnx) hrun ?_
            have hR := hR'.put o.dst (v := .tuple A) (x := .tuple V) (fun s => RepSlot.of_pl ⟨hrep, fun e n f he => by cases he⟩)
            exact doOps_sound hE rest l w' g' _ _ hl' hR hk2 hn
          rcases next_sound (P := P) h hnx with ⟨h0, hrun⟩ | ⟨j, w', K, V, hj, hrun, hR', hK, hV⟩
          · rcases hk.inv with ⟨e, hk⟩ | ⟨e, hk⟩
            · exact hput h (.tuple _ _ rfl (fun i c v hc hv => by
                rcases i with _ | i
                · simp at hc hv; subst hc; subst hv; exact .bool false
                · simp at hc)) hrun hk
            · rw [h0] at e; cases e
          · rcases hk.inv with ⟨e, hk⟩ | ⟨e, hk⟩
            · rw [List.isEmpty_iff] at e; subst e; simp at hj
            · refine hput hR' ?_ hrun (hk.allInv j hj)
              simp only [List.length_set]
              refine .tuple _ _ rfl (fun i c v hc hv => ?_)
              rcases i with _ | _ | _ | i
              · simp at hc hv; subst hc; subst hv; exact .bool true
              · simp only [List.getElem?_cons_succ, List.getElem?_cons_zero, Option.some.injEq] at hc
                simp at hv; subst hc; subst hv; exact hK
              · simp only [List.getElem?_cons_succ, List.getElem?_cons_zero, Option.some.injEq] at hc
                simp at hv; subst hc; subst hv; exact hV.disAgg
              · simp at hc
        · exact (hdo st rfl hk)
    · rename_i j want hg
      split at hk
      · rename_i d hd
        have hd' : (ops[j]?).bind (·.dst) = some d := by simpa using hd
        split at hk
        · rename_i b hb
          have hv := h.bool_at hb
          have hy : yielded ops vs j = some b := by simp [yielded, hd', hv]
          have hsame : ∀ b', b = b' → ({ st with ts := st.ts.set d (.bool b') } : St) = st := fun b' e => by rw [← e, (set_same hb (by simp)).1]
          cases want with
          | true =>
            rcases hk.inv with ⟨e, hk⟩ | ⟨e, hk⟩
            · rw [if_pos (by simp [Region.wanted, hg, hy, e])]
              exact (hdo _ (hsame true e) hk)
            · rw [if_neg (by simp [Region.wanted, hg, hy, e])]
              exact ⟨fun _ _ => trivial, hskip _ (hsame false e) hk⟩
          | false =>
            rcases hk.inv with ⟨e, hk⟩ | ⟨e, hk⟩
            · rw [if_neg (by simp [Region.wanted, hg, hy, e])]
              exact ⟨fun _ _ => trivial, hskip _ (hsame true e) hk⟩
            · rw [if_pos (by simp [Region.wanted, hg, hy, e])]
              exact (hdo _ (hsame false e) hk)
        · rename_i hb
          have hv := h.tuple_at hb
          have hy : yielded ops vs j = none := by simp [yielded, hd', hv]
          rw [if_neg (by simp [Region.wanted, hg, hy])]
          exact ⟨fun _ _ => trivial, hskip _ rfl hk⟩
        · exact (noDen hk).elim
      · exact (noDen hk).elim


def toExit : AExit → Exit
  | .normal => .normal
  | .ret => .ret
  | .exit id => .exit id

theorem exit_then {nx : Act → World → Prop} {e : AExit} {a : Act} {w : World} (h : e = .normal → nx a w) (h' : e ≠ .normal → Q (toExit e) a w) : Exit.then nx Q (toExit e) a w := by
  cases e with
  | normal => exact h rfl
  | ret => exact h' (by simp)
  | exit id => exact h' (by simp)

/-- Ahead of a loop the marks of spare room change their names. -/
theorem Rel.norm [VR : Vars] (h : Rel w0 ω0 w g st vs) : Rel w0 ω0 w g { st with ts := st.ts.map normS } vs := by
  have hV : ∀ s i a v, RepPl w g st.H.length s i a v → RepPl w g st.H.length s i (normV a) v := fun s i a v hr => by
    obtain ⟨h1, h2⟩ := hr
    cases h1 with
    | slice sp esz n f ad cap vals hc hx hnl ha hl hp hrr =>
      cases sp with
      | exact =>
        refine ⟨.slice .own esz n f ad cap vals hc (by simp) (by simp) ha hl hp hrr, fun e n' f' he => ?_⟩
        cases he
        exact ⟨ad, cap, rfl, fun j h3 h4 => by rw [hx rfl] at h4; omega⟩
      | nil =>
        refine ⟨.slice .own esz n f ad cap vals hc (by simp) (by simp) ha hl hp hrr, fun e n' f' he => ?_⟩
        cases he
        exact ⟨ad, cap, rfl, fun j h3 h4 => by rw [(hnl rfl).2] at h4; omega⟩
      | shared => exact ⟨.slice .shared esz n f ad cap vals hc hx hnl ha hl hp hrr, h2⟩
      | own => exact ⟨.slice .own esz n f ad cap vals hc hx hnl ha hl hp hrr, h2⟩
    | agg cs vs hl hr hp => exact ⟨.agg cs vs hl hr hp, h2⟩
    | bool b => exact ⟨.bool b, h2⟩
    | int k n => exact ⟨.int k n, h2⟩
    | str s => exact ⟨.str s, h2⟩
    | nilIface => exact ⟨.nilIface, h2⟩
    | nilFunc => exact ⟨.nilFunc, h2⟩
    | nilMap => exact ⟨.nilMap, h2⟩
    | nilPtr => exact ⟨.nilPtr, h2⟩
    | func f cs vs hl hr => exact ⟨.func f cs vs hl hr, h2⟩
    | tuple cs vs hl hr => exact ⟨.tuple cs vs hl hr, h2⟩
    | rptr c b o vals hp ha hr => exact ⟨.rptr c b o vals hp ha hr, h2⟩
    | map id h => exact ⟨.map id h, h2⟩
    | href id off h => exact ⟨.href id off h, h2⟩
    | mslice id off n esz ag cap h hc hag => exact ⟨.mslice id off n esz ag cap h hc hag, h2⟩
    | iface t a v hr => exact ⟨.iface t a v hr, h2⟩
    | yld id h => exact ⟨.yld id h, h2⟩
    | err t v => exact ⟨.err t v, h2⟩
  have hplain : ∀ c, plain (normV c) = plain c := fun c => by
    cases c <;> first | rfl | (rename_i sp e n f; cases sp <;> rfl)
  refine h.set_ts (by simp) (fun s a v h1 h2 _ => ?_)
  simp only [List.getElem?_map, Option.map_eq_some_iff] at h1
  obtain ⟨a0, h0, rfl⟩ := h1
  have hs := h.slot s a0 v h0 h2
  cases a0 with
  | lbox cs =>
    obtain ⟨h3, h4, h5⟩ := hs
    refine ⟨h3, fun o ho => h4 o (by simpa using ho), fun o c hc => ?_⟩
    simp only [List.getElem?_map, Option.map_eq_some_iff] at hc
    obtain ⟨c0, hc0, rfl⟩ := hc
    obtain ⟨h6, x, h7, h8⟩ := h5 o c0 hc0
    exact ⟨by rw [hplain]; exact h6, x, h7, hV _ _ _ _ h8⟩
  | undef => trivial
  | lptr s' o => exact hs
  | slice sp e n f =>
    have := hV s 0 _ v hs
    cases sp <;> exact this
  | _ => exact hs

/-- The entry, with what is known now of the abstract heap's places. -/
structure Ext (ω0 ω0' : Entry) : Prop where
  ω : ω0'.ω = ω0.ω
  n : ω0.n ≤ ω0'.n
  η : ∀ id, id < ω0.n → ω0'.η id = ω0.η id
theorem Ext.refl (ω0 : Entry) : Ext ω0 ω0 := ⟨rfl, Nat.le_refl _, fun _ _ => rfl⟩
theorem Ext.trans {a b c : Entry} (h : Ext a b) (k : Ext b c) : Ext a c := ⟨k.ω.trans h.ω, Nat.le_trans h.n k.n, fun id hid => (k.η id (Nat.lt_of_lt_of_le hid h.n)).trans (h.η id hid)⟩
theorem Rel.shrink [VR : Vars] {ω0' : Entry} (h : Rel w0 ω0' w g st vs) (he : Ext ω0 ω0') : Rel w0 ω0 w g st vs :=
  ⟨h.base, h.len, h.slot, by have := h.mine; rw [he.ω] at this; exact this, by have := h.past; rw [he.ω] at this; exact this, by have := h.keeps; rw [he.ω] at this; exact this, Nat.le_trans he.n h.old.1, fun id hid => (h.old.2 id (Nat.lt_of_lt_of_le hid he.n)).trans (he.η id hid)⟩
theorem Rel.grow [VR : Vars] (h : Rel w0 ω0 w g st vs) : Rel w0 { ω := ω0.ω, η := g.η, n := st.H.length } w g st vs ∧ Ext ω0 { ω := ω0.ω, η := g.η, n := st.H.length } :=
  ⟨⟨h.base, h.len, h.slot, h.mine, h.past, h.keeps, Nat.le_refl _, fun _ _ => rfl⟩, ⟨rfl, h.old.1, h.old.2⟩⟩

/-- The blocks of deferred calls that the activation is to hand over at its end. -/
def Marks (ω0 : Entry) (ms : List Nat) (ds : List Deferred) : Prop := (∀ m ∈ ms, m < ω0.n) ∧ ds = ms.map fun m => { target := .collected (ω0.η m), args := #[] }
theorem Marks.ext {ω0' : Entry} {ms : List Nat} {ds : List Deferred} (h : Marks ω0 ms ds) (he : Ext ω0 ω0') : Marks ω0' ms ds := by
  refine ⟨fun m hm => Nat.lt_of_lt_of_le (h.1 m hm) he.n, h.2.trans (List.map_congr_left fun m hm => ?_)⟩
  rw [he.η m (h.1 m hm)]
theorem Rel.ms [VR : Vars] (h : Rel w0 ω0 w g st vs) (ms : List Nat) : Rel w0 ω0 w g { st with ms := ms } vs := ⟨h.base, h.len, h.slot, h.mine, h.past, h.keeps, h.old⟩

theorem ghosts_ms : ∀ (l : List Ghost) (st : St), (ghosts st l).ms = st.ms
  | [], _ => rfl
  | x :: l, st => by
    simp only [ghosts]
    rw [ghosts_ms l]
    cases x with
    | frz s => rfl
    | unl s => simp only [ghost1]; split <;> rfl
    | vec s =>
      simp only [ghost1]; split
      · rename_i e n f _; cases (Nat.blt 0 e && Nat.beq n 0) <;> rfl
      · rfl
theorem drop_ms (id : Option Nat) (st : St) : (AM.drop E id st).ms = st.ms := by cases id <;> rfl

/-- What is saved for the rounds. -/
theorem save_rep {N s : Nat} {a : AVal} {v : Value} (h : RepSlot w g N s a v) : save a = .undef ∨ Rep w g.I g.η N (save a) v := by
  cases a with
  | undef => exact .inl rfl
  | lbox cs => exact .inl rfl
  | lptr s' o => exact .inl rfl
  | vec e n cs => exact .inl rfl
  | vref s' n => exact .inl rfl
  | slice sp e n f => exact .inr (wkV_rep (h : RepPl w g N s 0 _ v).1)
  | _ => exact .inr (h : RepPl w g N s 0 _ v).1

/-- A loop over a function begins: its two blocks. -/
theorem Rel.loopIn [VR : Vars] (h : Rel w0 ω0 w g st vs) (L : LoopC) (fid : Option Nat) (fn : FuncId) :
    ∃ g', Rel w0 ω0 ((w.alloc (.deferred (some []))).alloc (.loop { state := .ready, pending := none, fn := fn, tmps := vs, params := L.params.toArray, assign := L.assign, body := L.body, defers := w.heap.size })) g'
      { st with H := st.H ++ [.dfr, .loop L ((AM.drop E fid st).ts.map save) .ready] } vs ∧ g'.η st.H.length = w.heap.size ∧ g'.η (st.H.length + 1) = w.heap.size + 1 ∧ ∀ id, id < st.H.length → g'.η id = g.η id := by
  obtain ⟨g1, h1, e1, e2⟩ := h.newObj (.deferred (some [])) .dfr (fun _ _ _ e => by cases e) (fun _ _ _ _ e => by cases e) (fun g' _ h3 h4 h5 => ⟨by rw [h3]; exact h4, by rw [h3]; exact h5⟩)
  have hlen1 : ({ st with H := st.H ++ [.dfr] } : St).H.length = st.H.length + 1 := by simp
  have hd := h1.drop (E := E) (id := fid)
  obtain ⟨g2, h2, e3, e4⟩ := h1.newObj (.loop { state := .ready, pending := none, fn := fn, tmps := vs, params := L.params.toArray, assign := L.assign, body := L.body, defers := w.heap.size }) (.loop L ((AM.drop E fid st).ts.map save) .ready) (fun _ _ _ e => by cases e) (fun _ _ _ _ e => by cases e) (fun g' hm h3 h4 h5 => by
    refine ⟨by rw [h3]; exact h4, fn, vs, w.heap.size, by rw [h3]; exact h5, ?_, fun i a v ha hv => ?_⟩
    · have := (h.drop (E := E) (id := fid)).len; simpa using this
    · simp only [List.getElem?_map, Option.map_eq_some_iff] at ha
      obtain ⟨a0, ha0, rfl⟩ := ha
      have hts : (AM.drop E fid { st with H := st.H ++ [.dfr] }).ts = (AM.drop E fid st).ts := by cases fid <;> rfl
      have hHH : (AM.drop E fid { st with H := st.H ++ [.dfr] }).H = st.H ++ [.dfr] := by cases fid <;> rfl
      have hs := hd.slot i a0 v (by rw [hts]; exact ha0) hv
      rw [hHH] at hs
      exact (save_rep hs).imp (fun e => e) hm)
  rw [hlen1] at e3 e4
  refine ⟨g2, by simpa using h2, (e4 _ (Nat.lt_succ_self _)).trans e1, e3.trans (by simp), fun id hid => (e4 id (by omega)).trans (e2 id hid)⟩

/-- Behind a loop over a function. -/
theorem Rel.loopOut [VR : Vars] (h : Rel w0 ω0 w g st vs) {id : Nat} {L : LoopC} {ts : List AVal} {s : LSt} (hq : st.H[id]? = some (.loop L ts s)) (hs : stateOf s ≠ .busy) :
    ∃ w', (Instr.endLoop (g.η id)).run P w = .ok (pendOf s) w' ∧ Rel w0 ω0 w' g { st with H := st.H.set id (.locked 0) } vs := by
  obtain ⟨h1, fn, tm, D, h2, h3, h4⟩ := h.base.heap id _ hq
  refine ⟨_, run_endLoop h2 hs, h.turn hq h2 (fun _ _ _ e => by cases e) (fun _ _ _ e => by cases e) h1 (fun i e => by cases e) (fun _ _ _ _ e => by cases e) (fun w' _ _ _ => h1)⟩

theorem exec_sound [VR : Vars] (hE : EnvOk P E C) {ρ : Option Nat} {nn : Nat} (hρ : E.rnd = false → ρ = none) {n : Nat} : ∀ (c : Code) (k : AExit → St → Tree R) (Q : Exit → Act → World → Prop) (w : World) (g : Gh) (st : St) (vs : Array Value) (ω0 : Entry) (ds : List Deferred), Rel w0 ω0 w g st vs → Marks ω0 st.ms ds → Den C (exec E n c st k) r →
    (∀ e w' g' st' vs' ω0' ds', Ext ω0 ω0' → Rel w0 ω0' w' g' st' vs' → Marks ω0' st'.ms ds' → Den C (k e st') r → Q (toExit e) ⟨vs', ds'⟩ w') → c.wpIn (Fc ρ) nn P Q ⟨vs, ds⟩ w := by
  intro c
  induction c with
  | skip => exact fun k Q w g st vs ω0 ds h hm hk hn => wpIn_skip (hn .normal w g st vs ω0 ds (.refl _) h hm hk)
  | region id ops draw =>
    intro k Q w g st0 vs ω0 ds h0 hm hk0 hn
    simp only [exec] at hk0
    obtain ⟨g, st, h, hk⟩ : ∃ g st, Rel w0 ω0 w g st vs ∧ Den C (bif draw then drawn E ops.toList st (fun st' => k .normal { st' with ms := st0.ms }) else doOps E ops.toList ops.toList st (fun st' => k .normal { st' with ms := st0.ms })) r := by
      obtain ⟨g1, hd⟩ := (h0.drop (E := E) (id := some id)).ghosts (ghostAt id E.hint.gh)
      replace hk0 : Den C (reg E id ops draw k (drop E (some id) st0)) r := by
        cases hj : E.hint.joins.contains id <;> rw [hj] at hk0
        · exact hk0
        · exact hk0.joinInv
      unfold reg reHeap at hk0
      rw [drop_ms] at hk0
      cases hb : E.hint.reH.contains id <;> rw [hb] at hk0
      · exact ⟨g1, _, hd, hk0⟩
      · obtain ⟨H', hs, hk⟩ := Den.sameHInv hk0
        exact ⟨g1, _, hd.sameH hs, hk⟩
    cases draw with
    | true =>
      simp only [cond_true] at hk
      exact drawn_sound hE h hk (fun w' g' st' vs' hR hk' => hn .normal w' g' _ vs' ω0 ds (.refl _) (hR.ms _) hm hk')
    | false =>
      simp only [cond_false] at hk
      refine wpIn_region (doOps_sound hE ops.toList (List.range ops.size) w g st vs ⟨by simp, fun j i hj => ?_⟩ h hk (fun w' g' st' vs' hR hk' => hn .normal w' g' _ vs' ω0 ds (.refl _) (hR.ms _) hm hk'))
      have hj' := lt_of_some hj
      simp only [List.length_range] at hj'
      rw [List.getElem?_range hj'] at hj
      cases hj
      simp
  | seq a b iha ihb =>
    intro k Q w g st vs ω0 ds h hm hk hn
    simp only [exec] at hk
    refine wpIn_seq (iha _ _ w g st vs ω0 ds h hm hk (fun e w' g' st' vs' ω0' ds' he hR hm' hk' => exit_then (fun hh => ?_) (fun hh => ?_)))
    · subst hh; exact ihb k Q w' g' st' vs' ω0' ds' hR hm' hk' (fun e w2 g2 st2 vs2 ω2 ds2 he2 => hn e w2 g2 st2 vs2 ω2 ds2 (he.trans he2))
    · cases e with
      | normal => exact absurd rfl hh
      | ret => exact hn .ret w' g' st' vs' ω0' ds' he hR hm' hk'
      | exit id => exact hn (.exit id) w' g' st' vs' ω0' ds' he hR hm' hk'
  | cond x a b iha ihb =>
    intro k Q w g st vs ω0 ds h hm hk hn
    cases x with
    | tmp t =>
      simp only [exec] at hk
      split at hk
      · rename_i c hc
        have hv := h.bool_at hc
        have hev : Act.eval ⟨vs, ds⟩ (.tmp t) = .bool c := by simp [Act.eval, Array.getD_eq_getD_getElem?, hv]
        have hsame : ∀ b', c = b' → ({ st with ts := st.ts.set t (.bool b') } : St) = st := fun b' e => by rw [← e, (set_same hc (by simp)).1]
        rcases hk.inv with ⟨e, hk⟩ | ⟨e, hk⟩
        · rw [hsame true e] at hk
          exact wpIn_cond_true (by rw [hev, e]) (iha k Q w g st vs ω0 ds h hm hk hn)
        · rw [hsame false e] at hk
          exact wpIn_cond_false (by rw [hev, e]) (ihb k Q w g st vs ω0 ds h hm hk hn)
      · exact (noDen hk).elim
    | _ => simp only [exec] at hk; exact (noDen hk).elim
  | block id c ih =>
    intro k Q w g st vs ω0 ds h hm hk hn
    simp only [exec] at hk
    refine wpIn_block (ih _ _ w g st vs ω0 ds h hm hk (fun e w' g' st' vs' ω0' ds' he hR hm' hk' => ?_))
    cases e with
    | normal => exact hn .normal w' g' st' vs' ω0' ds' he hR hm' hk'
    | ret => exact hn .ret w' g' st' vs' ω0' ds' he hR hm' hk'
    | exit id' =>
      simp only [blockK] at hk'
      show (if id' = id then Q .normal _ _ else Q (.exit id') _ _)
      cases hb : Nat.beq id' id <;> rw [hb] at hk'
      · rw [if_neg (Nat.ne_of_beq_eq_false hb)]; exact hn (.exit id') w' g' st' vs' ω0' ds' he hR hm' hk'
      · rw [if_pos (Nat.eq_of_beq_eq_true hb)]; exact hn .normal w' g' st' vs' ω0' ds' he hR hm' hk'
  | loop c ih =>
    intro k Q w g st vs ω0 ds h hm hk hn
    simp only [exec] at hk
    refine wpIn_loop_rounds n ?_
    have key : ∀ m w g st vs ω1 ds, Ext ω0 ω1 → Rel w0 ω1 w g st vs → Marks ω1 st.ms ds → Den C (iter (exec E n c) (AM.drop E (firstId c)) m st k) r → Code.roundsIn (Fc ρ) nn P c Q m ⟨vs, ds⟩ w := by
      intro m
      induction m with
      | zero => intro w g st vs ω1 ds _ h _ hk; exact (noDen hk).elim
      | succ m ihm =>
        intro w g st vs ω1 ds hx h hm hk
        simp only [iter] at hk
        refine ih _ _ w g st vs ω1 ds h hm hk (fun e w' g' st' vs' ω0' ds' he hR hm' hk' => exit_then (fun hh => ?_) (fun hh => ?_))
        · subst hh; exact ihm w' g' _ vs' ω0' ds' (hx.trans he) hR.drop (by rw [drop_ms]; exact hm') hk'
        · cases e with
          | normal => exact absurd rfl hh
          | ret => exact hn .ret w' g' st' vs' ω0' ds' (hx.trans he) hR hm' hk'
          | exit id => exact hn (.exit id) w' g' st' vs' ω0' ds' (hx.trans he) hR hm' hk'
    exact key n w g _ vs ω0 ds (.refl _) h.norm.drop (by rw [drop_ms]; exact hm) hk
  | exit id => exact fun k Q w g st vs ω0 ds h hm hk hn => wpIn_exit (hn (.exit id) w g st vs ω0 ds (.refl _) h hm hk)
  | ret => exact fun k Q w g st vs ω0 ds h hm hk hn => wpIn_ret (hn .ret w g st vs ω0 ds (.refl _) h hm hk)
  | rangeFunc f ps assign body =>
    intro k Q w g st vs ω0 ds h hm hk hn
    simp only [exec] at hk
    split at hk
    · rename_i gf caps hf
      obtain ⟨hb, hk⟩ := cond_den hk
      simp only [Bool.and_eq_true, Bool.not_eq_true'] at hb
      obtain ⟨hrnd, hlt⟩ := hb
      have hlt : gf < rnd0 := by rw [Nat.blt_eq] at hlt; exact hlt
      have hρ0 := hρ hrnd
      subst hρ0
      obtain ⟨v, H', hcall, hk⟩ := hk.callInv
      obtain ⟨F, hfn, hname, hbody⟩ := hE.able _ _ _ _ _ hlt hcall
      have hrf := ev_ne h hf (by simp) (by simp)
      refine wpIn_rangeFunc (F := Fc none) (fun fn _ => ?_)
      generalize hX : Act.eval ⟨vs, []⟩ f = q at hrf
      cases hrf with
      | func _ _ cv hcl hcr =>
        obtain ⟨g1, hR1, e1, e2, e3⟩ := h.loopIn (E := E) ⟨ridAt (firstId body) E.hint.rid, ps.toList, assign, body⟩ (firstId body) fn
        generalize hW : ((w.alloc (.deferred (some []))).alloc (.loop { state := .ready, pending := none, fn := fn, tmps := vs, params := ps.toList.toArray, assign := assign, body := body, defers := w.heap.size })) = W1 at hR1
        have hX2 : Act.eval ⟨vs, ds⟩ f = .func (.func gf) #[] cv := by rw [← hX]; cases f <;> rfl
        have hrf1 := ev_ne (x := f) hR1 (show ev st.ts f = _ from hf) (by simp) (by simp)
        rw [hX] at hrf1
        have hargs : ArgsOk W1 (down g1.ω) g1.η ((st.H ++ [HObj.dfr, HObj.loop ⟨ridAt (firstId body) E.hint.rid, ps.toList, assign, body⟩ ((AM.drop E (firstId body) st).ts.map save) .ready] : List HObj)).length (.yld (st.H.length + 1) :: caps) (#[.func (.yield (w.heap.size + 1)) #[] #[]] ++ cv) := by
          refine ⟨by simp [hcl]; omega, fun i a x h1 h2 => ?_⟩
          cases i with
          | zero =>
            rw [Array.getElem?_append_left (by simp)] at h2
            simp at h1 h2; subst h1; subst h2
            rw [← e2]; exact .yld _ (by simp)
          | succ i =>
            rw [Array.getElem?_append_right (by simp)] at h2
            simp only [List.getElem?_cons_succ] at h1
            cases hrf1 with
            | func _ _ _ hcl1 hcr1 => exact (hcr1 i a x h1 (by simpa using h2)).sub (fun b o hb => down_imm.2 hb)
        refine ⟨w.heap.size + 1, [{ target := .collected w.heap.size, args := #[] }], W1, { target := .fn (.func gf) cv, args := #[.func (.yield (w.heap.size + 1)) #[] #[]] }, W1, gf, #[.func (.yield (w.heap.size + 1)) #[] #[]] ++ cv, W1, by rw [← hW, Array.toArray_toList]; exact run_enterLoop_outer fn vs ps assign body, ?_, fun _ _ => trivial, ?_, (fun hh => by cases hh), ?_⟩
        · simp only [resolve, hX2]
          simp [go_sem]
        · simp only [invoke, callFunc, Sem.run_bind, run_program, Result.andThen_ok, hfn, hname, hbody]
          simp [hname, hbody]
        · refine CallsIn.mono (callsIn_wide.2 (hE.call gf hlt _ _ _ _ hcall _ _ (down g1.ω) g1.η hR1.pre hargs)) ?_
          rintro e w3 ⟨v', ω', η', rfl, hpost⟩
          obtain ⟨hR2, _⟩ := hR1.after hpost
          have hη : ∀ id, id < st.H.length + 2 → η' id = g1.η id := fun id hid => hpost.eta id (by simpa using hid)
          unfold loopEnd at hk
          have hlenH : st.H.length + 2 ≤ H'.length := by have := hpost.len; simpa using this
          have key : ∀ (L2 : LoopC) (ts2 : List AVal) (s : LSt), H'[st.H.length + 1]? = some (.loop L2 ts2 s) → stateOf s ≠ .busy → ∃ w4, (Instr.endLoop (w.heap.size + 1)).run P w3 = .ok (pendOf s) w4 ∧
              ∃ ω0' g2, Ext ω0 ω0' ∧ Rel w0 ω0' w4 g2 { st with H := H'.set (st.H.length + 1) (.locked 0), ms := st.H.length :: st.ms } vs ∧ Marks ω0' (st.H.length :: st.ms) ([{ target := .collected w.heap.size, args := #[] }] ++ ds) := fun L2 ts2 s hL hs => by
            obtain ⟨w4, h1, h2⟩ := hR2.loopOut (P := P) hL hs
            rw [show (Gh.mk (up _ g1.ω ω') η' g1.β).η (st.H.length + 1) = w.heap.size + 1 from (hη _ (by omega)).trans e2] at h1
            obtain ⟨h3, h4⟩ := h2.grow
            refine ⟨w4, h1, _, _, h4, h3.ms _, fun m hm' => ?_, ?_⟩
            · simp only [List.length_set]
              rcases List.mem_cons.1 hm' with rfl | hm'
              · omega
              · have := hm.1 m hm'; have := h.old.1; omega
            · simp only [List.map_cons, List.singleton_append]
              rw [hη _ (by omega), e1]
              congr 1
              rw [hm.2]
              refine List.map_congr_left fun m hm' => ?_
              have h5 := hm.1 m hm'
              have h6 := h.old.1
              rw [hη m (by omega), e3 m (by omega), h.old.2 m h5]
          split at hk
          · rename_i L2 ts2 hL hD
            obtain ⟨w4, h1, ω0', g2, h2, h3, h4⟩ := key L2 ts2 .ready hL (by simp [stateOf])
            exact ⟨none, w4, h1, hn .normal w4 g2 _ vs ω0' _ h2 h3 h4 hk⟩
          · rename_i L2 ts2 hL hD
            obtain ⟨w4, h1, ω0', g2, h2, h3, h4⟩ := key L2 ts2 (.done .ret) hL (by simp [stateOf])
            exact ⟨some .ret, w4, h1, wpIn_ret (hn .ret w4 g2 _ vs ω0' _ h2 h3 h4 hk)⟩
          · rename_i L2 ts2 i hL hD
            obtain ⟨w4, h1, ω0', g2, h2, h3, h4⟩ := key L2 ts2 (.done (.exit i)) hL (by simp [stateOf])
            exact ⟨some (.exit i), w4, h1, wpIn_exit (hn (.exit i) w4 g2 _ vs ω0' _ h2 h3 h4 hk)⟩
          · exact (noDen hk).elim
    · exact (noDen hk).elim
  | _ => intro k Q w g st vs ω0 ds h hm hk hn; simp only [exec] at hk; exact (noDen hk).elim

end
end Go.AM
