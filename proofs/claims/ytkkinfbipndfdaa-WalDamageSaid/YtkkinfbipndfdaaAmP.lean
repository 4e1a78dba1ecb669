/- The remaining operations. -/
import Derived.ChangeKeysEq
import Derived.Test.YtkkinfbipndfdaaAmN
import Derived.Laws.StructEq
import Derived.Laws.BytesString
import Derived.MapKept
import Derived.Laws.IdiomStrings
set_option linter.unusedVariables false
set_option linter.unusedSimpArgs false
namespace Go.AM
open Go.RowKit Go.MapKept

section
variable {R : Type} {P : Program} {E : Env} {w0 : World} {ω0 : Entry} {w : World} {g : Gh} {st : St} {vs : Array Value}
  {C : FuncId → List AVal → List HObj → AVal → List HObj → Prop} {o : Oper} {k : AVal → St → Tree R} {r : R} {next : Act → World → Prop} {Q : Exit → Act → World → Prop} {mv : Bool}

theorem flatten_rep {α : Type} (l : List α) : ∀ (n j : Nat), 0 < l.length → j < n * l.length → (List.replicate n l).flatten[j]? = l[j % l.length]?
  | 0, j, _, h => by simp at h
  | n + 1, j, h0, h => by
    rw [List.replicate_succ, List.flatten_cons]
    by_cases hj : j < l.length
    · rw [List.getElem?_append_left hj, Nat.mod_eq_of_lt hj]
    · rw [List.getElem?_append_right (by omega), flatten_rep l n (j - l.length) h0 (by rw [Nat.succ_mul] at h; omega)]
      congr 1
      rw [Nat.mod_eq_sub_mod (by omega : j ≥ l.length)]
theorem flatten_len {α : Type} (l : List α) : ∀ (n : Nat), (List.replicate n l).flatten.length = n * l.length
  | 0 => by simp
  | n + 1 => by rw [List.replicate_succ, List.flatten_cons, List.length_append, flatten_len l n, Nat.succ_mul]; omega

/-- Zero cells, again and again. -/
theorem zeros_cells {t : TypeId} {i : TI} (hTi : TIOk P t i) {z : Value} {inf : TypeInfo} (hzc : ∀ w I η N, Cells w I η N i.zero.cells z.cells) (n : Nat) (w : World) (I : Nat → Nat → Prop) (η : Nat → Nat) (N : Nat) :
    Cells w I η N (List.replicate n i.zero.cells).flatten ((Array.range (n * i.size)).map (z.cells[· % z.cells.size]!)) := by
  have h0 := hzc w I η N
  have hzs : z.cells.size = i.size := by rw [h0.1, hTi.zlen]
  refine ⟨by rw [flatten_len, hTi.zlen]; simp, fun j c x hc hx => ?_⟩
  have hj := lt_of_some hc
  rw [flatten_len, hTi.zlen] at hj
  rw [flatten_rep _ _ _ (by rw [hTi.zlen]; exact hTi.pos) (by rw [hTi.zlen]; exact hj), hTi.zlen] at hc
  have hm : j % i.size < z.cells.size := by rw [hzs]; exact Nat.mod_lt _ hTi.pos
  have hr : (Array.range (n * i.size))[j]? = some j := by simp [hj]
  simp only [Array.getElem?_map, hr, Option.map_some, Option.some.injEq] at hx
  rw [hzs, getElem!_pos z.cells (j % i.size) hm] at hx
  subst hx
  exact h0.2 _ c _ hc (Array.getElem?_eq_getElem hm)

theorem wkV_rep {w : World} {I : Nat → Nat → Prop} {η : Nat → Nat} {N : Nat} {a : AVal} {v : Value} (h : Rep w I η N a v) : Rep w I η N (wkV a) v := by
  cases a with
  | slice sp e n f =>
    cases h with
    | slice _ esz n f ad cap vals hc hx hnl ha hl hp hrr => exact .slice .shared e n f ad cap vals hc (by simp) (by simp) ha hl hp hrr
  | _ => exact h
theorem plain_wkV (c : AVal) : plain (wkV c) = plain c := by cases c <;> rfl
theorem noRef_wkV (c : AVal) : AM.noRef (wkV c) = AM.noRef c := by cases c <;> rfl

theorem op_buildSlice [VR : Vars] (hT : TOk P E.T) {t : TypeId} {len : Nat} {ps : Array (Nat × Operand)} (h : Rel w0 ω0 w g st vs) (ho : o.op = .buildSlice t len ps) (hk : Den C (doOp E mv o st k) r) (hn : Follows C w0 ω0 o vs k r next) : o.wp P ⟨vs, []⟩ w next Q := by
  simp only [doOp, ho] at hk
  split at hk
  · rename_i e q hti
    have hu := (hT t _ hti).kind
    simp only [KOk] at hu
    split at hk
    · rename_i i he
      have hTi := hT _ i he
      obtain ⟨inf, z, hinf, hs, hby, hz, hzc⟩ := zero_cells hTi
      split at hk
      · rename_i cs hfill
        cases hmv : (mv && mutAt E o.dst) with
        | true =>
          rw [hmv, cond_true] at hk
          obtain ⟨hb, hk⟩ := cond_den hk
          simp only [Bool.and_eq_true] at hb
          obtain ⟨⟨⟨hpl, hlen⟩, hds⟩, hmax⟩ := hb
          have hlen := Nat.eq_of_beq_eq_true hlen
          have hmax := Nat.le_of_ble_eq_true hmax
          obtain ⟨d, hd⟩ := Option.isSome_iff_exists.1 hds
          obtain ⟨hl, hp⟩ := parts_rep h ps hpl
          obtain ⟨ys, h4, h5⟩ := fill_run _ _ _ _ _ hfill (zeros_cells (inf := inf) hTi hzc len w g.I g.η st.H.length) hl hp
          have hysz : ys.size = len * i.size := by rw [h5.1, hlen]
          have hrun : (execOp (Act.eval ⟨vs, []⟩) o).run P w = .ok (.value (.slice (some ⟨w.heap.size, 0, none⟩) len len)) (w.alloc (.cells ys e)) := by
            simp only [execOp, ho]
            refine run_value ?_
            simp only [Instr.buildSlice, Sem.run_bind, run_underlying hu, Result.andThen_ok, run_sizeOf hinf, hs]
            rw [Sem.run_ite, if_neg (by omega)]
            by_cases h0 : len * i.size = 0
            · rw [Sem.run_ite, if_pos h0]
              simp only [Sem.run_bind, Sem.run_pure, Result.andThen_ok]
              have e1 : ((Array.range (len * i.size)).map ((#[] : Array Value)[· % (#[] : Array Value).size]!)) = ((Array.range (len * i.size)).map (z.cells[· % z.cells.size]!)) := by rw [h0]; simp
              rw [e1, h4]
              rfl
            · rw [Sem.run_ite, if_neg h0]
              simp only [zeroValue, Sem.run_bind, run_typeInfo hinf, Result.andThen_ok, hz, Sem.run_pure, h4]
              rfl
          refine wp_of_value hrun ?_
          obtain ⟨g', hR⟩ := h.newArr d e (cs.map normV) ys (.mslice st.H.length 0 len i.size i.agg) (.slice (some ⟨w.heap.size, 0, none⟩) len len) (by rw [List.length_map]; exact h5.1) (normCs h5.2)
            (fun g' w' hη => by
              have := Rep.mslice (w := w') (I := g'.I) (η := g'.η) (N := st.H.length + 1) st.H.length 0 len i.size i.agg len (by omega) (Nat.le_refl _) hTi.one
              rw [hη] at this; exact this) rfl
          exact hn _ _ _ _ _ (by rw [hd]; exact hR) hk
        | false =>
        rw [hmv, cond_false] at hk
        obtain ⟨hb, hk⟩ := cond_den hk
        simp only [Bool.and_eq_true] at hb
        obtain ⟨⟨⟨⟨hpl, hnr⟩, hlen⟩, hds⟩, hmax⟩ := hb
        have hlen := Nat.eq_of_beq_eq_true hlen
        have hmax := Nat.le_of_ble_eq_true hmax
        obtain ⟨d, hd⟩ := Option.isSome_iff_exists.1 hds
        obtain ⟨hl, hp⟩ := parts_rep h ps hpl
        obtain ⟨ys, h4, h5⟩ := fill_run _ _ _ _ _ hfill (zeros_cells (inf := inf) hTi hzc len w g.I g.η st.H.length) hl hp
        have hysz : ys.size = len * i.size := by rw [h5.1, hlen]
        have hrun : (execOp (Act.eval ⟨vs, []⟩) o).run P w = .ok (.value (.slice (some ⟨w.heap.size, 0, none⟩) len len)) (w.alloc (.cells ys e)) := by
          simp only [execOp, ho]
          refine run_value ?_
          simp only [Instr.buildSlice, Sem.run_bind, run_underlying hu, Result.andThen_ok, run_sizeOf hinf, hs]
          rw [Sem.run_ite, if_neg (by omega)]
          by_cases h0 : len * i.size = 0
          · rw [Sem.run_ite, if_pos h0]
            simp only [Sem.run_bind, Sem.run_pure, Result.andThen_ok]
            have e1 : ((Array.range (len * i.size)).map ((#[] : Array Value)[· % (#[] : Array Value).size]!)) = ((Array.range (len * i.size)).map (z.cells[· % z.cells.size]!)) := by rw [h0]; simp
            rw [e1, h4]
            rfl
          · rw [Sem.run_ite, if_neg h0]
            simp only [zeroValue, Sem.run_bind, run_typeInfo hinf, Result.andThen_ok, hz, Sem.run_pure, h4]
            rfl
        refine wp_of_value hrun ?_
        obtain ⟨cs2, hcs2⟩ : ∃ cs2, cs2 = cs.map wkV := ⟨_, rfl⟩
        have h5 : ys.size = cs2.length ∧ ∀ (j : Nat) c x, cs2[j]? = some c → ys[j]? = some x → plain c = true ∧ True ∧ Rep w g.I g.η st.H.length c x := by
          refine ⟨by rw [hcs2, List.length_map]; exact h5.1, fun j c x hc hx => ?_⟩
          rw [hcs2] at hc
          simp only [List.getElem?_map, Option.map_eq_some_iff] at hc
          obtain ⟨c0, hc0, rfl⟩ := hc
          obtain ⟨q1, _, q2⟩ := h5.2 j c0 x hc0 hx
          exact ⟨by rw [plain_wkV]; exact q1, trivial, wkV_rep q2⟩
        have hlen : cs2.length = len * i.size := by rw [hcs2, List.length_map]; exact hlen
        have hnr : cs2.all AM.noRef = true := by
          rw [hcs2, List.all_map]
          refine List.all_eq_true.2 fun c hc => ?_
          simp only [Function.comp, noRef_wkV]
          exact List.all_eq_true.1 hnr c hc
        rw [← hcs2] at hk
        have hcp : ∀ c ∈ cs2, plain c = true := fun c hc => by
          obtain ⟨j, hj, e⟩ := List.getElem_of_mem hc
          have hjy : j < ys.size := by rw [h5.1]; exact hj
          exact (h5.2 j c ys[j] (by rw [List.getElem?_eq_getElem hj, e]) (Array.getElem?_eq_getElem hjy)).1
        have hil : ∀ q, q < len → q * i.size + i.size ≤ cs2.length := fun q hq => by
          have := Nat.mul_le_mul_right i.size (show q + 1 ≤ len from hq)
          rw [Nat.succ_mul] at this; omega
        have hSrc : Src w g st.H.length i.size len (fun j => bif Nat.ble (j + 1) len then mkElem i.agg i.size cs2 (j * i.size) else i.zero) ys.toList := by
          have hin : ∀ q, q < len → (bif Nat.ble (q + 1) len then mkElem i.agg i.size cs2 (q * i.size) else i.zero) = mkElem i.agg i.size cs2 (q * i.size) := fun q hq => by
            rw [Nat.ble_eq_true_of_le (show q + 1 ≤ len from hq)]; rfl
          refine ⟨by simpa using hysz, fun q hq => ?_, fun q hq => ?_, fun q hq j c hc => ?_, fun x hx => ?_⟩
          · rw [hin q hq, (mkElem_cells hTi.one (hil q hq) hcp).1]; have := hil q hq; simp; omega
          · rw [hin q hq]; exact ⟨(mkElem_cells hTi.one (hil q hq) hcp).2, mkElem_noRef hTi.one (hil q hq) (List.all_eq_true.1 hnr)⟩
          · rw [hin q hq, (mkElem_cells hTi.one (hil q hq) hcp).1] at hc
            have hj := lt_of_some hc
            simp only [List.length_take, List.length_drop] at hj
            rw [List.getElem?_take_of_lt (by omega), List.getElem?_drop] at hc
            have := hil q hq
            have hjy : q * i.size + j < ys.size := by omega
            exact ⟨ys[q * i.size + j], by simp [Array.getElem?_toList, Array.getElem?_eq_getElem hjy], (h5.2 _ c _ hc (Array.getElem?_eq_getElem hjy)).2.2⟩
          · obtain ⟨j, hj, e⟩ := List.getElem_of_mem hx
            have hjy : j < ys.size := hj
            have hjc : j < cs2.length := by rw [← h5.1]; exact hjy
            have e' : ys[j]? = some x := by rw [Array.getElem?_eq_getElem hjy]; exact congrArg some e
            have := h5.2 j cs2[j] x (List.getElem?_eq_getElem hjc) e'
            exact (plain_one this.2.2 this.1).1
        have hR := h.fresh d (.cells ys e) (fun o => if o < len * i.size then .imm else .free) st.H false (.slice .exact i.size len (fun j => bif Nat.ble (j + 1) len then mkElem i.agg i.size cs2 (j * i.size) else i.zero)) (.slice (some ⟨w.heap.size, 0, none⟩) len len) (g.β d) (by simp) (.inl rfl)
          (fun o => by by_cases e1 : o < len * i.size <;> simp [e1]) (fun o _ _ => frozen_fresh _ _ _ _) (fun o s j hh => by by_cases e1 : o < len * i.size <;> simp [e1] at hh)
          (fun o o' id hh => by by_cases e1 : o < len * i.size <;> simp [e1] at hh) (RepSlot.of_pl ⟨?_, fun e n f he => by cases he⟩)
        · exact hn _ _ _ _ _ (by rw [hd]; exact hR) hk
        · refine hSrc.slice hTi.pos (fun c x hr => Rep.fresh (B := h.base) (Nat.le_refl _) hr) (Nat.le_refl _) .exact (fun _ => rfl) (by simp) (fun _ => ⟨w.heap.size, 0, rfl, fun j hj => ⟨?_, ?_⟩⟩)
          · simp [Gh.fresh, hj]
          · rw [cell_fresh, Nat.zero_add, Array.getElem?_toList]
      · exact (noDen hk).elim
    · exact (noDen hk).elim
  · exact (noDen hk).elim

/-- A slice expression's bounds. -/
theorem bounds_run [VR : Vars] (h : Rel w0 ω0 w g st vs) {isS : Bool} {n cap : Nat} (hc : n ≤ cap) {lo hi mx : Option Operand} {l hh : Nat} (hb : bounds n (lo.map (ev st.ts)) (hi.map (ev st.ts)) (mx.map (ev st.ts)) = some (true, l, hh)) :
    ∃ m, (Instr.sliceBounds isS n cap (lo.map (Act.eval ⟨vs, []⟩)) (hi.map (Act.eval ⟨vs, []⟩)) (mx.map (Act.eval ⟨vs, []⟩))).run P w = .ok (l, hh, m) w ∧ l ≤ hh ∧ hh ≤ n ∧ (mx = none → m = cap) ∧ (mx ≠ none → m = hh) := by
  have hnat : ∀ x : Operand, 0 ≤ natOf (ev st.ts x) → ∃ q, Act.eval ⟨vs, []⟩ x = .int q (natOf (ev st.ts x)) := fun x h0 => by
    cases he : ev st.ts x <;> rw [he] at h0 <;> simp only [natOf] at h0 <;> try omega
    rename_i q m
    exact ⟨q, by rw [eval_int h he]; rfl⟩
  have hsb : ∀ (q : IntKind) (x : Int) (y : Nat) (c : BoundsCode), 0 ≤ x → x ≤ y → (Instr.sliceBound (.int q x) y c).run P w = .ok x.toNat w := fun q x y c h1 h2 => by
    simp only [Instr.sliceBound, asIntOf, Sem.run_bind, Sem.run_pure, Result.andThen_ok]
    rw [Sem.run_ite, if_pos ⟨h1, h2⟩]; rfl
  cases mx with
  | none =>
    simp only [bounds, Option.map_none, Option.some.injEq, Prod.mk.injEq, Bool.and_eq_true, decide_eq_true_eq] at hb
    obtain ⟨⟨⟨h1, h2⟩, h3⟩, rfl, rfl⟩ := hb
    refine ⟨cap, ?_, by omega, by omega, fun _ => rfl, fun h => absurd rfl h⟩
    cases hi with
    | none =>
      simp only [Option.map_none] at h1 h2 h3 ⊢
      cases lo with
      | none => simp [Instr.sliceBounds]
      | some x =>
        simp only [Option.map_some] at h1 h2 h3 ⊢
        obtain ⟨q, hq⟩ := hnat x h1
        simp only [Instr.sliceBounds, Option.map_none, Option.map_some, Sem.run_bind, Sem.run_pure, Result.andThen_ok, hq]
        rw [hsb q _ _ _ h1 h2]; simp
    | some y =>
      simp only [Option.map_some] at h1 h2 h3 ⊢
      cases lo with
      | none =>
        simp only [Option.map_none] at h1 h2 h3 ⊢
        obtain ⟨q, hq⟩ := hnat y (by omega)
        simp only [Instr.sliceBounds, Option.map_none, Option.map_some, Sem.run_bind, Sem.run_pure, Result.andThen_ok, hq]
        rw [hsb q _ _ _ (by omega) (by omega)]; simp
      | some x =>
        simp only [Option.map_some] at h1 h2 h3 ⊢
        obtain ⟨q, hq⟩ := hnat y (by omega)
        obtain ⟨q2, hq2⟩ := hnat x h1
        simp only [Instr.sliceBounds, Option.map_none, Option.map_some, Sem.run_bind, Sem.run_pure, Result.andThen_ok, hq, hq2]
        rw [hsb q _ _ _ (by omega) (by omega)]
        simp only [Result.andThen_ok]
        rw [hsb q2 _ _ _ h1 (by omega)]; simp
  | some z =>
    cases hi with
    | none => simp [bounds] at hb
    | some y =>
      simp only [bounds, Option.map_some, Option.some.injEq, Prod.mk.injEq, Bool.and_eq_true, decide_eq_true_eq] at hb
      obtain ⟨⟨⟨⟨h1, h2⟩, h3⟩, h4⟩, rfl, rfl⟩ := hb
      refine ⟨(natOf (ev st.ts y)).toNat, ?_, by omega, by omega, fun h => (by cases h), fun _ => rfl⟩
      cases lo with
      | none =>
        simp only [Option.map_none] at h1 h2 ⊢
        obtain ⟨q, hq⟩ := hnat y (by omega)
        obtain ⟨q3, hq3⟩ := hnat z (by omega)
        simp only [Instr.sliceBounds, Option.map_none, Option.map_some, Sem.run_bind, Sem.run_pure, Result.andThen_ok, hq, hq3, h4]
        rw [hsb q3 _ _ _ (by omega) (by omega)]
        simp only [Result.andThen_ok]
        rw [hsb q _ _ _ (by omega) (by omega)]; simp
      | some x =>
        simp only [Option.map_some] at h1 h2 ⊢
        obtain ⟨q, hq⟩ := hnat y (by omega)
        obtain ⟨q2, hq2⟩ := hnat x h1
        obtain ⟨q3, hq3⟩ := hnat z (by omega)
        simp only [Instr.sliceBounds, Option.map_none, Option.map_some, Sem.run_bind, Sem.run_pure, Result.andThen_ok, hq, hq2, hq3, h4]
        rw [hsb q3 _ _ _ (by omega) (by omega)]
        simp only [Result.andThen_ok]
        rw [hsb q _ _ _ (by omega) (by omega)]
        simp only [Result.andThen_ok]
        rw [hsb q2 _ _ _ h1 (by omega)]; simp

theorem op_slice [VR : Vars] (hT : TOk P E.T) {t : TypeId} {x : Operand} {lo hi mx : Option Operand} (h : Rel w0 ω0 w g st vs) (ho : o.op = .slice t x lo hi mx) (hk : Den C (doOp E mv o st k) r) (hn : Follows C w0 ω0 o vs k r next) : o.wp P ⟨vs, []⟩ w next Q := by
  simp only [doOp, ho] at hk
  split at hk
  · rename_i s hti hx
    have hu := (hT t _ hti).kind
    simp only [KOk] at hu
    split at hk
    · rename_i ok l hh hb
      obtain ⟨rfl, hk2⟩ := hk.chk
      obtain ⟨m, h1, h2, h3, _⟩ := bounds_run (P := P) (isS := false) (mx := none) h (Nat.le_refl _) hb
      refine wp_of_value (x := .string (s.extract l hh)) (by
        simp only [execOp, ho, eval_str h hx]
        refine run_value ?_
        simp only [Instr.sliceAt, Sem.run_bind, run_underlying hu, Result.andThen_ok, Instr.slice, Option.map_none, Option.isSome_none, Bool.false_eq_true, if_false, Sem.run_pure] at h1 ⊢
        rw [h1]; rfl) (hn _ _ _ _ g (h.put_ev (v := .str _) (Rep.str _) rfl) hk2)
    · exact (noDen hk).elim
  · rename_i sp esz n f hti hx
    have hu := (hT t _ hti).kind
    simp only [KOk] at hu
    split at hk
    · rename_i ok l hh i hb hi2
      obtain ⟨hes, hk⟩ := cond_den hk
      have hes := Nat.eq_of_beq_eq_true hes
      subst hes
      obtain ⟨rfl, hk2⟩ := hk.chk
      have hTi := hT _ i hi2
      obtain ⟨inf, z, hinf, hs, _⟩ := hTi.info
      have hr := ev_ne h hx (by simp) (by simp)
      generalize hX : Act.eval ⟨vs, []⟩ x = q at hr
      cases hr with
      | slice _ _ _ _ ad cap vals hc hxx hnl ha hl hp hrr =>
        obtain ⟨m, h1, h2, h3, h4, h5⟩ := bounds_run (P := P) (isS := true) h hc hb
        have hm : hh ≤ m := by
          cases hmx : mx with
          | none => rw [h4 hmx]; omega
          | some y => rw [h5 (by rw [hmx]; simp)]; exact Nat.le_refl _
        refine wp_of_value (x := .slice (if m = l then ad else ad.map (·.add (l * inf.size))) (hh - l) (m - l)) (by
          simp only [execOp, ho, hX]
          refine run_value ?_
          simp only [Instr.sliceAt, Sem.run_bind, run_underlying hu, Result.andThen_ok, Instr.slice] at h1 ⊢
          rw [h1]
          simp only [Result.andThen_ok, run_sizeOf hinf, Sem.run_pure]) (hn _ _ _ _ g (h.put_ev (v := .slice _ _ _ _) ?_ (by cases mx <;> rfl)) hk2)
        refine Rep.slice _ i.size (hh - l) (fun j => f (l + j)) _ (m - l) (fun a b => vals (l + a) b) (by omega) (fun e => ?_) (fun e => by cases mx <;> cases e) (fun h0 => ?_) (fun a ha' => hl _ (by omega)) (fun a ha' => hp _ (by omega)) (fun a ha' j c hcc => hrr _ (by omega) j c hcc)
        · cases hmx : mx with
          | none => rw [hmx] at e; cases e
          | some y => rw [h5 (by rw [hmx]; simp)]
        · obtain ⟨b, a, rfl, hcell⟩ := ha (by omega)
          refine ⟨b, a + l * i.size, ?_, fun p hp' j hj => ?_⟩
          · rw [if_neg (by omega), hs]; simp [addr_add]
          · have := hcell (l + p) (by omega) j hj
            rw [show a + (l + p) * i.size + j = a + l * i.size + p * i.size + j by rw [Nat.add_mul]; omega] at this
            exact this
    · exact (noDen hk).elim
  · rename_i id off n esz ag hti hx
    have hu := (hT t _ hti).kind
    simp only [KOk] at hu
    split at hk
    · rename_i ok l hh i hb hi2
      obtain ⟨hes, hk⟩ := cond_den hk
      have hes := Nat.eq_of_beq_eq_true hes
      subst hes
      obtain ⟨rfl, hk2⟩ := hk.chk
      have hTi := hT _ i hi2
      obtain ⟨inf, z, hinf, hs, _⟩ := hTi.info
      have hr := ev_ne h hx (by simp) (by simp)
      generalize hX : Act.eval ⟨vs, []⟩ x = q at hr
      cases hr with
      | mslice _ _ _ _ _ cap hid hc hag =>
        obtain ⟨m, h1, h2, h3, h4, h5⟩ := bounds_run (P := P) (isS := true) (mx := none) h hc hb
        have hm : m = cap := h4 rfl
        subst hm
        have hrun : (execOp (Act.eval ⟨vs, []⟩) o).run P w = .ok (.value (.slice (if m = l then some ⟨g.η id, off, none⟩ else (some ⟨g.η id, off, none⟩ : Option Addr).map (·.add (l * inf.size))) (hh - l) (m - l))) w := by
          simp only [execOp, ho, hX]
          refine run_value ?_
          simp only [Instr.sliceAt, Sem.run_bind, run_underlying hu, Result.andThen_ok, Instr.slice] at h1 ⊢
          rw [h1]
          simp only [Result.andThen_ok, run_sizeOf hinf, Sem.run_pure]
        rcases hk2.inv with ⟨hlh, hk3⟩ | ⟨hlh, hk3⟩
        · have hlh := of_decide_eq_true hlh
          refine wp_of_value hrun (hn _ _ _ _ g (h.put_ev (v := .mslice _ _ _ _ _) ?_ rfl) hk3)
          rw [if_neg (by omega), hs]
          simp only [Option.map_some, addr_add]
          exact Rep.mslice id (off + l * i.size) (hh - l) i.size ag (m - l) hid (by omega) hag
        · have hlh := of_decide_eq_false hlh
          refine wp_of_value hrun (hn _ _ _ _ g (h.put_ev (v := .slice _ _ _ _) ?_ rfl) hk3)
          rw [show hh - l = 0 by omega]
          exact .slice .shared i.size 0 _ _ (m - l) (fun _ _ => undef) (by omega) (by simp) (by simp) (by omega) (by omega) (by omega) (by omega)
    · exact (noDen hk).elim
  · exact (noDen hk).elim

theorem op_clear [VR : Vars] (hT : TOk P E.T) {c : Call} (h : Rel w0 ω0 w g st vs) (ho : o.op = .call c) (hc : c.callee = .builtin .clear) (hk : Den C (doOp E mv o st k) r) (hn : Follows C w0 ω0 o vs k r next) : o.wp P ⟨vs, []⟩ w next Q := by
  simp only [doOp, ho, hc] at hk
  split at hk
  · rename_i x t ha hta
    have harg : c.args = #[x] := by apply Array.ext'; exact ha
    have htys0 : c.argTypes[0]? = some t := by rw [← Array.getElem?_toList, hta]; rfl
    have hfin : ∀ (X : Value) (w' : World), Act.eval ⟨vs, []⟩ x = X → (Builtin.clear_ c.argTypes o.type #[X]).run P w = .ok (.tuple #[]) w' → (execOp (Act.eval ⟨vs, []⟩) o).run P w = .ok (.value (.tuple #[])) w' := fun X w' hX hl => by
      simp only [execOp, ho, resolve, hc, harg, Sem.run_bind, Sem.run_pure, Result.andThen_ok, invoke, builtin, List.map_toArray, List.map_cons, List.map_nil, hX]
      simp [hl]
    split at hk
    · rename_i e q id off n esz ag hti hx
      have hu := (hT t _ hti).kind
      simp only [KOk] at hu
      split at hk
      · rename_i i cs he hcs
        obtain ⟨hes, hkx⟩ := cond_den hk
        obtain ⟨hb, hky⟩ := hkx.chk
        have hes := Nat.eq_of_beq_eq_true hes
        subst hes
        have hle := Nat.le_of_ble_eq_true hb
        have hTi := hT _ i he
        obtain ⟨inf, z, hinf, hs, hby, hz, hzc⟩ := zero_cells hTi
        have hr := ev_ne h hx (by simp) (by simp)
        generalize hX : Act.eval ⟨vs, []⟩ x = q at hr
        cases hr with
        | mslice _ _ _ _ _ cap hid hcp hag =>
          have hobj := h.base.heap id _ hcs
          have hzz := zeros_cells (inf := inf) hTi hzc n w g.I g.η st.H.length
          have hzs : z.cells.size = i.size := by rw [(hzc w g.I g.η st.H.length).1, hTi.zlen]
          have hzl : (Builtin.zeroCells z.cells n).toList.length = n * i.size := by simp [Builtin.zeroCells, hzs]
          have hpl : (List.replicate n i.zero.cells).flatten.length = n * i.size := by rw [flatten_len, hTi.zlen]
          have hze : Builtin.zeroCells z.cells n = (Array.range (n * i.size)).map (z.cells[· % z.cells.size]!) := by unfold Builtin.zeroCells; rw [hzs]
          have hZ : ∀ (j : Nat) c x, (List.replicate n i.zero.cells).flatten[j]? = some c → (Builtin.zeroCells z.cells n).toList[j]? = some x → plain c = true ∧ isOwn c = false ∧ Rep w g.I g.η st.H.length c x := fun j c x h1 h2 => hzz.2 j c x h1 (by rw [← Array.getElem?_toList, ← hze]; exact h2)
          have hrunC : (storeCells ⟨g.η id, off, none⟩ (Builtin.zeroCells z.cells n).toList).run P w = .ok () (w.setCells (g.η id) off (Builtin.zeroCells z.cells n).toList) := by
            have := run_storeCells_cells (P := P) (g.η id) off (Builtin.zeroCells z.cells n).toList 0 w (fun j hj => by
              rw [hzl] at hj
              obtain ⟨_, x', hx', _⟩ := hobj.2 (off + j) cs[off + j] (List.getElem?_eq_getElem (by omega))
              rw [Nat.add_zero, hx']; rfl) (fun j hj => by
              rw [hzl] at hj
              have := hobj.1 (off + j) (by omega)
              rw [Nat.add_zero]
              exact h.base.soft _ _ (by rw [this]; simp) (by rw [this]; simp) (fun id' e => by rw [this] at e; cases e; rfl)) (fun v hv => by
              obtain ⟨j, hj, e⟩ := List.getElem_of_mem hv
              have hj' : j < (List.replicate n i.zero.cells).flatten.length := by rw [hpl, ← hzl]; exact hj
              obtain ⟨h1, _, h3⟩ := hZ j _ v (List.getElem?_eq_getElem hj') (by rw [List.getElem?_eq_getElem hj, e])
              exact (plain_one h3 h1).1)
            rw [Nat.add_zero] at this; exact this
          have hrun := hfin _ (w.setCells (g.η id) off (Builtin.zeroCells z.cells n).toList) hX (by
            cases n with
            | zero =>
              have e0 : (Builtin.zeroCells z.cells 0).toList = [] := List.eq_nil_of_length_eq_zero (by rw [hzl]; simp)
              rw [e0]
              simp only [Builtin.clear_, htys0, List.getElem?_toArray, List.getElem?_cons_zero, Sem.run_bind, run_underlying hu, Result.andThen_ok, Sem.run_pure]
              rfl
            | succ n =>
            simp only [Builtin.clear_, htys0, List.getElem?_toArray, List.getElem?_cons_zero, Sem.run_bind, run_underlying hu, Result.andThen_ok, zeroValue, run_typeInfo hinf, hz, Sem.run_pure, hrunC])
          have hR := h.storeArr hcs (ps := (List.replicate n i.zero.cells).flatten) (xs := (Builtin.zeroCells z.cells n).toList) (by rw [hzl, hpl]) (by rw [hpl]; exact hle) (fun j c x h1 h2 => ⟨(hZ j c x h1 h2).1, (hZ j c x h1 h2).2.2, (Lone.not (hZ j c x h1 h2).2.1).heap⟩)
          exact wp_of_value hrun (hn _ _ _ _ g (hR.put_ev (v := .tuple []) (Rep.tuple [] #[] rfl (fun i c v h => by simp at h)) rfl) hky)
      · exact (noDen hk).elim
    · rename_i e q sp esz n f hti hx
      have hu := (hT t _ hti).kind
      simp only [KOk] at hu
      obtain ⟨hn0, hk⟩ := cond_den hk
      have hn0 := Nat.eq_of_beq_eq_true hn0
      subst hn0
      have hr := ev_ne h hx (by simp) (by simp)
      generalize hX : Act.eval ⟨vs, []⟩ x = q at hr
      cases hr with
      | slice _ _ _ _ ad cap vals hc hxx hnl ha hl hp hrr =>
        have hrun := hfin _ w hX (by
          cases ad <;> simp only [Builtin.clear_, htys0, List.getElem?_toArray, List.getElem?_cons_zero, Sem.run_bind, run_underlying hu, Result.andThen_ok, Sem.run_pure])
        exact wp_of_value hrun (hn _ _ _ _ g (h.put_ev (v := .tuple []) (Rep.tuple [] #[] rfl (fun i c v h => by simp at h)) rfl) hk)
    · exact (noDen hk).elim
  · exact (noDen hk).elim

theorem wrap_nat (m : Int) (h0 : 0 ≤ m) (h1 : m ≤ 9223372036854775807) : IntKind.i64.wrap m = m := by
  simp only [IntKind.wrap, IntKind.bits, IntKind.signed, Bool.true_and, ge_iff_le, decide_eq_true_eq]
  omega

theorem makeSlice_run {t e : TypeId} {i : TI} {z : Value} {inf : TypeInfo} (hu : P.underlying t = some (.slice e)) (hTi : TIOk P e i) (hinf : P.info? e = some inf) (hs : inf.size = i.size) (hby : inf.bytes = i.bytes) (hz : inf.zero = some z)
    {q q' : IntKind} {n m : Int} (hn : 0 ≤ n) (hnm : n ≤ m) (hb : m * i.bytes ≤ 140737488355328) (hm : m ≤ 9223372036854775807) :
    (Instr.makeSlice t (.int q n) (.int q' m)).run P w = .ok (.slice (some ⟨w.heap.size, 0, none⟩) n.toNat m.toNat) (w.alloc (.cells ((Array.range (m.toNat * i.size)).map (z.cells[· % z.cells.size]!)) e)) := by
  have hw1 := wrap_nat n hn (by omega)
  have hw2 := wrap_nat m (by omega) hm
  simp only [Instr.makeSlice, Sem.run_bind, run_underlying hu, Result.andThen_ok, asInt, asIntOf, Sem.run_pure, run_typeInfo hinf, hw1, hw2, hby]
  have hc : (decide (m < 0) || decide ((i.bytes : Int) * m > 2 ^ 48) || decide (n < 0) || decide (n > m)) = false := by
    simp only [Bool.or_eq_false_iff, decide_eq_false_iff_not]
    refine ⟨⟨⟨by omega, ?_⟩, by omega⟩, by omega⟩
    rw [Int.mul_comm]; omega
  rw [Sem.run_ite, if_neg (by rw [hc]; simp)]
  simp only [Sem.run_bind, run_askRoom, Result.andThen_ok, run_sizeOf hinf, hs]
  by_cases h0 : m.toNat * i.size = 0
  · rw [Sem.run_ite, if_pos h0]
    simp only [Sem.run_bind, Sem.run_pure, Result.andThen_ok, newRow, run_newObj]
    rw [h0]; simp [show Array.range 0 = #[] from rfl]
  · rw [Sem.run_ite, if_neg h0]
    simp only [zeroValue, Sem.run_bind, run_typeInfo hinf, Result.andThen_ok, hz, Sem.run_pure, newRow, run_newObj]
    simp

theorem op_makeSlice [VR : Vars] (hT : TOk P E.T) {t : TypeId} {l c : Operand} (h : Rel w0 ω0 w g st vs) (ho : o.op = .makeSlice t l c) (hk : Den C (doOp E mv o st k) r) (hn : Follows C w0 ω0 o vs k r next) : o.wp P ⟨vs, []⟩ w next Q := by
  simp only [doOp, ho] at hk
  split at hk
  · rename_i e q n m hti hl hc
    have hu := (hT t _ hti).kind
    simp only [KOk] at hu
    split at hk
    · rename_i i he
      have hTi := hT _ i he
      obtain ⟨inf, z, hinf, hs, hby, hz, hzc⟩ := zero_cells hTi
      obtain ⟨hds, hk⟩ := cond_den hk
      obtain ⟨d, hd⟩ := Option.isSome_iff_exists.1 hds
      obtain ⟨hb, hk⟩ := hk.chk
      simp only [Bool.and_eq_true, decide_eq_true_eq] at hb
      obtain ⟨⟨h0, hby2⟩, hmx⟩ := hb
      have hzz := zeros_cells (inf := inf) hTi hzc m.toNat w g.I g.η st.H.length
      have hasz : ((Array.range (m.toNat * i.size)).map (z.cells[· % z.cells.size]!)).size = m.toNat * i.size := by simp
      have big : Den C (.cnd (decide (n = m)) (k (.mslice st.H.length 0 m.toNat i.size i.agg) { st with H := st.H ++ [.arr (List.replicate m.toNat i.zero.cells).flatten] }) .none) r → o.wp P ⟨vs, []⟩ w next Q := by
        intro hk
        obtain ⟨hnm, hk⟩ := hk.chk
        have hnm := of_decide_eq_true hnm
        subst hnm
        have hrun := makeSlice_run (w := w) (q := .i64) (q' := .i64) hu hTi hinf hs hby hz h0 (Int.le_refl _) hby2 hmx
        have hrun2 : (execOp (Act.eval ⟨vs, []⟩) o).run P w = .ok (.value (.slice (some ⟨w.heap.size, 0, none⟩) n.toNat n.toNat)) (w.alloc (.cells ((Array.range (n.toNat * i.size)).map (z.cells[· % z.cells.size]!)) e)) := by
          simp only [execOp, ho, eval_int h hl, eval_int h hc]
          exact run_value hrun
        refine wp_of_value hrun2 ?_
        obtain ⟨g', hR⟩ := h.newArr d e (List.replicate n.toNat i.zero.cells).flatten _ (.mslice st.H.length 0 n.toNat i.size i.agg) (.slice (some ⟨w.heap.size, 0, none⟩) n.toNat n.toNat) hzz.1 (fun j c x h1 h2 => ⟨(hzz.2 j c x h1 h2).1, Lone.not (hzz.2 j c x h1 h2).2.1, (hzz.2 j c x h1 h2).2.2⟩)
          (fun g' w' hη => by
            have := Rep.mslice (w := w') (I := g'.I) (η := g'.η) (N := st.H.length + 1) st.H.length 0 n.toNat i.size i.agg n.toNat (by omega) (Nat.le_refl _) hTi.one
            rw [hη] at this; exact this) rfl
        exact hn _ _ _ _ _ (by rw [hd]; exact hR) hk
      cases hmu : mutAt E o.dst with
      | true => rw [hmu, cond_true] at hk; exact big hk
      | false =>
      rw [hmu, cond_false] at hk
      split at hk
      · -- no element yet: all of it is spare room
        have hrun := makeSlice_run (w := w) (q := .i64) (q' := .i64) hu hTi hinf hs hby hz (n := 0) (m := m) (by omega) h0 hby2 hmx
        have hrun2 : (execOp (Act.eval ⟨vs, []⟩) o).run P w = .ok (.value (.slice (some ⟨w.heap.size, 0, none⟩) 0 m.toNat)) (w.alloc (.cells ((Array.range (m.toNat * i.size)).map (z.cells[· % z.cells.size]!)) e)) := by
          simp only [execOp, ho, eval_int h hl, eval_int h hc]
          exact run_value hrun
        refine wp_of_value hrun2 ?_
        have hR := h.fresh d (.cells ((Array.range (m.toNat * i.size)).map (z.cells[· % z.cells.size]!)) e) (fun o => if o < m.toNat * i.size then .tail d 0 else .free) st.H false (.slice .own i.size 0 (fun _ => i.zero)) (.slice (some ⟨w.heap.size, 0, none⟩) 0 m.toNat) (g.β d) (by simp) (.inl rfl)
          (fun o => by by_cases e1 : o < m.toNat * i.size <;> simp [e1, ofSlot]) (fun o _ _ => frozen_fresh _ _ _ _) (fun o s j hh => ?_)
          (fun o o' id hh => by by_cases e1 : o < m.toNat * i.size <;> simp [e1] at hh) (RepSlot.of_pl ⟨.slice .own i.size 0 _ _ m.toNat (fun _ _ => undef) (by omega) (by simp) (by simp) (by omega) (by omega) (by omega) (by omega), fun esz n' f' he' => ?_⟩)
        · exact hn _ _ _ _ _ (by rw [hd]; exact hR) hk
        · have : o < m.toNat * i.size := by
            by_cases e1 : o < m.toNat * i.size
            · exact e1
            · simp [e1] at hh
          exact ⟨_, by rw [cell_fresh]; exact Array.getElem?_eq_getElem (by rw [hasz]; exact this)⟩
        · cases he'
          refine ⟨_, m.toNat, rfl, fun j h5 h6 => ⟨w.heap.size, 0, rfl, ?_⟩⟩
          simp [Gh.fresh, h6]
      · exact big hk
    · exact (noDen hk).elim
  · exact (noDen hk).elim

theorem op_makeMap [VR : Vars] (hT : TOk P E.T) {t : TypeId} {q : Option Operand} (h : Rel w0 ω0 w g st vs) (ho : o.op = .makeMap t q) (hk : Den C (doOp E mv o st k) r) (hn : Follows C w0 ω0 o vs k r next) : o.wp P ⟨vs, []⟩ w next Q := by
  simp only [doOp, ho] at hk
  split at hk
  · rename_i hti
    obtain ⟨hds, hk⟩ := cond_den hk
    obtain ⟨d, hd⟩ := Option.isSome_iff_exists.1 hds
    have hrun : (execOp (Act.eval ⟨vs, []⟩) o).run P w = .ok (.value (.map (some w.heap.size))) (w.alloc (.map #[] 0)) := by
      simp only [execOp, ho]
      exact run_value (by simp [Instr.makeMap])
    refine wp_of_value hrun ?_
    have he0 : (w.alloc (.map #[] 0)).heap[w.heap.size]? = some (.map #[] 0) := by show (w.heap.push _)[_]? = _; simp
    have hR := h.fresh d (.map #[] 0) (fun o => if o = 0 then .h st.H.length else .free) (st.H ++ [.map []]) false (.map st.H.length) (.map (some w.heap.size)) (g.β d) (by simp) (.inr ⟨_, rfl, ?_⟩)
      (fun o => by by_cases e1 : o = 0 <;> simp [e1]) (fun o _ _ => ?_) (fun o s j hh => by by_cases e1 : o = 0 <;> simp [e1] at hh)
      (fun o o' id hh => by by_cases e1 : o = 0 <;> by_cases e2 : o' = 0 <;> simp_all) (RepSlot.of_pl ⟨?_, fun e n f he => by cases he⟩)
    · exact hn _ _ _ _ _ (by rw [hd]; exact hR) hk
    · have hη : (g.fresh w.heap.size d (fun o => if o = 0 then Owner.h st.H.length else .free) (g.β d) st.H.length).η st.H.length = w.heap.size := by simp [Gh.fresh]
      refine ⟨by rw [hη]; simp [Gh.fresh], #[], 0, by rw [hη]; exact he0, ⟨rfl, Go.MapKept.stamped_empty 0⟩, fun i k x e he => by simp at he⟩
    · show (match (w.alloc (.map #[] 0)).heap[w.heap.size]? with | some (.cells _ _ (lo, hi)) => decide (lo ≤ o) && decide (o < hi) | _ => false) = false
      rw [he0]
    · have hη : (g.fresh w.heap.size d (fun o => if o = 0 then Owner.h st.H.length else .free) (g.β d) st.H.length).η st.H.length = w.heap.size := by simp [Gh.fresh]
      have := Rep.map (w := w.alloc (.map #[] 0)) (I := (g.fresh w.heap.size d (fun o => if o = 0 then Owner.h st.H.length else .free) (g.β d) st.H.length).I) (η := (g.fresh w.heap.size d (fun o => if o = 0 then Owner.h st.H.length else .free) (g.β d) st.H.length).η) (N := (st.H ++ [HObj.map []]).length) st.H.length (by simp)
      rw [hη] at this; exact this
  · exact (noDen hk).elim

/-- A key, as the model knows it. -/
theorem key_ok (hT : TOk P E.T) {kt : TypeId} {A : AVal} {V : Value} {I : Nat → Nat → Prop} {η : Nat → Nat} {N : Nat} (hk : isKey (E.T kt) A = true) (hr : Rep w I η N A V) :
    ∃ d, P.underlying kt = some d ∧ IsKey d V ∧ (∀ B W, isKey (E.T kt) B = true → Rep w I η N B W → IsKey d W ∧ ∃ b, eqScalar A B = some b ∧ Instr.sameNow d V W = some b ∧ (b = true → B = A)) := by
  have hu : ∀ i, E.T kt = some i → KOk P kt i i.kind := fun i h => (hT kt i h).kind
  unfold isKey at hk
  split at hk
  · rename_i k k' n hti
    split at hk
    · rename_i hkk
      subst hkk
      cases hr
      refine ⟨_, hu _ hti, rfl, fun B W hB hBr => ?_⟩
      unfold isKey at hB
      rw [hti] at hB
      split at hB
      · rename_i q q' m e
        cases e
        split at hB
        · rename_i hqq
          subst hqq
          cases hBr
          exact ⟨rfl, (n == m), by simp [eqScalar], by simp [Instr.sameNow], fun h => by have := of_decide_eq_true h; rw [this]⟩
        · cases hB
      · rename_i e; cases e
      · rename_i e; cases e
      · cases hB
    · cases hk
  · rename_i s hti
    cases hr
    refine ⟨_, hu _ hti, trivial, fun B W hB hBr => ?_⟩
    unfold isKey at hB
    rw [hti] at hB
    split at hB
    · rename_i e; cases e
    · cases hBr
      exact ⟨trivial, _, rfl, rfl, fun h => by rw [(bytes_beq _ _).1 h]⟩
    · rename_i e; cases e
    · cases hB
  · rename_i b hti
    cases hr
    refine ⟨_, hu _ hti, trivial, fun B W hB hBr => ?_⟩
    unfold isKey at hB
    rw [hti] at hB
    split at hB
    · rename_i e; cases e
    · rename_i e; cases e
    · cases hBr
      exact ⟨trivial, _, rfl, rfl, fun h => by rw [eq_of_beq h]⟩
    · cases hB
  · cases hk

/-- Looking a key up, putting it, striking it. -/
theorem find_rel {A : AVal} {V : Value} {d : TypeDesc} (v : AVal) : ∀ (es : List (AVal × AVal)) (l : List MapEntry) (i : Nat), l.length = es.length →
    (∀ (j : Nat) k x e, es[j]? = some (k, x) → l[j]? = some e → ∃ b, eqScalar A k = some b ∧ Instr.sameNow d V e.key = some b ∧ (b = true → k = A)) →
    (findKey A es = none ∧ Instr.findNow d V l i = some none ∧ putKey A v es = es ++ [(A, v)] ∧ delKey A es = es) ∨
    ∃ j x e, es[j]? = some (A, x) ∧ l[j]? = some e ∧ findKey A es = some x ∧ Instr.findNow d V l i = some (some (i + j, e.val)) ∧ putKey A v es = es.set j (A, v) ∧ delKey A es = es.eraseIdx j
  | [], [], i, _, _ => .inl ⟨rfl, rfl, rfl, rfl⟩
  | [], _ :: _, _, hl, _ => by simp at hl
  | _ :: _, [], _, hl, _ => by simp at hl
  | (k, x) :: es, e :: l, i, hl, hr => by
    obtain ⟨b, h1, h2, h3⟩ := hr 0 k x e rfl rfl
    cases b with
    | true =>
      have hk := h3 rfl
      subst hk
      exact .inr ⟨0, x, e, rfl, rfl, by simp [findKey, h1], by simp [Instr.findNow, h2], by simp [putKey, h1], by simp [delKey, h1]⟩
    | false =>
      rcases find_rel v es l (i + 1) (by simpa using hl) (fun j k x e h4 h5 => hr (j + 1) k x e h4 h5) with ⟨h4, h5, h6, h7⟩ | ⟨j, x', e', h4, h5, h6, h7, h8, h9⟩
      · exact .inl ⟨by simp [findKey, h1, h4], by simp [Instr.findNow, h2, h5], by simp [putKey, h1, h6], by simp [delKey, h1, h7]⟩
      · exact .inr ⟨j + 1, x', e', by simpa using h4, by simpa using h5, by simp [findKey, h1, h6], by simp [Instr.findNow, h2, h7]; omega, by simp [putKey, h1, h8], by simp [delKey, h1, h9]⟩

/-- A map of the abstract heap is written. -/
theorem Rel.setMap [VR : Vars] (h : Rel w0 ω0 w g st vs) {id : Nat} {es es' : List (AVal × AVal)} (hes : st.H[id]? = some (.map es)) {ents' : Array MapEntry} {clock' : Nat} (hl : ents'.size = es'.length ∧ Go.MapKept.Stamped ents' clock')
    (hr : ∀ (i : Nat) k x e, es'[i]? = some (k, x) → ents'[i]? = some e → Rep w g.I g.η st.H.length k e.key ∧ Rep w g.I g.η st.H.length x e.val ∧ plainAgg x = true ∧ plain k = true) :
    Rel w0 ω0 { w with heap := w.heap.setIfInBounds (g.η id) (.map ents' clock') } g { st with H := st.H.set id (.map es') } vs := by
  obtain ⟨h1, ents, clock, h2, h3, h4⟩ := h.base.heap id _ hes
  have hid := lt_of_some hes
  obtain ⟨hs1, hs2⟩ := heap_set (o' := .map ents' clock') h2
  have hcell : ∀ b o, ({ w with heap := w.heap.setIfInBounds (g.η id) (.map ents' clock') } : World).cell? ⟨b, o, none⟩ = w.cell? ⟨b, o, none⟩ ∧ ({ w with heap := w.heap.setIfInBounds (g.η id) (.map ents' clock') } : World).frozen? ⟨b, o, none⟩ = w.frozen? ⟨b, o, none⟩ := fun b o => by
    by_cases e : b = g.η id
    · subst e
      simp only [World.cell?, World.frozen?, hs1, h2]; exact ⟨trivial, trivial⟩
    · exact cell_of_heap (hs2 b e) o
  have hsame : Same (fun q => q = .h id) w g st.H.length { w with heap := w.heap.setIfInBounds (g.η id) (.map ents' clock') } g := by
    refine ⟨fun b o _ _ => ⟨rfl, (hcell b o).1⟩, fun b hb ⟨o, id', e, hX⟩ => hs2 b (fun e2 => ?_), fun _ _ => rfl⟩
    subst e2
    rcases h.base.sep _ 0 o id h1 with e3 | e3
    · rw [e3] at e; cases e; exact hX rfl
    · rw [e3] at e; cases e
  have hmono : ∀ {a : AVal} {v : Value}, Rep w g.I g.η st.H.length a v → Rep { w with heap := w.heap.setIfInBounds (g.η id) (.map ents' clock') } g.I g.η st.H.length a v := fun hh => hh.mono (fun b o hb => ⟨hb, (hcell b o).1⟩) (Nat.le_refl _) (fun _ _ => rfl)
  have hlen : (st.H.set id (.map es')).length = st.H.length := by simp
  refine ⟨⟨fun id' q hq => ?_, fun b o hb => by have := h.base.live b o hb; simpa using this, fun b o h5 h6 h7 => by rw [(hcell b o).2]; exact h.base.soft b o h5 h6 h7, fun b o hb => by rw [(hcell b o).1]; exact h.base.tail b o hb, h.base.sep, fun b o id' hb => by rw [hlen]; exact h.base.low b o id' hb, h.base.lock.set (fun i => by rw [hes]; simp) (by simp)⟩, h.len, fun s a v h5 h6 => ?_, h.mine, h.past, ?_, by rw [hlen]; exact h.old⟩
  · rw [hlen]
    by_cases e : id = id'
    · subst e
      simp only [List.getElem?_set, if_true, if_pos hid] at hq
      cases hq
      refine ⟨h1, ents', clock', hs1, hl, fun i k x e he hi => ?_⟩
      obtain ⟨a, b, c, d⟩ := hr i k x e he hi
      exact ⟨hmono a, hmono b, c, d⟩
    · simp only [List.getElem?_set, if_neg e] at hq
      exact hsame.objs (by simp) (Nat.le_refl _) h.base hq (by simp; exact fun hh => e hh.symm) (by simp) (fun m es' t c e' hh => by
        subst e'
        have := (h.base.lock id' m es' t c hq).2
        cases hh
        rw [hes] at this; cases this)
  · rw [hlen]
    exact hsame.slot (by simp) (Nat.le_refl _) (by simp) (by simp) (fun _ => rfl) (fun _ _ => rfl) (h.slot s a v h5 h6)
  · refine ⟨h.keeps.os, h.keeps.tape, h.keeps.output, by simpa using h.keeps.size, fun b hb hh hh2 => ?_, fun b o hb hh hh2 => ⟨(hcell b o).1.trans (h.keeps.cell b o hb hh hh2).1, (hcell b o).2.trans (h.keeps.cell b o hb hh hh2).2⟩, h.keeps.vars⟩
    have : b ≠ g.η id := fun e => by
      subst e
      exact hh 0 id ((h.past _ hb 0).2 id h1)
    exact (hs2 b this).trans (h.keeps.block b hb hh hh2)

theorem key_desc (hT : TOk P E.T) {kt : TypeId} {d : TypeDesc} (hd : P.underlying kt = some d) {B : AVal} {W : Value} {I : Nat → Nat → Prop} {η : Nat → Nat} {N : Nat} (hk : isKey (E.T kt) B = true) (hr : Rep w I η N B W) : IsKey d W := by
  obtain ⟨d', h1, h2, _⟩ := key_ok hT hk hr
  rw [hd] at h1; cases h1; exact h2

/-- The entries of a map that lies in the abstract heap. -/
theorem map_at [VR : Vars] (hT : TOk P E.T) (h : Rel w0 ω0 w g st vs) {kt : TypeId} {A : AVal} {V : Value} (hk : isKey (E.T kt) A = true) (hr : Rep w g.I g.η st.H.length A V) {id : Nat} {es : List (AVal × AVal)} (hes : st.H[id]? = some (.map es)) (hall : es.all (fun e => isKey (E.T kt) e.1) = true) (v : AVal) :
    ∃ d ents clock, P.underlying kt = some d ∧ IsKey d V ∧ w.heap[g.η id]? = some (.map ents clock) ∧ ents.size = es.length ∧ Go.MapKept.Stamped ents clock ∧ (∀ (i : Nat) k x e, es[i]? = some (k, x) → ents[i]? = some e → Rep w g.I g.η st.H.length k e.key ∧ Rep w g.I g.η st.H.length x e.val ∧ plainAgg x = true ∧ plain k = true) ∧
      ((findKey A es = none ∧ Instr.findNow d V ents.toList 0 = some none ∧ putKey A v es = es ++ [(A, v)] ∧ delKey A es = es) ∨
       ∃ j x e, es[j]? = some (A, x) ∧ ents[j]? = some e ∧ findKey A es = some x ∧ Instr.findNow d V ents.toList 0 = some (some (j, e.val)) ∧ putKey A v es = es.set j (A, v) ∧ delKey A es = es.eraseIdx j) := by
  obtain ⟨h1, ents, clock, h2, h3, h4⟩ := h.base.heap id _ hes
  obtain ⟨d, hd1, hd2, hd3⟩ := key_ok hT hk hr
  refine ⟨d, ents, clock, hd1, hd2, h2, h3.1, h3.2, h4, ?_⟩
  rcases find_rel (A := A) (V := V) (d := d) v es ents.toList 0 (by simpa using h3.1) (fun j k x e he hi => by
    have hkk := List.all_eq_true.1 hall (k, x) (List.mem_of_getElem? he)
    obtain ⟨_, b, h5, h6, h7⟩ := hd3 k e.key hkk (h4 j k x e he (by simpa using hi)).1
    exact ⟨b, h5, h6, h7⟩) with h | ⟨j, x, e, h5, h6, h7, h8, h9, h10⟩
  · exact .inl h
  · exact .inr ⟨j, x, e, h5, by simpa using h6, h7, by simpa using h8, h9, h10⟩

theorem op_lookup [VR : Vars] (hT : TOk P E.T) {t : TypeId} {m key : Operand} {ok : Bool} (h : Rel w0 ω0 w g st vs) (ho : o.op = .lookup t m key ok) (hk : Den C (doOp E mv o st k) r) (hn : Follows C w0 ω0 o vs k r next) : o.wp P ⟨vs, []⟩ w next Q := by
  simp only [doOp, ho] at hk
  split at hk
  · rename_i kt et q hti
    have hu := (hT t _ hti).kind
    simp only [KOk] at hu
    split at hk
    · rename_i i he
      have hTi := hT _ i he
      obtain ⟨inf, z, hinf, hs, hby, hz, hzs, hzr, hzc⟩ := hTi.info
      obtain ⟨hkey, hk⟩ := cond_den hk
      have hkr : Rep w g.I g.η st.H.length (ev st.ts key) (Act.eval ⟨vs, []⟩ key) := ev_ne h rfl (fun e => by rw [e] at hkey; unfold isKey at hkey; split at hkey <;> simp_all) (fun s o e => by rw [e] at hkey; unfold isKey at hkey; split at hkey <;> simp_all) (fun s o e => by rw [e] at hkey; unfold isKey at hkey; split at hkey <;> simp_all)
      -- what the model finds
      have hfin : ∀ (A : AVal) (V : Value) (b : Bool), Rep w g.I g.η st.H.length A V → (Instr.lookup t (Act.eval ⟨vs, []⟩ m) (Act.eval ⟨vs, []⟩ key) ok).run P w = .ok (if ok then .tuple #[V, .bool b] else V) w →
          Den C (bif ok then k (.tuple [A, .bool b]) st else k (disAgg A) st) r → o.wp P ⟨vs, []⟩ w next Q := fun A V b hAV hrun hk => by
        have hrun2 : (execOp (Act.eval ⟨vs, []⟩) o).run P w = .ok (.value (if ok then .tuple #[V, .bool b] else V)) w := by
          simp only [execOp, ho]; exact run_value hrun
        cases ok with
        | true =>
          refine wp_of_value hrun2 (hn _ _ _ _ g (h.put_ev (v := .tuple [A, .bool b]) ?_ rfl) hk)
          refine Rep.tuple [A, .bool b] #[V, .bool b] rfl (fun i c v hc hv => ?_)
          match i with
          | 0 => simp at hc hv; subst hc; subst hv; exact hAV
          | 1 => simp at hc hv; subst hc; subst hv; exact .bool b
          | i + 2 => simp at hc
        | false => exact wp_of_value hrun2 (hn _ _ _ _ g (h.put_ev hAV.disAgg.ev (isOwn_disAgg _)) hk)
      split at hk
      · rename_i es hes
        obtain ⟨hall, hk⟩ := hk.chk
        split at hes
        · -- a nil map
          rename_i hm
          cases hes
          have hmr := ev_ne h hm (by simp) (by simp)
          obtain ⟨d, hd1, hd2, _⟩ := key_ok hT hkey hkr
          refine hfin i.zero z false (hzr _ _ _ _) ?_ hk
          generalize Act.eval ⟨vs, []⟩ m = M at hmr ⊢
          cases hmr
          have hf : (Instr.findKey kt (Act.eval ⟨vs, []⟩ key) []).run P w = .ok none w := MapKept.run_findKey hd1 rfl
          simp only [Instr.lookup, Sem.run_bind, AM.run_underlying hu, Result.andThen_ok, Sem.run_pure, MapKept.run_checkKey hd1 hd2 _ 9999, hf, zeroValue, run_typeInfo hinf, hz]
        · rename_i id hm
          have hmr := ev_ne h hm (by simp) (by simp)
          split at hes
          · rename_i es' hes'
            cases hes
            obtain ⟨d, ents, clock, hd1, hd2, hw, hsz, hst, hrep, hcase⟩ := map_at hT h hkey hkr hes' hall .undef
            generalize Act.eval ⟨vs, []⟩ m = M at hmr hfin ⊢
            cases hmr
            rcases hcase with ⟨h1, h2, _⟩ | ⟨j, x, e, h1, h2, h3, h4, _⟩
            · rw [h1] at hk
              refine hfin i.zero z false (hzr _ _ _ _) ?_ hk
              have hf : (Instr.findKey kt (Act.eval ⟨vs, []⟩ key) ents.toList).run P w = .ok none w := MapKept.run_findKey hd1 h2
              simp only [Instr.lookup, Sem.run_bind, AM.run_underlying hu, Result.andThen_ok, MapKept.run_getObj_map hw, Sem.run_pure, MapKept.run_checkKey hd1 hd2 _ 9999, hf, zeroValue, run_typeInfo hinf, hz]
            · rw [h3] at hk
              refine hfin x e.val true (hrep j _ x e h1 h2).2.1 ?_ hk
              have hf : (Instr.findKey kt (Act.eval ⟨vs, []⟩ key) ents.toList).run P w = .ok (some (j, e.val)) w := MapKept.run_findKey hd1 h4
              simp only [Instr.lookup, Sem.run_bind, AM.run_underlying hu, Result.andThen_ok, MapKept.run_getObj_map hw, Sem.run_pure, MapKept.run_checkKey hd1 hd2 _ 9999, hf]
          · cases hes
        · cases hes
      · exact (noDen hk).elim
    · exact (noDen hk).elim
  · exact (noDen hk).elim

theorem sameBits_key {d : TypeDesc} {V : Value} (h : IsKey d V) : ∀ n, Instr.sameBits n V V = true := by
  intro n
  cases d <;> cases V <;> simp_all [IsKey] <;> cases n <;> simp [Instr.sameBits] <;> exact (bytes_beq _ _).2 rfl

theorem op_mapUpdate [VR : Vars] (hT : TOk P E.T) {t : TypeId} {m key v : Operand} (h : Rel w0 ω0 w g st vs) (ho : o.op = .mapUpdate t m key v) (hk : Den C (doOp E mv o st k) r) (hn : Follows C w0 ω0 o vs k r next) : o.wp P ⟨vs, []⟩ w next Q := by
  simp only [doOp, ho] at hk
  split at hk
  · exact (noDen hk).elim
  rename_i hd
  split at hk
  · rename_i kt et q hti
    have hu := (hT t _ hti).kind
    simp only [KOk] at hu
    obtain ⟨hb, hk⟩ := cond_den hk
    simp only [Bool.and_eq_true] at hb
    obtain ⟨hkey, hpl⟩ := hb
    have hkr : Rep w g.I g.η st.H.length (ev st.ts key) (Act.eval ⟨vs, []⟩ key) := ev_ne h rfl (fun e => by rw [e] at hkey; unfold isKey at hkey; split at hkey <;> simp_all) (fun s o e => by rw [e] at hkey; unfold isKey at hkey; split at hkey <;> simp_all) (fun s o e => by rw [e] at hkey; unfold isKey at hkey; split at hkey <;> simp_all)
    have hkp : plain (ev st.ts key) = true := by
      unfold isKey at hkey; split at hkey <;> first | (rename_i e; rw [e]; rfl) | (rename_i e _; rw [e]; rfl) | simp_all
    have hvr : Rep w g.I g.η st.H.length (ev st.ts v) (Act.eval ⟨vs, []⟩ v) := ev_ne h rfl (fun e => by rw [e] at hpl; simp [plainAgg, plain] at hpl) (fun s o e => by rw [e] at hpl; simp [plainAgg, plain] at hpl) (fun s o e => by rw [e] at hpl; simp [plainAgg, plain] at hpl)
    split at hk
    · rename_i id hm
      have hmr := ev_ne h hm (by simp) (by simp)
      split at hk
      · rename_i es hes
        obtain ⟨hall, hk⟩ := hk.chk
        obtain ⟨d, ents, clock, hd1, hd2, hw, hsz, hst, hrep, hcase⟩ := map_at hT h hkey hkr hes hall (disAgg (ev st.ts v))
        have hmv : Act.eval ⟨vs, []⟩ m = .map (some (g.η id)) := by
          generalize Act.eval ⟨vs, []⟩ m = M at hmr; cases hmr; rfl
        have hnew : Rep w g.I g.η st.H.length (ev st.ts key) (Act.eval ⟨vs, []⟩ key) ∧ Rep w g.I g.η st.H.length (disAgg (ev st.ts v)) (Act.eval ⟨vs, []⟩ v) ∧ plainAgg (disAgg (ev st.ts v)) = true ∧ plain (ev st.ts key) = true := ⟨hkr, hvr.disAgg, by rw [plainAgg_disAgg]; exact hpl, hkp⟩
        rcases hcase with ⟨h1, h2, h3, _⟩ | ⟨j, x, e, h1, h2, h3, h4, h5, _⟩
        · have hdiff : ∀ y ∈ ents.toList, y.key ≠ Act.eval ⟨vs, []⟩ key := by
            rcases findNow_spec hd2 ents.toList 0 (fun y hy => by
              obtain ⟨q, hq, hqe⟩ := List.getElem_of_mem hy
              have hq2 : q < es.length := by rw [← hsz]; exact hq
              have hkk := List.all_eq_true.1 hall es[q] (List.getElem_mem hq2)
              have hqa : ents[q]? = some y := by rw [Array.getElem?_eq_getElem hq]; exact congrArg some hqe
              exact key_desc hT hd1 hkk (hrep q es[q].1 es[q].2 y (List.getElem?_eq_getElem hq2) hqa).1) with ⟨_, h6⟩ | ⟨j', e', h6, _⟩
            · exact h6
            · rw [h2] at h6; cases h6
          have hR := h.setMap hes (es' := putKey (ev st.ts key) (disAgg (ev st.ts v)) es) (ents' := ents.push { key := Act.eval ⟨vs, []⟩ key, val := Act.eval ⟨vs, []⟩ v, born := clock }) (clock' := clock + 1) ⟨by rw [h3]; simp [hsz], Go.MapKept.stamped_push hst hdiff⟩ (fun i k x e he hi => by
            rw [h3] at he
            by_cases hi2 : i < es.length
            · rw [List.getElem?_append_left hi2] at he
              rw [Array.getElem?_push, if_neg (by omega)] at hi
              exact hrep i k x e he hi
            · rw [List.getElem?_append_right (by omega)] at he
              have hie : i = es.length := by have := lt_of_some he; simp at this; omega
              subst hie
              simp only [Nat.sub_self, List.getElem?_cons_zero, Option.some.injEq, Prod.mk.injEq] at he
              obtain ⟨rfl, rfl⟩ := he
              rw [Array.getElem?_push, if_pos hsz.symm] at hi
              cases hi
              exact hnew)
          have hf : (Instr.findKey kt (Act.eval ⟨vs, []⟩ key) ents.toList).run P w = .ok none w := MapKept.run_findKey hd1 h2
          have hrun : (execOp (Act.eval ⟨vs, []⟩) o).run P w = .ok .skip { w with heap := w.heap.setIfInBounds (g.η id) (.map (ents.push { key := Act.eval ⟨vs, []⟩ key, val := Act.eval ⟨vs, []⟩ v, born := clock }) (clock + 1)) } := by
            simp only [execOp, ho, hmv, Sem.run_bind, Instr.mapUpdate, AM.run_underlying hu, Result.andThen_ok, MapKept.run_getObj_map hw, MapKept.run_checkKey hd1 hd2 _ 9999, hf]
            rw [MapKept.run_setObj_map _ hw]; rfl
          exact wp_of_skip hrun (hn .undef _ undef _ g (by rw [hd]; exact hR) hk)
        · have hje : j < ents.size := alt_of_some h2
          have hke : e.key = Act.eval ⟨vs, []⟩ key := by
            rcases findNow_spec hd2 ents.toList 0 (fun y hy => by
              obtain ⟨q, hq, hqe⟩ := List.getElem_of_mem hy
              have hq2 : q < es.length := by rw [← hsz]; exact hq
              have hkk := List.all_eq_true.1 hall es[q] (List.getElem_mem hq2)
              have hqa : ents[q]? = some y := by rw [Array.getElem?_eq_getElem hq]; exact congrArg some hqe
              obtain ⟨_, _, _, hd3⟩ := key_ok hT hkey hkr
              exact key_desc hT hd1 hkk (hrep q es[q].1 es[q].2 y (List.getElem?_eq_getElem hq2) hqa).1) with ⟨h6, _⟩ | ⟨j', e', h6, h7, h8⟩
            · rw [h4] at h6; cases h6
            · rw [h4] at h6
              simp only [Nat.zero_add, Option.some.injEq, Prod.mk.injEq] at h6
              obtain ⟨rfl, _⟩ := h6
              have : ents[j]? = some e' := by simpa using h7
              rw [h2] at this; cases this
              exact h8
          have hR := h.setMap hes (es' := putKey (ev st.ts key) (disAgg (ev st.ts v)) es) (ents' := ents.modify j fun e => { e with key := Act.eval ⟨vs, []⟩ key, val := Act.eval ⟨vs, []⟩ v }) (clock' := clock) ⟨by rw [h5]; simp [hsz], Go.MapKept.stamped_modify hst j _ (fun _ _ => rfl) (fun e0 _ he0 => by rw [h2] at he0; cases he0; exact hke.symm)⟩ (fun i k x' e' he hi => by
            rw [h5, List.getElem?_set] at he
            rw [Array.getElem?_modify] at hi
            by_cases hij : j = i
            · subst hij
              rw [if_pos rfl, if_pos (lt_of_some h1)] at he
              rw [if_pos rfl, h2] at hi
              cases he; cases hi
              exact hnew
            · rw [if_neg hij] at he hi
              exact hrep i k x' e' he hi)
          have hf : (Instr.findKey kt (Act.eval ⟨vs, []⟩ key) ents.toList).run P w = .ok (some (j, e.val)) w := MapKept.run_findKey hd1 h4
          have hks : (Instr.keyThatStays (((ents[j]?).map (·.key)).getD (Act.eval ⟨vs, []⟩ key)) (Act.eval ⟨vs, []⟩ key)).run P w = .ok (Act.eval ⟨vs, []⟩ key) w := by
            rw [h2]
            simp only [Option.map_some, Option.getD_some, hke, Instr.keyThatStays, sameBits_key hd2, if_true, Sem.run_pure]
          have hrun : (execOp (Act.eval ⟨vs, []⟩) o).run P w = .ok .skip { w with heap := w.heap.setIfInBounds (g.η id) (.map (ents.modify j fun e => { e with key := Act.eval ⟨vs, []⟩ key, val := Act.eval ⟨vs, []⟩ v }) clock) } := by
            simp only [execOp, ho, hmv, Sem.run_bind, Instr.mapUpdate, AM.run_underlying hu, Result.andThen_ok, MapKept.run_getObj_map hw, MapKept.run_checkKey hd1 hd2 _ 9999, hf, hks]
            rw [MapKept.run_setObj_map _ hw]; rfl
          exact wp_of_skip hrun (hn .undef _ undef _ g (by rw [hd]; exact hR) hk)
      · exact (noDen hk).elim
    · exact (noDen hk).elim
  · exact (noDen hk).elim

theorem op_insert [VR : Vars] (hT : TOk P E.T) {t : TypeId} {m key v : Operand} (h : Rel w0 ω0 w g st vs) (ho : o.op = .insert t m key v) (hk : Den C (doOp E mv o st k) r) (hn : Follows C w0 ω0 o vs k r next) : o.wp P ⟨vs, []⟩ w next Q := by
  have hk' : Den C (doOp E mv { o with op := .mapUpdate t m key v } st k) r := by
    unfold doOp at hk ⊢; rw [ho] at hk; exact hk
  have := op_mapUpdate (P := P) (o := { o with op := .mapUpdate t m key v }) (mv := mv) (k := k) (r := r) (next := next) (Q := Q) hT h rfl hk' hn
  unfold Oper.wp Oper.upon at this ⊢
  simpa only [execOp, ho] using this

theorem op_delete [VR : Vars] (hT : TOk P E.T) {c : Call} (h : Rel w0 ω0 w g st vs) (ho : o.op = .call c) (hc : c.callee = .builtin .delete) (hk : Den C (doOp E mv o st k) r) (hn : Follows C w0 ω0 o vs k r next) : o.wp P ⟨vs, []⟩ w next Q := by
  simp only [doOp, ho, hc] at hk
  split at hk
  · rename_i m key t ts ha hta
    have harg : c.args = #[m, key] := by apply Array.ext'; exact ha
    have htys : c.argTypes.toList = t :: ts := hta
    have htys0 : c.argTypes[0]? = some t := by rw [← Array.getElem?_toList, htys]; rfl
    split at hk
    · rename_i kt et q hti
      have hu := (hT t _ hti).kind
      simp only [KOk] at hu
      obtain ⟨hkey, hk⟩ := cond_den hk
      have hkr : Rep w g.I g.η st.H.length (ev st.ts key) (Act.eval ⟨vs, []⟩ key) := ev_ne h rfl (fun e => by rw [e] at hkey; unfold isKey at hkey; split at hkey <;> simp_all) (fun s o e => by rw [e] at hkey; unfold isKey at hkey; split at hkey <;> simp_all) (fun s o e => by rw [e] at hkey; unfold isKey at hkey; split at hkey <;> simp_all)
      split at hk
      · rename_i id hm
        have hmr := ev_ne h hm (by simp) (by simp)
        split at hk
        · rename_i es hes
          obtain ⟨hall, hk⟩ := hk.chk
          obtain ⟨d, ents, clock, hd1, hd2, hw, hsz, hst, hrep, hcase⟩ := map_at hT h hkey hkr hes hall .undef
          have hmv : Act.eval ⟨vs, []⟩ m = .map (some (g.η id)) := by
            generalize Act.eval ⟨vs, []⟩ m = M at hmr; cases hmr; rfl
          have hfin : ∀ (ents' : Array MapEntry), (Builtin.delete_ c.argTypes o.type #[.map (some (g.η id)), Act.eval ⟨vs, []⟩ key]).run P w = .ok (.tuple #[]) { w with heap := w.heap.setIfInBounds (g.η id) (.map ents' clock) } →
              Rel w0 ω0 { w with heap := w.heap.setIfInBounds (g.η id) (.map ents' clock) } g { st with H := st.H.set id (.map (delKey (ev st.ts key) es)) } vs → o.wp P ⟨vs, []⟩ w next Q := fun ents' hl hR => by
            have hrun : (execOp (Act.eval ⟨vs, []⟩) o).run P w = .ok (.value (.tuple #[])) { w with heap := w.heap.setIfInBounds (g.η id) (.map ents' clock) } := by
              simp only [execOp, ho, resolve, hc, harg, Sem.run_bind, Sem.run_pure, Result.andThen_ok, invoke, builtin, List.map_toArray, List.map_cons, List.map_nil, hmv]
              simp [hl]
            exact wp_of_value hrun (hn _ _ _ _ g (hR.put_ev (v := .tuple []) (Rep.tuple [] #[] rfl (fun i c v h => by simp at h)) rfl) hk)
          rcases hcase with ⟨h1, h2, _, h3⟩ | ⟨j, x, e, h1, h2, h3, h4, _, h5⟩
          · have hf : (Instr.findKey kt (Act.eval ⟨vs, []⟩ key) ents.toList).run P w = .ok none w := MapKept.run_findKey hd1 h2
            refine hfin ents ?_ (h.setMap hes ⟨by rw [h3]; exact hsz, hst⟩ (fun i k x e he hi => by rw [h3] at he; exact hrep i k x e he hi))
            simp only [Builtin.delete_, htys0, List.getElem?_toArray, List.getElem?_cons_zero, List.getElem?_cons_succ, Sem.run_bind, AM.run_underlying hu, Result.andThen_ok, MapKept.run_getObj_map hw, MapKept.run_checkKey hd1 hd2 _ 9999, hf]
            rw [MapKept.run_setObj_map _ hw]; rfl
          · have hf : (Instr.findKey kt (Act.eval ⟨vs, []⟩ key) ents.toList).run P w = .ok (some (j, e.val)) w := MapKept.run_findKey hd1 h4
            have hje : j < ents.size := alt_of_some h2
            refine hfin (ents.eraseIdxIfInBounds j) ?_ (h.setMap hes ⟨by rw [h5, List.length_eraseIdx, if_pos (lt_of_some h1)]; rw [Array.eraseIdxIfInBounds, dif_pos hje, Array.size_eraseIdx, hsz], Go.MapKept.stamped_erase hst j⟩ (fun i k x' e' he hi => by
              rw [h5, List.getElem?_eraseIdx] at he
              have hi' : (if i < j then ents[i]? else ents[i + 1]?) = some e' := by
                rw [← hi]
                simp only [Array.eraseIdxIfInBounds, hje, dif_pos]
                rw [Array.getElem?_eraseIdx]
              by_cases hij : i < j
              · rw [if_pos hij] at he hi'
                exact hrep i k x' e' he hi'
              · rw [if_neg hij] at he hi'
                exact hrep (i + 1) k x' e' he hi'))
            simp only [Builtin.delete_, htys0, List.getElem?_toArray, List.getElem?_cons_zero, List.getElem?_cons_succ, Sem.run_bind, AM.run_underlying hu, Result.andThen_ok, MapKept.run_getObj_map hw, MapKept.run_checkKey hd1 hd2 _ 9999, hf]
            rw [MapKept.run_setObj_map _ hw]; rfl
        · exact (noDen hk).elim
      · exact (noDen hk).elim
    · exact (noDen hk).elim
  · exact (noDen hk).elim

theorem alloc_freeze (w : World) (arr : Array Value) (t : TypeId) : (w.alloc (.cells arr t)).freeze ⟨w.heap.size, arr.size, none⟩ 1 = w.alloc (.cells arr t (arr.size, arr.size + 1)) := by
  unfold World.freeze
  rw [if_neg (by omega)]
  have : (w.alloc (.cells arr t)).heap.modify w.heap.size (fun | .cells c elem (lo, hi) => .cells c elem (if lo == hi then (arr.size, arr.size + 1) else (min lo arr.size, max hi (arr.size + 1))) | o => o) = (w.alloc (.cells arr t (arr.size, arr.size + 1))).heap := by
    apply Array.ext_getElem?
    intro j
    show ((w.heap.push _).modify _ _)[j]? = (w.heap.push _)[j]?
    rw [Array.getElem?_modify]
    by_cases hj : w.heap.size = j
    · subst hj; simp
    · rw [if_neg hj]
      rw [Array.getElem?_push, Array.getElem?_push, if_neg (Ne.symm hj), if_neg (Ne.symm hj)]
  exact congrArg (fun hp => ({ w with heap := hp } : World)) this

theorem op_bytes [VR : Vars] (hT : TOk P E.T) {s d : TypeId} {x : Operand} (h : Rel w0 ω0 w g st vs) (ho : o.op = .convert s d x) (hn : Follows C w0 ω0 o vs k r next) {i0 i j : TI} {e : TypeId} (hs : E.T s = some i0) (hd : E.T d = some i) (hi : i.kind = .slice e) (he : E.T e = some j) (hj : j.kind = .int .u8) (hj1 : j.size = 1) (hds : o.dst.isSome = true)
    {t : ByteArray} (hx : ev st.ts x = .str t) (hk : Den C (k (.slice .own 1 t.size (byteAt t)) st) r) : o.wp P ⟨vs, []⟩ w next Q := by
  have hud := (hT d i hd).kind
  rw [hi] at hud
  have hue := (hT e j he).kind
  rw [hj] at hue
  simp only [KOk] at hud hue
  obtain ⟨q, hq⟩ := Option.isSome_iff_exists.1 hds
  obtain ⟨us, hus⟩ := (hT s i0 hs).und
  obtain ⟨cap, hcap, hle⟩ : ∃ cap, cap = t.size + w.tape w.drawn (.appendCap t.size 0 e) % (2 ^ 63 - t.size) ∧ t.size ≤ cap := ⟨_, rfl, by omega⟩
  let arr : Array Value := t.data.map (fun b => Value.int .u8 b.toNat) ++ Array.replicate (cap - t.size) (.int .u8 0)
  have hasz : arr.size = cap := by
    simp only [arr, Array.size_append, Array.size_map, Array.size_replicate]
    show t.size + (cap - t.size) = cap
    omega
  have hrun : (execOp (Act.eval ⟨vs, []⟩) o).run P w = .ok (.value (.slice (some ⟨w.heap.size, 0, none⟩) t.size cap)) (({ w with drawn := w.drawn + 1 } : World).alloc (.cells arr e (arr.size, arr.size + 1))) := by
    simp only [execOp, ho, eval_str h hx]
    refine run_value ?_
    have hcv : (Conv.stringToBytes e t).run P w = .ok (.slice (some ⟨w.heap.size, 0, none⟩) t.size cap) (({ w with drawn := w.drawn + 1 } : World).alloc (.cells arr e (arr.size, arr.size + 1))) := by
      simp only [Conv.stringToBytes, Sem.run_bind, run_choose, Question.forced, Bool.false_eq_true, if_false, Result.andThen_ok, Question.cut, ← hcap, newRow, run_newObj, Sem.run_pure, markStringish, run_shape]
      have hshape : ({ w with heap := w.heap.push (.cells arr e), drawn := w.drawn + 1 } : World).shape? w.heap.size = some (e, arr.size) := by
        simp [World.shape?]
      rw [hshape]
      simp only [run_freeze, Result.andThen_ok]
      congr 1
      exact alloc_freeze ({ w with drawn := w.drawn + 1 } : World) arr e
    simp only [convert, Sem.run_bind, AM.run_underlying hus, AM.run_underlying hud, Result.andThen_ok]
    cases us <;> simp only [Sem.run_bind, AM.run_underlying hue, Result.andThen_ok, hcv]
  refine wp_of_value hrun ?_
  have hd2 := h.of_heap (w' := { w with drawn := w.drawn + 1 }) rfl rfl rfl rfl
  have hcell : ∀ j, (({ w with drawn := w.drawn + 1 } : World).alloc (.cells arr e (arr.size, arr.size + 1))).cell? ⟨w.heap.size, j, none⟩ = arr[j]? := fun j => World.cell?_alloc_mark ({ w with drawn := w.drawn + 1 } : World) arr e _ j
  have hR := hd2.fresh q (.cells arr e (arr.size, arr.size + 1)) (fun o => if o < t.size then .imm else if o < cap then .tail q 0 else .free) st.H false (.slice .own 1 t.size (byteAt t)) (.slice (some ⟨w.heap.size, 0, none⟩) t.size cap) (g.β q) (by simp) (.inl rfl)
    (fun o => by by_cases e1 : o < t.size <;> by_cases e2 : o < cap <;> simp [e1, e2, ofSlot]) (fun o h1 h2 => ?_) (fun o s j hh => ?_) (fun o o' id hh => by by_cases e1 : o < t.size <;> by_cases e2 : o < cap <;> simp [e1, e2] at hh)
    (RepSlot.of_pl ⟨?_, fun esz n' f' he' => ?_⟩)
  · exact hn _ _ _ _ _ (by rw [hq]; exact hR) hk
  · have ho2 : o < cap := by
      by_cases e2 : o < cap
      · exact e2
      · have e1 : ¬ o < t.size := by omega
        simp [e1, e2] at h1
    rw [World.frozen?_alloc_mark ({ w with drawn := w.drawn + 1 } : World) arr e]
    simp [hasz]; omega
  · have ho2 : o < cap := by
      by_cases e2 : o < cap
      · exact e2
      · have e1 : ¬ o < t.size := by omega
        simp [e1, e2] at hh
    exact ⟨_, by rw [hcell]; exact Array.getElem?_eq_getElem (by rw [hasz]; exact ho2)⟩
  · refine (src_str (w := w) (g := g) (N := st.H.length) t).slice (by omega) (fun c x hr => ?_) hle .own (by simp) (by simp) (fun _ => ⟨w.heap.size, 0, rfl, fun j hj => ⟨?_, ?_⟩⟩)
    · have hr2 : Rep { w with drawn := w.drawn + 1 } g.I g.η st.H.length c x := Rep.mono (w := w) (w' := { w with drawn := w.drawn + 1 }) (fun b o hb => ⟨hb, rfl⟩) (Nat.le_refl _) (fun _ _ => rfl) hr
      exact Rep.fresh (st := st) (B := hd2.base) (Nat.le_refl _) hr2
    · rw [Nat.mul_one] at hj
      simp [Gh.fresh, hj]
    · rw [Nat.mul_one] at hj
      rw [hcell, Nat.zero_add]
      have hj2 : j < t.data.size := hj
      simp only [arr]
      rw [Array.getElem?_append_left (by simpa using hj2)]
      simp [hj2]
  · cases he'
    refine ⟨_, cap, rfl, fun j h5 h6 => ⟨w.heap.size, 0, rfl, ?_⟩⟩
    rw [Nat.mul_one] at h5 h6
    simp [Gh.fresh, h6, Nat.not_lt.2 h5]

theorem foldl_int (l : List Int) : ∀ (b : ByteArray), l.foldl (fun r n => r.push (UInt8.ofNat n.toNat)) b = ⟨b.data ++ (l.map fun n => UInt8.ofNat n.toNat).toArray⟩ := by
  induction l with
  | nil => intro b; simp
  | cons c l ih =>
    intro b
    simp only [List.foldl_cons]
    rw [ih]
    congr 1
    apply Array.ext'
    simp [ByteArray.push]

theorem op_string0 [VR : Vars] (hT : TOk P E.T) {s d : TypeId} {x : Operand} (h : Rel w0 ω0 w g st vs) (ho : o.op = .convert s d x) (hn : Follows C w0 ω0 o vs k r next) {i j i2 : TI} {e : TypeId} (hs : E.T s = some i) (hi : i.kind = .slice e) (he : E.T e = some j) (hj : j.kind = .int .u8) (hd : E.T d = some i2) (hi2 : i2.kind = .string)
    {n cap : Nat} {ad : Option Addr} {f : Nat → AVal} (hX : Act.eval ⟨vs, []⟩ x = .slice ad n cap) (hnil : ad = none → n = 0) (hfc : (Builtin.firstCells 1 n (.slice ad n cap)).run P w = .ok ((List.range n).map fun q => Value.int .u8 (intOf' (f q))).toArray w) (hk : Den C (k (.str (strOf n f)) st) r) : o.wp P ⟨vs, []⟩ w next Q := by
  have hus := (hT s i hs).kind
  rw [hi] at hus
  have hud := (hT d i2 hd).kind
  rw [hi2] at hud
  have hue := (hT e j he).kind
  rw [hj] at hue
  simp only [KOk] at hus hud hue
  refine wp_of_value (x := .string (strOf n f)) ?_ (hn _ _ _ _ g (h.put_ev (v := .str _) (Rep.str _) rfl) hk)
  simp only [execOp, ho, hX]
  refine run_value ?_
  have hcv : (Conv.bytesToString (.slice ad n cap)).run P w = .ok (.string (strOf n f)) w := by
    cases ad with
    | none =>
      have hn0 := hnil rfl
      subst hn0
      simp only [Conv.bytesToString, Sem.run_pure]; rfl
    | some a =>
      simp only [Builtin.firstCells, Nat.mul_one] at hfc
      rw [run_bytesToString w a n cap ((List.range n).map fun q => intOf' (f q)) (by rw [hfc]; simp)]
      congr 2
      have := foldl_int ((List.range n).map fun q => intOf' (f q)) ByteArray.empty
      rw [this]
      simp [strOf, ByteArray.empty, ByteArray.emptyWithCapacity, Function.comp_def]
      rfl
  simp only [convert, Sem.run_bind, run_underlying hus, run_underlying hud, Result.andThen_ok, run_underlying hue]
  cases ad <;> exact hcv
theorem allU8_at {n : Nat} {f : Nat → AVal} (h8 : allU8 n f = true) : ∀ q, q < n → ∃ m, f q = .int .u8 m := fun q hq => by
  have := List.all_eq_true.1 h8 q (by simpa using hq)
  cases hf : f q <;> rw [hf] at this <;> simp [isU8] at this
  rename_i kk m
  cases kk <;> simp [isU8] at this
  exact ⟨m, rfl⟩
theorem op_string [VR : Vars] (hT : TOk P E.T) {s d : TypeId} {x : Operand} (h : Rel w0 ω0 w g st vs) (ho : o.op = .convert s d x) (hn : Follows C w0 ω0 o vs k r next) {i j i2 : TI} {e : TypeId} (hs : E.T s = some i) (hi : i.kind = .slice e) (he : E.T e = some j) (hj : j.kind = .int .u8) (hd : E.T d = some i2) (hi2 : i2.kind = .string)
    {esz n : Nat} {f : Nat → AVal} (hx : sliceOf st.H (ev st.ts x) = some (true, esz, n, f)) (h1 : esz = 1) (h8 : allU8 n f = true) (hk : Den C (k (.str (strOf n f)) st) r) : o.wp P ⟨vs, []⟩ w next Q := by
  subst h1
  obtain ⟨L, hL, ⟨ad, cap, hX⟩, hrun⟩ := src_of (P := P) h hx (size := 1) (by omega) (.inl rfl)
  have h8' := allU8_at h8
  have hLv : L = (List.range n).map fun q => Value.int .u8 (intOf' (f q)) := by
    apply List.ext_getElem?
    intro q
    by_cases hq : q < n
    · obtain ⟨m, hm⟩ := h8' q hq
      obtain ⟨y, hy, hyr⟩ := hL.rep q hq 0 (f q) (by rw [hm]; rfl)
      rw [hm] at hyr
      cases hyr
      rw [Nat.mul_one, Nat.add_zero] at hy
      rw [hy, List.getElem?_map, List.getElem?_range hq]; simp only [Option.map_some, hm, intOf']
    · rw [List.getElem?_eq_none (by rw [hL.len]; omega), List.getElem?_eq_none (by simp; omega)]
  have hfc := hrun w rfl
  rw [hX, hLv] at hfc
  refine op_string0 hT h ho hn hs hi he hj hd hi2 hX (fun e => ?_) hfc hk
  subst e
  rcases Nat.eq_zero_or_pos n with h0 | h0
  · exact h0
  · simp only [Builtin.firstCells, Sem.run_pure, Result.ok.injEq, and_true] at hfc
    have := congrArg (fun a : Array Value => a.size) hfc
    simp at this; omega
/-- The bytes of a slice that a slot holds. -/
theorem op_stringV [VR : Vars] (hT : TOk P E.T) {s d : TypeId} {x : Operand} (h : Rel w0 ω0 w g st vs) (ho : o.op = .convert s d x) (hn : Follows C w0 ω0 o vs k r next) {i j i2 : TI} {e : TypeId} (hs : E.T s = some i) (hi : i.kind = .slice e) (he : E.T e = some j) (hj : j.kind = .int .u8) (hd : E.T d = some i2) (hi2 : i2.kind = .string)
    {t esz n n' : Nat} {cs : List AVal} (hx : ev st.ts x = .vref t n) (ht : st.ts.getD t .undef = .vec esz n' cs) (h1 : esz = 1) (hnn : Nat.beq n n' = true) (h8 : allU8 n (fun i => cs.getD i .undef) = true) (hk : Den C (k (.str (strOf n (fun i => cs.getD i .undef))) st) r) : o.wp P ⟨vs, []⟩ w next Q := by
  subst h1
  have hnn := Nat.eq_of_beq_eq_true hnn
  subst hnn
  have hev := h.ev x ⟨vs, []⟩ rfl
  rw [hx] at hev
  obtain ⟨ad, cap, hX, had⟩ := hev
  obtain ⟨_, ⟨_, hlen, hr⟩, _⟩ := h.vecOf ht
  have h8' := allU8_at h8
  rcases Nat.eq_zero_or_pos n with h0 | h0
  · subst h0
    refine op_string0 hT h ho hn hs hi he hj hd hi2 hX (fun _ => rfl) ?_ hk
    cases ad with
    | none => simp [Builtin.firstCells]
    | some a => simp [Builtin.firstCells, loadCells, loadCellsFrom]
  · rcases hr with ⟨_, e2⟩ | ⟨cap', e1, e2, e3, e4⟩
    · omega
    · have had := had h0
      subst had
      refine op_string0 hT h ho hn hs hi he hj hd hi2 hX (fun e => by cases e) ?_ hk
      rw [run_firstCells_some w 1 n ⟨g.β t, 0, none⟩ n cap ((List.range n).map fun q => Value.int .u8 (intOf' (cs.getD q .undef))) (by simp) (fun q v hq => ?_)]
      have hqn : q < n := by have := lt_of_some hq; simpa using this
      obtain ⟨m, hm⟩ := h8' q hqn
      rw [List.getElem?_map, List.getElem?_range hqn] at hq
      simp only [Option.map_some, Option.some.injEq] at hq
      have hqc : cs[q]? = some (cs.getD q .undef) := by rw [List.getElem?_eq_getElem (by omega)]; simp [List.getD, List.getElem?_eq_getElem (show q < cs.length by omega)]
      obtain ⟨_, _, x', c3, c4⟩ := e4 q _ hqc
      rw [hm] at c4 hq
      cases c4
      rw [addr_add, Nat.zero_add, c3, ← hq]; rfl

theorem eqField_run {d q : Nat} {A B : AVal} {X Y : Value} {N : Nat} {t : TypeId} {c : Bool} (hX : Rep w g.I g.η N A X) (hY : Rep w g.I g.η N B Y) (h : eqField q A B = some c)
    (h1 : q = 1 → ∃ k, P.underlying t = some (.int k)) (h2 : q = 2 → P.underlying t = some .string) (h3 : q = 3 → P.underlying t = some .bool) : (Op.equalIn (d + 1) t X Y).run P w = .ok c w := by
  unfold eqField at h
  split at h
  · cases hX; cases hY
    split at h
    · rename_i hk
      cases h; subst hk
      obtain ⟨k', hk'⟩ := h1 rfl
      exact AM.run_equalIn_int hk'
    · cases h
  · cases hX; cases hY; cases h
    exact AM.run_equalIn_str (h2 rfl)
  · cases hX; cases hY; cases h
    exact AM.run_equalIn_bool (h3 rfl)
  · cases h

theorem eqArr_run {d : Nat} {e : TypeId} {k : IntKind} {i : TypeInfo} {xs ys : Array Value} {as bs : List AVal} {N : Nat} (he : P.underlying e = some (.int k)) (hi : P.info? e = some i) (hs : i.size = 1) (hc : P.cellsOf e = 1) (ha : Rep w g.I g.η N (.agg as) (.agg xs)) (hb : Rep w g.I g.η N (.agg bs) (.agg ys)) : ∀ (n o : Nat) (c : Bool), o + n ≤ as.length → o + n ≤ bs.length →
    eqArr n o as bs = some c → (Op.eqItems (d + 1) e (P.cellsOf e) xs ys (List.range' o n)).run P w = .ok c w
  | 0, o, c, _, _, h => by simp only [eqArr, Option.some.injEq] at h; subst h; simp [Op.eqItems]
  | n + 1, o, c, hl, hl2, h => by
    simp only [eqArr] at h
    split at h
    · rename_i a b h1 h2
      cases h
      have ih := eqArr_run (d := d) he hi hs hc ha hb n (o + 1) b (by omega) (by omega) h2
      have hag : false = true ↔ (∃ fs, P.underlying e = some (.struct fs)) ∨ ∃ n e', P.underlying e = some (.array n e') := by rw [he]; simp
      obtain ⟨X, hX, hXr⟩ := part_run (P := P) (ag := false) hi hs ⟨_, he⟩ hag (fun _ => rfl) (off := o) (by omega) ha
      obtain ⟨Y, hY, hYr⟩ := part_run (P := P) (ag := false) hi hs ⟨_, he⟩ hag (fun _ => rfl) (off := o) (by omega) hb
      simp only [mkElem, cond_false] at hXr hYr
      have heq : (Op.equalIn (d + 1) e X Y).run P w = .ok a w := eqField_run hXr hYr h1 (fun _ => ⟨k, he⟩) (fun e => absurd e (by decide)) (fun e => absurd e (by decide))
      rw [List.range'_succ, Op.eqItems]
      have e1 : o * P.cellsOf e = o := by rw [hc, Nat.mul_one]
      simp only [Sem.run_bind, e1, hX, hY, heq, Result.andThen_ok]
      cases a <;> simp [ih]
    · cases h

theorem eqFields_run {d : Nat} {xs ys : Array Value} {as bs : List AVal} {N : Nat} (ha : Rep w g.I g.η N (.agg as) (.agg xs)) (hb : Rep w g.I g.η N (.agg bs) (.agg ys)) : ∀ (fields : List Field) (fs : List FI) (c : Bool), fields.length = fs.length → (∀ (j : Nat) f fi, fields[j]? = some f → fs[j]? = some fi → FOk P f fi) →
    eqCells fs as bs = some c → (Op.eqFields (d + 2) xs ys fields).run P w = .ok c w
  | [], [], c, _, _, h => by simp only [eqCells, Option.some.injEq] at h; subst h; simp [Op.eqFields]
  | [], _ :: _, _, hl, _, _ => by simp at hl
  | _ :: _, [], _, hl, _, _ => by simp at hl
  | f :: fields, fi :: fs, c, hl, hF, h => by
    have hf := hF 0 f fi rfl rfl
    simp only [eqCells] at h
    split at h
    · rename_i a b h1 h2
      cases h
      have ih := eqFields_run (d := d) ha hb fields fs b (by simpa using hl) (fun j f fi h1 h2 => hF (j + 1) f fi h1 h2) h2
      obtain ⟨inf, hinf, hins⟩ := hf.info
      unfold eqPart at h1
      cases hq4 : Nat.beq fi.eq 4 with
      | true =>
        rw [hq4, cond_true] at h1
        obtain ⟨hname, hagg, e, k, ie, hu, he, hie, hes, hec⟩ := hf.arr (Nat.eq_of_beq_eq_true hq4)
        cases hle : (Nat.ble (fi.off + fi.size) as.length && Nat.ble (fi.off + fi.size) bs.length) with
        | false => rw [hle] at h1; cases h1
        | true =>
          rw [hle, cond_true] at h1
          simp only [Bool.and_eq_true] at hle
          have hl1 := Nat.le_of_ble_eq_true hle.1
          have hl2 := Nat.le_of_ble_eq_true hle.2
          obtain ⟨X, hX, hXr⟩ := part_run (P := P) hinf hins hf.und hf.agg hf.one hl1 ha
          obtain ⟨Y, hY, hYr⟩ := part_run (P := P) hinf hins hf.und hf.agg hf.one hl2 hb
          rw [hagg] at hXr hYr
          simp only [mkElem, cond_true] at hXr hYr
          have heq : (Op.equalIn (d + 2) f.type X Y).run P w = .ok a w := by
            have hXr' := hXr
            have hYr' := hYr
            cases hXr with
            | agg _ x2 _ _ _ =>
              cases hYr with
              | agg _ y2 _ _ _ =>
                rw [run_equalIn_array w (d + 1) x2 y2 hu hie, List.range_eq_range']
                exact eqArr_run he hie hes hec hXr' hYr' fi.size 0 a (by rw [List.length_take, List.length_drop]; omega) (by rw [List.length_take, List.length_drop]; omega) h1
          rw [Op.eqFields]
          simp only [if_pos hname, Sem.run_bind, hf.off, hX, hY, heq, Result.andThen_ok]
          cases a <;> simp [ih]
      | false =>
      rw [hq4, cond_false] at h1
      have hq : fi.eq = 1 ∨ fi.eq = 2 ∨ fi.eq = 3 := by
        unfold eqField at h1
        split at h1
        · exact .inl (by assumption)
        · exact .inr (.inl (by assumption))
        · exact .inr (.inr (by assumption))
        · cases h1
      obtain ⟨hname, hagg, hk1, hk2, hk3⟩ := hf.eq hq
      have hone := hf.one hagg
      have hle : ∀ {cs : List AVal}, cs.getD fi.off .undef ≠ .undef → fi.off + fi.size ≤ cs.length := fun {cs} hne => by
        rcases Nat.lt_or_ge fi.off cs.length with h | h
        · omega
        · simp [List.getD, List.getElem?_eq_none h] at hne
      have hna : as.getD fi.off .undef ≠ .undef := fun e => by rw [e] at h1; rcases hq with hq | hq | hq <;> rw [hq] at h1 <;> simp [eqField] at h1
      have hnb : bs.getD fi.off .undef ≠ .undef := fun e => by rw [e] at h1; cases hh : as.getD fi.off .undef <;> rw [hh] at h1 <;> rcases hq with hq | hq | hq <;> rw [hq] at h1 <;> simp [eqField] at h1
      obtain ⟨X, hX, hXr⟩ := part_run (P := P) hinf hins hf.und hf.agg hf.one (hle hna) ha
      obtain ⟨Y, hY, hYr⟩ := part_run (P := P) hinf hins hf.und hf.agg hf.one (hle hnb) hb
      rw [hagg] at hXr hYr
      simp only [mkElem, cond_false] at hXr hYr
      have heq : (Op.equalIn (d + 1 + 1) f.type X Y).run P w = .ok a w := eqField_run hXr hYr h1 hk1 hk2 hk3
      rw [Op.eqFields]
      simp only [if_pos hname, Sem.run_bind, hf.off, hX, hY, heq, Result.andThen_ok]
      cases a <;> simp [ih]
    · cases h

theorem run_eqAgg [VR : Vars] (hT : TOk P E.T) {b : BinOp} {t : TypeId} {x y : Operand} (h : Rel w0 ω0 w g st vs) {fs : List FI} {as bs : List AVal} {c : Bool} {i : TI} (ht : E.T t = some i) (hi : i.kind = .struct fs) (hq : i.eqOk = true) (hx : ev st.ts x = .agg as) (hy : ev st.ts y = .agg bs) (hc : eqCells fs as bs = some c) (hb : b = .eql ∨ b = .neq) :
    ((do eqGuard b t x y (Act.eval ⟨vs, []⟩ x) (Act.eval ⟨vs, []⟩ y); binOp b t (Act.eval ⟨vs, []⟩ x) (Act.eval ⟨vs, []⟩ y)) : Sem Value).run P w = .ok (.bool (if b = .eql then c else !c)) w := by
  have hk := (hT t i ht).kind
  rw [hi] at hk
  obtain ⟨fields, hu, hsz, hf, hg⟩ := hk
  obtain ⟨hg1, hg2⟩ := hg hq
  have hra := ev_ne h hx (by simp) (by simp)
  have hrb := ev_ne h hy (by simp) (by simp)
  generalize Act.eval ⟨vs, []⟩ x = X at hra ⊢
  generalize Act.eval ⟨vs, []⟩ y = Y at hrb ⊢
  have hra' := hra
  have hrb' := hrb
  cases hra with
  | agg _ xs _ _ _ =>
    cases hrb with
    | agg _ ys _ _ _ =>
      have hfo : P.fieldsOf t = fields := by simp [Program.fieldsOf, hu]
      have heq : (Op.equalIn 10000 t (.agg xs) (.agg ys)).run P w = .ok c w := by
        have := run_equalIn_struct (P := P) w 9999 t xs ys (by rw [hfo]; exact hu) hg2
        rw [this, hfo]
        exact eqFields_run (d := 9997) hra' hrb' fields.toList fs c (by simpa using hsz) (fun j f fi h1 h2 => hf j f fi (by simpa using h1) h2) hc
      rcases hb with rfl | rfl
      · simp only [Sem.run_bind, run_eqGuard_agg w _ _ _ _ _ _ hg1, Result.andThen_ok, run_eql_struct, heq, if_true]
      · simp only [Sem.run_bind, run_eqGuard_agg w _ _ _ _ _ _ hg1, Result.andThen_ok, run_neq_struct, heq]
        rfl

end
end Go.AM
