/- The operations: struct literals, slice literals, elements, slices of slices. -/
import Derived.Test.YtkkinfbipndfdaaAmI
import Derived.Laws.Tables
set_option linter.unusedVariables false
set_option linter.unusedSimpArgs false
namespace Go.AM
open Go.RowKit

/-- Cells of an array that read as abstract ones. -/
def Cells (w : World) (I : Nat → Nat → Prop) (η : Nat → Nat) (N : Nat) (cs : List AVal) (xs : Array Value) : Prop :=
  xs.size = cs.length ∧ ∀ (j : Nat) c x, cs[j]? = some c → xs[j]? = some x → plain c = true ∧ isOwn c = false ∧ Rep w I η N c x

theorem foldl_set (off : Nat) : ∀ (vs : List Value) (s : Nat) (xs : Array Value) (j : Nat), ((vs.zipIdx s).foldl (fun cs (p : Value × Nat) => cs.setIfInBounds (off + p.2) p.1) xs)[j]? =
    if off + s ≤ j ∧ j < off + s + vs.length ∧ j < xs.size then vs[j - off - s]? else xs[j]?
  | [], s, xs, j => by simp; omega
  | v :: vs, s, xs, j => by
    rw [List.zipIdx_cons, List.foldl_cons, foldl_set off vs (s + 1)]
    simp only [Array.size_setIfInBounds, List.length_cons]
    by_cases h1 : off + (s + 1) ≤ j ∧ j < off + (s + 1) + vs.length ∧ j < xs.size
    · rw [if_pos h1, if_pos (by omega), show j - off - s = (j - off - (s + 1)) + 1 by omega, List.getElem?_cons_succ]
    · rw [if_neg h1, getElem?_setIf]
      by_cases h2 : off + s = j ∧ off + s < xs.size
      · rw [if_pos h2, if_pos (by omega), show j - off - s = 0 by omega, List.getElem?_cons_zero]
      · rw [if_neg h2, if_neg (by omega)]
theorem foldl_size (off : Nat) : ∀ (vs : List Value) (s : Nat) (xs : Array Value), ((vs.zipIdx s).foldl (fun cs (p : Value × Nat) => cs.setIfInBounds (off + p.2) p.1) xs).size = xs.size
  | [], s, xs => rfl
  | v :: vs, s, xs => by rw [List.zipIdx_cons, List.foldl_cons, foldl_size off vs (s + 1)]; simp

section
variable {R : Type} {P : Program} {E : Env} {w0 : World} {ω0 : Entry} {w : World} {g : Gh} {st : St} {vs : Array Value}
  {C : FuncId → List AVal → List HObj → AVal → List HObj → Prop} {o : Oper} {k : AVal → St → Tree R} {r : R} {next : Act → World → Prop} {Q : Exit → Act → World → Prop} {mv : Bool}

theorem fill_run {I : Nat → Nat → Prop} {η : Nat → Nat} {N : Nat} {place : Nat → Option (Nat × Nat)} : ∀ (ps : List (Nat × AVal)) (qs : List (Nat × Value)) (cs cs' : List AVal) (xs : Array Value),
    aFill place cs ps = some cs' → Cells w I η N cs xs → ps.length = qs.length → (∀ (j : Nat) p q, ps[j]? = some p → qs[j]? = some q → p.1 = q.1 ∧ plainAgg p.2 = true ∧ (∀ c ∈ p.2.cells, isOwn c = false) ∧ Rep w I η N p.2 q.2) →
    ∃ ys, Instr.fill place xs qs = some ys ∧ Cells w I η N cs' ys
  | [], [], cs, cs', xs, h, hc, _, _ => by simp only [aFill, Option.some.injEq] at h; subst h; exact ⟨xs, rfl, hc⟩
  | [], q :: qs, _, _, _, _, _, hl, _ => by simp at hl
  | p :: ps, [], _, _, _, _, _, hl, _ => by simp at hl
  | (i, a) :: ps, (i', x) :: qs, cs, cs', xs, h, hc, hl, hp => by
    obtain ⟨e, hpl, ho, hr⟩ := hp 0 _ _ rfl rfl
    simp only at e hpl ho hr
    subst e
    obtain ⟨h1, h2, h3⟩ := rep_cells hr hpl
    simp only [aFill] at h
    cases hpi : place i with
    | none => rw [hpi] at h; cases h
    | some q =>
      obtain ⟨off, size⟩ := q
      rw [hpi] at h
      simp only at h
      cases hb : (Nat.beq a.cells.length size && Nat.ble (off + size) cs.length) <;> rw [hb] at h
      · cases h
      simp only [Bool.and_eq_true] at hb
      have e1 := Nat.eq_of_beq_eq_true hb.1
      have e2 := Nat.le_of_ble_eq_true hb.2
      simp only [cond_true] at h
      have hC : Cells w I η N (over cs off a.cells) (x.cells.zipIdx.foldl (fun cs (p : Value × Nat) => cs.setIfInBounds (off + p.2) p.1) xs) := by
       refine ⟨?_, ?_⟩
       · rw [← Array.foldl_toList, Array.toList_zipIdx, foldl_size, over_length _ _ _ (by omega)]; exact hc.1
       · intro j c y hcj hyj
         rw [← Array.foldl_toList, Array.toList_zipIdx, foldl_set] at hyj
         rw [over_get _ _ _ (by omega)] at hcj
         simp only [Nat.add_zero, Array.length_toList, Nat.sub_zero] at hyj
         by_cases hin : off ≤ j ∧ j < off + a.cells.length
         · rw [if_pos hin] at hcj
           rw [if_pos ⟨hin.1, by rw [h1]; exact hin.2, by rw [hc.1]; omega⟩] at hyj
           obtain ⟨h6, h7⟩ := h2 (j - off) c y hcj (by simpa using hyj)
           exact ⟨h6, ho c (List.mem_of_getElem? hcj), h7⟩
         · rw [if_neg hin] at hcj
           rw [if_neg (by rw [h1]; omega)] at hyj
           exact hc.2 j c y hcj hyj
      obtain ⟨ys, h4, h5⟩ := fill_run ps qs _ cs' _ h hC (by simpa using hl) (fun j p q hj hq => hp (j + 1) p q hj hq)
      refine ⟨ys, ?_, h5⟩
      simp only [Instr.fill, hpi]
      rw [if_neg]
      · exact h4
      · simp only [bne_iff_ne, ne_eq, Bool.or_eq_true, decide_eq_true_eq, not_or]
        refine ⟨by simp [h1, e1], by rw [h1, e1, hc.1]; omega⟩

theorem disAgg_cells (a : AVal) : ∀ c ∈ (disAgg a).cells, isOwn c = false := by
  intro c hc
  cases a with
  | agg cs =>
    simp only [disAgg, AVal.cells, List.mem_map] at hc
    obtain ⟨c0, _, rfl⟩ := hc; exact isOwn_dis _
  | _ =>
    simp only [disAgg] at hc
    first
    | (simp [dis, AVal.cells] at hc; subst hc; rfl)
    | (rename_i sp e n f; have : (dis (.slice sp e n f)).cells = [dis (.slice sp e n f)] := (by cases sp <;> rfl); rw [this] at hc; simp at hc; subst hc; exact isOwn_dis _)
theorem plainAgg_disAgg (a : AVal) : plainAgg (disAgg a) = plainAgg a := by
  cases a with
  | agg cs => simp [disAgg, plainAgg, List.all_map, Function.comp_def, plain_dis]
  | slice sp e n f => cases sp <;> rfl
  | _ => rfl

/-- The parts of a literal. -/
theorem parts_rep [VR : Vars] (h : Rel w0 ω0 w g st vs) (ps : Array (Nat × Operand)) (hp : ps.toList.all (fun p => plainAgg (ev st.ts p.2)) = true) :
    (ps.toList.map fun p => (p.1, disAgg (ev st.ts p.2))).length = (ps.map fun (i, x) => (i, Act.eval ⟨vs, []⟩ x)).toList.length ∧
    ∀ (j : Nat) p q, (ps.toList.map fun p => (p.1, disAgg (ev st.ts p.2)))[j]? = some p → (ps.map fun (i, x) => (i, Act.eval ⟨vs, []⟩ x)).toList[j]? = some q →
      p.1 = q.1 ∧ plainAgg p.2 = true ∧ (∀ c ∈ p.2.cells, isOwn c = false) ∧ Rep w g.I g.η st.H.length p.2 q.2 := by
  refine ⟨by simp, fun j p q h1 h2 => ?_⟩
  simp only [List.getElem?_map, Option.map_eq_some_iff] at h1
  obtain ⟨p0, hp0, rfl⟩ := h1
  simp only [Array.toList_map, List.getElem?_map, Option.map_eq_some_iff] at h2
  obtain ⟨q0, hq0, rfl⟩ := h2
  rw [hp0] at hq0; cases hq0
  have hpl := List.all_eq_true.1 hp p0 (List.mem_of_getElem? hp0)
  refine ⟨rfl, by rw [plainAgg_disAgg]; exact hpl, disAgg_cells _, ?_⟩
  refine (ev_ne h rfl ?_ ?_ (fun s n e => by rw [e] at hpl; simp [plainAgg, plain] at hpl)).disAgg
  · intro e; rw [e] at hpl; simp [plainAgg, plain] at hpl
  · intro s o e; rw [e] at hpl; simp [plainAgg, plain] at hpl

theorem zero_cells {t : TypeId} {i : TI} (hT : TIOk P t i) : ∃ inf z, P.info? t = some inf ∧ inf.size = i.size ∧ inf.bytes = i.bytes ∧ inf.zero = some z ∧ ∀ w I η N, Cells w I η N i.zero.cells z.cells := by
  obtain ⟨inf, z, h1, h2, h3, h4, h5, h6, h7⟩ := hT.info
  exact ⟨inf, z, h1, h2, h3, h4, fun w I η N => ⟨by rw [h5, hT.zlen], fun j c x hc hx => ⟨(hT.zown c (List.mem_of_getElem? hc)).2, (hT.zown c (List.mem_of_getElem? hc)).1, h7 j c x hc hx w I η N⟩⟩⟩

theorem Cells.agg {I : Nat → Nat → Prop} {η : Nat → Nat} {N : Nat} {cs : List AVal} {xs : Array Value} (h : Cells w I η N cs xs) : Rep w I η N (.agg cs) (.agg xs) := by
  refine .agg cs xs h.1.symm (fun i c v hc hv => (h.2 i c v hc hv).2.2) (fun c hc => ?_)
  obtain ⟨j, hj, e⟩ := List.getElem_of_mem hc
  have hjx : j < xs.size := by rw [h.1]; exact hj
  exact (h.2 j c xs[j] (by rw [List.getElem?_eq_getElem hj, e]) (Array.getElem?_eq_getElem hjx)).1

theorem places_of {fields : Array Field} {fs : List FI} (hsz : fields.size = fs.length) (hf : ∀ (j : Nat) f fi, fields[j]? = some f → fs[j]? = some fi → FOk P f fi) :
    fields.toList.mapM (fun f => (P.info? f.type).map fun i => (f.offset, i.size)) = some (fs.map fun f => (f.off, f.size)) := by
  have hl : fields.toList.length = fs.length := by simpa using hsz
  have hf' : ∀ (j : Nat) f fi, fields.toList[j]? = some f → fs[j]? = some fi → FOk P f fi := fun j f fi h1 h2 => hf j f fi (by simpa using h1) h2
  generalize fields.toList = l at hl hf'
  clear hf hsz
  induction l generalizing fs with
  | nil => cases fs <;> simp_all
  | cons f l ih =>
    cases fs with
    | nil => simp at hl
    | cons fi fs =>
      have hF := hf' 0 f fi rfl rfl
      obtain ⟨i', hi', hs'⟩ := hF.info
      have := ih (fs := fs) (by simpa using hl) (fun j f fi h1 h2 => hf' (j + 1) f fi h1 h2)
      simp [List.mapM_cons, hi', this, hF.off, hs']

theorem op_build [VR : Vars] (hT : TOk P E.T) {t : TypeId} {ps : Array (Nat × Operand)} (h : Rel w0 ω0 w g st vs) (ho : o.op = .build t ps) (hk : Den C (doOp E mv o st k) r) (hn : Follows C w0 ω0 o vs k r next) : o.wp P ⟨vs, []⟩ w next Q := by
  simp only [doOp, ho] at hk
  split at hk
  · rename_i hti
    have hTi := hT t _ hti
    obtain ⟨inf, z, hinf, _, _, hz, hzc⟩ := zero_cells hTi
    obtain ⟨fields, hu, hsz, hf, _⟩ := hTi.kind
    split at hk
    · rename_i cs hfill
      cases hb : ps.toList.all (fun p => plainAgg (ev st.ts p.2)) <;> rw [hb] at hk
      · exact (noDen hk).elim
      obtain ⟨hl, hp⟩ := parts_rep h ps hb
      have hplaces := places_of hsz hf
      obtain ⟨ys, h4, h5⟩ := fill_run _ _ _ _ _ hfill (hzc w g.I g.η st.H.length) hl hp
      refine wp_of_value (x := .agg ys) (by
        simp only [execOp, ho]
        refine run_value (run_build w t _ ys ?_)
        unfold Program.built
        simp only [hinf, hu, hz, hplaces]
        rw [← h4]
        congr 1
        funext i
        simp) (hn _ _ _ _ g (h.put_ev (v := .agg cs) h5.agg rfl) hk)
    · exact (noDen hk).elim
  · rename_i hti
    have hTi := hT t _ hti
    obtain ⟨inf, z, hinf, _, _, hz, hzc⟩ := zero_cells hTi
    have hu := hTi.kind
    simp only [KOk] at hu
    split at hk
    · rename_i i he
      obtain ⟨inf2, z2, hinf2, hs2, _⟩ := (hT _ i he).info
      split at hk
      · rename_i cs hfill
        cases hb : ps.toList.all (fun p => plainAgg (ev st.ts p.2)) <;> rw [hb] at hk
        · exact (noDen hk).elim
        obtain ⟨hl, hp⟩ := parts_rep h ps hb
        obtain ⟨ys, h4, h5⟩ := fill_run _ _ _ _ _ hfill (hzc w g.I g.η st.H.length) hl hp
        refine wp_of_value (x := .agg ys) (by
          simp only [execOp, ho]
          refine run_value (run_build w t _ ys ?_)
          unfold Program.built
          simp only [hinf, hu, hz, hinf2, hs2]
          exact h4) (hn _ _ _ _ g (h.put_ev (v := .agg cs) h5.agg rfl) hk)
      · exact (noDen hk).elim
    · exact (noDen hk).elim
  · exact (noDen hk).elim

/-- What is read of elements, elsewhere. -/
theorem rptr_elem {sp : Spare} {esz n N : Nat} {f : Nat → AVal} {X : Value} (h : Rep w g.I g.η N (.slice sp esz n f) X) {i : Nat} (hi : i < n) (hpos : 0 < esz) :
    ∃ b a cap, X = .slice (some ⟨b, a, none⟩) n cap ∧ Rep w g.I g.η N (.rptr (f i)) (.pointer (some ⟨b, a + i * esz, none⟩)) := by
  cases h with
  | slice _ _ _ _ ad cap vals hc hx hnl ha hl hp hr =>
    obtain ⟨b, a, rfl, hcell⟩ := ha (by omega)
    refine ⟨b, a, cap, rfl,   .rptr (f i) b (a + i * esz) (vals i) (hp i hi).1 (fun j hj => ?_) (fun j x hx => hr i hi j x hx)⟩
    rw [hl i hi] at hj
    exact hcell i hi j hj

theorem ble_false {a b : Nat} (h : Nat.beq a b = false) : a ≠ b := Nat.ne_of_beq_eq_false h

theorem op_indexAddr [VR : Vars] (hT : TOk P E.T) {t : TypeId} {x ix : Operand} (h : Rel w0 ω0 w g st vs) (ho : o.op = .indexAddr t x ix) (hk : Den C (doOp E mv o st k) r) (hn : Follows C w0 ω0 o vs k r next) : o.wp P ⟨vs, []⟩ w next Q := by
  simp only [doOp, ho] at hk
  split at hk
  · rename_i q i hti hix
    have hu := (hT t _ hti).kind
    simp only [KOk] at hu
    have hIx := eval_int h hix
    split at hk
    · rename_i ti sp esz n f hte hx
      obtain ⟨h3, hk⟩ := cond_den hk
      obtain ⟨hb, hk⟩ := hk.chk
      simp only [Bool.and_eq_true, decide_eq_true_eq] at hb
      obtain ⟨h1, h2⟩ := hb
      have h3 := Nat.eq_of_beq_eq_true h3
      obtain ⟨inf, z, hinf, hs, _⟩ := (hT _ ti hte).info
      have hr := ev_ne h hx (by simp) (by simp)
      obtain ⟨b, a, cap, hX, hrp⟩ := rptr_elem hr (i := i.toNat) (by omega) (by rw [h3]; exact (hT _ ti hte).pos)
      refine wp_of_value (by
        simp only [execOp, ho, hX, hIx]
        refine run_value ?_
        simp only [Instr.indexAt, asIntOf, Sem.run_bind, Sem.run_pure, Result.andThen_ok, run_underlying hu]
        rw [Sem.run_ite, if_pos ⟨h1, h2⟩]
        simp only [Sem.run_bind, run_sizeOf hinf, Result.andThen_ok, Sem.run_pure, addr_add, hs, ← h3]) (hn _ _ _ _ g (h.put_ev (v := .rptr _) hrp rfl) hk)
    · rename_i ti id off n esz ag hte hx
      obtain ⟨h3, hk⟩ := cond_den hk
      obtain ⟨hb, hk⟩ := hk.chk
      simp only [Bool.and_eq_true, decide_eq_true_eq] at hb
      obtain ⟨h1, h2⟩ := hb
      have h3 := Nat.eq_of_beq_eq_true h3
      obtain ⟨inf, z, hinf, hs, _⟩ := (hT _ ti hte).info
      have hr := ev_ne h hx (by simp) (by simp)
      generalize hX : Act.eval ⟨vs, []⟩ x = q at hr
      cases hr with
      | mslice _ _ _ _ _ cap hid hc hag =>
        refine wp_of_value (by
          simp only [execOp, ho, hX, hIx]
          refine run_value ?_
          simp only [Instr.indexAt, asIntOf, Sem.run_bind, Sem.run_pure, Result.andThen_ok, run_underlying hu]
          rw [Sem.run_ite, if_pos ⟨h1, h2⟩]
          simp only [Sem.run_bind, run_sizeOf hinf, Result.andThen_ok, Sem.run_pure, addr_add, hs, ← h3]) (hn _ _ _ _ g (h.put_ev (v := .href _ _) (Rep.href id _ hid) rfl) hk)
    · rename_i ti s n hte hx
      obtain ⟨hb, hk⟩ := hk.chk
      simp only [Bool.and_eq_true, decide_eq_true_eq] at hb
      obtain ⟨h1, h2⟩ := hb
      obtain ⟨inf, z, hinf, hs, _⟩ := (hT _ ti hte).info
      have hev := h.ev x ⟨vs, []⟩ rfl
      rw [hx] at hev
      obtain ⟨ad, cap, hX, had⟩ := hev
      have had := had (by omega)
      subst had
      refine wp_of_value (x := .pointer (some ⟨g.β s, i.toNat * ti.size, none⟩)) (by
        simp only [execOp, ho, hX, hIx]
        refine run_value ?_
        simp only [Instr.indexAt, asIntOf, Sem.run_bind, Sem.run_pure, Result.andThen_ok, run_underlying hu]
        rw [Sem.run_ite, if_pos ⟨h1, h2⟩]
        simp only [Sem.run_bind, run_sizeOf hinf, Result.andThen_ok, Sem.run_pure, addr_add, hs, Nat.zero_add]) (hn _ _ _ _ g (h.put_ev (v := .lptr _ _) rfl rfl) hk)
    · exact (noDen hk).elim
  · rename_i q i hti hix
    have hu := (hT t _ hti).kind
    simp only [KOk] at hu
    have hIx := eval_int h hix
    split at hk
    · rename_i ti s off hte hx
      obtain ⟨hb, hk⟩ := hk.chk
      simp only [Bool.and_eq_true, decide_eq_true_eq] at hb
      obtain ⟨h1, h2⟩ := hb
      obtain ⟨inf, z, hinf, hs, _⟩ := (hT _ ti hte).info
      have hev := h.ev x ⟨vs, []⟩ rfl
      rw [hx] at hev
      have hX : Act.eval ⟨vs, []⟩ x = .pointer (some ⟨g.β s, off, none⟩) := hev
      refine wp_of_value (by
        simp only [execOp, ho, hX, hIx]
        refine run_value ?_
        simp only [Instr.indexAt, asIntOf, Instr.sureAddr, Sem.run_bind, Sem.run_pure, Result.andThen_ok, run_underlying hu]
        rw [Sem.run_ite, if_pos ⟨h1, h2⟩]
        simp only [Sem.run_bind, run_sizeOf hinf, Result.andThen_ok, Sem.run_pure, addr_add, hs]) (hn _ _ _ _ g (h.put_ev (v := .lptr _ _) rfl rfl) hk)
    · rename_i ti id off hte hx
      obtain ⟨hb, hk⟩ := hk.chk
      simp only [Bool.and_eq_true, decide_eq_true_eq] at hb
      obtain ⟨h1, h2⟩ := hb
      obtain ⟨inf, z, hinf, hs, _⟩ := (hT _ ti hte).info
      have hr := ev_ne h hx (by simp) (by simp)
      generalize hX : Act.eval ⟨vs, []⟩ x = q at hr
      cases hr with
      | href _ _ hid =>
        refine wp_of_value (by
          simp only [execOp, ho, hX, hIx]
          refine run_value ?_
          simp only [Instr.indexAt, asIntOf, Instr.sureAddr, Sem.run_bind, Sem.run_pure, Result.andThen_ok, run_underlying hu]
          rw [Sem.run_ite, if_pos ⟨h1, h2⟩]
          simp only [Sem.run_bind, run_sizeOf hinf, Result.andThen_ok, Sem.run_pure, addr_add, hs]) (hn _ _ _ _ g (h.put_ev (v := .href _ _) (Rep.href id _ hid) rfl) hk)
    · exact (noDen hk).elim
  · exact (noDen hk).elim

theorem byteAt_get (s : ByteArray) (i : Int) (h0 : 0 ≤ i) (h1 : i < s.size) : (if 0 ≤ i then s[i.toNat]? else none) = some (s.data.toList.getD i.toNat 0) := by
  rw [if_pos h0]
  have hi : i.toNat < s.size := by omega
  rw [getElem?_pos s i.toNat hi]
  congr 1
  have : s.data.toList[i.toNat]? = some (s[i.toNat]) := by
    rw [Array.getElem?_toList, Array.getElem?_eq_getElem (show i.toNat < s.data.size from hi)]; rfl
  simp [List.getD, this]

theorem op_index [VR : Vars] (hT : TOk P E.T) {t : TypeId} {x ix : Operand} (h : Rel w0 ω0 w g st vs) (ho : o.op = .index t x ix) (hk : Den C (doOp E mv o st k) r) (hn : Follows C w0 ω0 o vs k r next) : o.wp P ⟨vs, []⟩ w next Q := by
  simp only [doOp, ho] at hk
  split at hk
  · rename_i s q i hti hx hix
    have hu := (hT t _ hti).kind
    simp only [KOk] at hu
    obtain ⟨hb, hk⟩ := hk.chk
    simp only [Bool.and_eq_true, decide_eq_true_eq] at hb
    refine wp_of_value (x := .int .u8 (s.data.toList.getD i.toNat 0).toNat) (by
      simp only [execOp, ho, eval_int h hix, eval_str h hx]
      refine run_value ?_
      simp only [Instr.index, asIntOf, Sem.run_bind, Sem.run_pure, Result.andThen_ok, run_underlying hu, byteAt_get s i hb.1 hb.2]) (hn _ _ _ _ g (h.put_ev (v := byteAt s i.toNat) (Rep.int _ _) rfl) hk)
  · rename_i cs q i hti hx hix
    have hu := (hT t _ hti).kind
    simp only [KOk] at hu
    split at hk
    · rename_i ti hte
      obtain ⟨hb, hk⟩ := hk.chk
      simp only [Bool.and_eq_true, decide_eq_true_eq] at hb
      obtain ⟨⟨h1, h2⟩, h3⟩ := hb
      have hle := Nat.le_of_ble_eq_true h3
      have hTe := hT _ ti hte
      obtain ⟨inf, z, hinf, hs, _⟩ := hTe.info
      have hr := ev_ne h hx (by simp) (by simp)
      generalize hX : Act.eval ⟨vs, []⟩ x = q at hr
      cases hr with
      | agg _ xs hl hrr hp =>
        obtain ⟨X, h4, h5⟩ := part_run (P := P) hinf hs hTe.und hTe.agg hTe.one hle (.agg _ xs hl hrr hp)
        refine wp_of_value (by
          simp only [execOp, ho, hX, eval_int h hix]
          refine run_value ?_
          simp only [Instr.index, asIntOf, Sem.run_bind, Sem.run_pure, Result.andThen_ok, run_underlying hu]
          rw [Sem.run_ite, if_pos ⟨h1, h2⟩]
          simp only [Sem.run_bind, run_sizeOf hinf, Result.andThen_ok, hs]
          exact h4) (hn _ _ _ _ g (h.put_ev h5.disAgg.ev (isOwn_disAgg _)) hk)
    · exact (noDen hk).elim
  · exact (noDen hk).elim

end
end Go.AM
