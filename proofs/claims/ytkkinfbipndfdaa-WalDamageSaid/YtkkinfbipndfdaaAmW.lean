/- The way in: what a law's arguments are, as typed values. -/
import Derived.Test.YtkkinfbipndfdaaAmX
import Derived.ChangeShapes
import Derived.WideShapes
import Derived.Below
set_option linter.unusedVariables false
set_option linter.unusedSimpArgs false
namespace Go.AM

section
variable {H : Type} {enc0 : TypeId × Value → H} {P : Program} {W : World}

/-- All that was there at the call is held as it is. -/
def inW (W : World) (b o : Nat) : Prop := b < W.heap.size
def omega0 (W : World) (b o : Nat) : Owner := if b < W.heap.size then .imm else .free
/-- The memory at the call, held for good. -/
abbrev wholeV (W : World) : Vars := ⟨fun b ob => W.heap[b]? = some ob⟩
theorem pre0 (W : World) : @Pre (wholeV W) W (omega0 W) (fun _ => 0) [] := by
  letI : Vars := wholeV W
  have hB : Base W (omega0 W) (fun _ => 0) [] := by
    refine ⟨fun id o h => by simp at h, fun b o h => ?_, fun b o h1 h2 => ?_, fun b o h => ?_, fun b o o' id h => ?_, fun b o id h => ?_, Locks.nil⟩ <;> unfold omega0 at * <;> by_cases hb : b < W.heap.size <;> simp_all
  exact ⟨hB, fun b o => by unfold omega0; by_cases hb : b < W.heap.size <;> simp_all, fun b ob hb => ⟨hb, fun o => by unfold omega0; by_cases hb : b < W.heap.size <;> simp_all⟩⟩

/-- What lies in cells of type t reads as a typed value. -/
def Reads (enc0 : TypeId × Value → H) (P : Program) (W : World) (t : TypeId) {α : Type} (enc : α → AVal) (wf : α → Prop) : Prop :=
  ∀ fuel cs d p, DataW.trod enc0 P W 0 (fun _ => true) true fuel t cs = some (d, p) →
    ∃ x : α, wf x ∧ (enc x).cells.length = cs.length ∧ ∀ (j : Nat) c v, (enc x).cells[j]? = some c → cs[j]? = some v → Rep W (inW W) (fun _ => 0) 0 c v

def wfInt (k : IntKind) (n : Int) : Prop := (Lit.int k n).wf = true
def wfStr (s : ByteArray) : Prop := s.size ≤ maxLen
def wfL {α : Type} (wf : α → Prop) (l : List α) : Prop := l.length ≤ maxLen ∧ ∀ x ∈ l, wf x

theorem one_cell {a : AVal} {v : Value} {w : World} {I : Nat → Nat → Prop} {η : Nat → Nat} {N : Nat} (h : Rep w I η N a v) : ∀ (j : Nat) c v', [a][j]? = some c → [v][j]? = some v' → Rep w I η N c v' := fun j c v' h1 h2 => by
  cases j with
  | zero => simp at h1 h2; rw [← h1, ← h2]; exact h
  | succ j => simp at h1

theorem reads_int {t : TypeId} {k : IntKind} (hu : P.underlying t = some (.int k)) : Reads enc0 P W t (AVal.int k) (wfInt k) := fun fuel cs d p h => by
  cases fuel with
  | zero => simp [DataW.trod] at h
  | succ fuel =>
    unfold DataW.trod at h
    rw [hu] at h
    split at h <;> rename_i hh <;> simp_all
    rename_i k' n
    obtain ⟨⟨rfl, h1⟩, _⟩ := h
    exact ⟨n, h1, rfl, one_cell (.int _ _)⟩
theorem reads_bool {t : TypeId} (hu : P.underlying t = some .bool) : Reads enc0 P W t AVal.bool (fun _ => True) := fun fuel cs d p h => by
  cases fuel with
  | zero => simp [DataW.trod] at h
  | succ fuel =>
    unfold DataW.trod at h
    rw [hu] at h
    split at h <;> rename_i hh <;> first | (cases hh; done) | skip
    · rename_i b
      exact ⟨b, trivial, rfl, one_cell (.bool _)⟩
    all_goals (first | (simp at hh; done) | (cases h; done))
theorem reads_string {t : TypeId} (hu : P.underlying t = some .string) : Reads enc0 P W t AVal.str wfStr := fun fuel cs d p h => by
  cases fuel with
  | zero => simp [DataW.trod] at h
  | succ fuel =>
    unfold DataW.trod at h
    rw [hu] at h
    split at h <;> rename_i hh <;> simp_all
    rename_i s
    exact ⟨s, h.1, rfl, one_cell (.str _)⟩

theorem mapM_some {α β : Type} {f : α → Option β} : ∀ {l : List α} {m : List β}, l.mapM f = some m → l.length = m.length ∧ ∀ (i : Nat) a, l[i]? = some a → ∃ b, m[i]? = some b ∧ f a = some b
  | [], m, h => by simp at h; subst h; simp
  | a :: l, m, h => by
    simp only [List.mapM_cons] at h
    cases hf : f a with
    | none => simp [hf] at h
    | some b =>
      cases hl : l.mapM f with
      | none => simp [hf, hl] at h
      | some m' =>
        simp [hf, hl] at h
        subst h
        obtain ⟨h1, h2⟩ := mapM_some hl
        refine ⟨by simp [h1], fun i a' hi => ?_⟩
        cases i with
        | zero => simp at hi; subst hi; exact ⟨b, by simp, hf⟩
        | succ i => obtain ⟨b', h3, h4⟩ := h2 i a' (by simpa using hi); exact ⟨b', by simpa using h3, h4⟩

theorem cell_in {w : World} {b o : Nat} {v : Value} {sp : Option Nat} (h : w.cell? ⟨b, o, sp⟩ = some v) : sp = none ∧ b < w.heap.size := by
  unfold World.cell? at h
  split at h
  · rename_i c t fr hc
    refine ⟨?_, ?_⟩
    · cases sp with
      | none => rfl
      | some x => simp at h
    · exact (Array.getElem?_eq_some_iff.1 hc).1
  · cases h

theorem plain_of_noRef {a : AVal} (h : noRef a = true) : plain a = true := by cases a <;> first | rfl | (simp [noRef] at h)
theorem EncOk.plainAgg {α : Type} {ag : Bool} {esz : Nat} {enc : α → AVal} (ok : EncOk ag esz enc) (x : α) : plainAgg (enc x) = true ∧ noRefAgg (enc x) = true := by
  have h := List.all_eq_true.1 (ok.noRef x)
  cases he : enc x with
  | agg cs =>
    rw [he] at h
    exact ⟨List.all_eq_true.2 fun c hc => plain_of_noRef (h c hc), List.all_eq_true.2 h⟩
  | _ =>
    rw [he] at h
    have := h _ (List.mem_singleton.2 rfl)
    exact ⟨plain_of_noRef this, this⟩

theorem exists_list {α : Type} {p : Nat → α → Prop} : ∀ n : Nat, (∀ i, i < n → ∃ x, p i x) → ∃ l : List α, l.length = n ∧ ∀ i x, l[i]? = some x → p i x
  | 0, _ => ⟨[], rfl, fun i x h => by simp at h⟩
  | n + 1, h => by
    obtain ⟨l, h1, h2⟩ := exists_list n (fun i hi => h i (by omega))
    obtain ⟨x, hx⟩ := h n (by omega)
    refine ⟨l ++ [x], by simp [h1], fun i y hy => ?_⟩
    by_cases hi : i < n
    · rw [List.getElem?_append_left (by omega)] at hy; exact h2 i y hy
    · have : i = n := by have := (List.getElem?_eq_some_iff.1 hy).1; simp [h1] at this; omega
      subst this
      rw [List.getElem?_append_right (by omega), h1] at hy
      simp at hy; rw [← hy]; exact hx

theorem reads_slice {t e : TypeId} {α : Type} {enc : α → AVal} {wf : α → Prop} {ag : Bool} {esz : Nat} (hu : P.underlying t = some (.slice e)) (hc : P.cellsOf e = esz) (ok : EncOk ag esz enc) (hre : Reads enc0 P W e enc wf) (d0 : α) :
    Reads enc0 P W t (encL esz enc d0) (wfL wf) := fun fuel cs d p h => by
  cases fuel with
  | zero => simp [DataW.trod] at h
  | succ fuel =>
    unfold DataW.trod at h
    rw [hu] at h
    split at h <;> rename_i hh <;> first | (cases hh; done) | skip
    · exact ⟨[], ⟨by simp, fun x hx => by simp at hx⟩, rfl, one_cell (.slice .shared esz 0 _ none 0 (fun _ _ => undef) (by omega) (by simp) (by simp) (by omega) (by omega) (by omega) (by omega))⟩
    · rename_i e' a len cap
      cases hh
      rw [hc] at h
      dsimp only at h
      split at h
      · rename_i hcnd
        obtain ⟨_, hlc, hcm⟩ := hcnd
        cases hm : (List.range len).mapM (fun i => (W.cells? 0 (a.add (i * esz)) esz).bind (DataW.trod enc0 P W 0 (fun _ => true) true fuel e)) with
        | none => rw [hm] at h; cases h
        | some elems =>
          obtain ⟨_, hel⟩ := mapM_some hm
          have hrow : ∀ i, i < len → ∃ row : List Value, W.cells? 0 (a.add (i * esz)) esz = some row ∧ ∃ x : α, wf x ∧ (enc x).cells.length = row.length ∧ ∀ (j : Nat) c v, (enc x).cells[j]? = some c → row[j]? = some v → Rep W (inW W) (fun _ => 0) 0 c v := fun i hi => by
            obtain ⟨b, _, hb⟩ := hel i i (by simp [hi])
            cases hr : W.cells? 0 (a.add (i * esz)) esz with
            | none => rw [hr] at hb; cases hb
            | some row =>
              rw [hr] at hb
              exact ⟨row, rfl, hre fuel row b.1 b.2 hb⟩
          obtain ⟨l, hl, hlx⟩ := exists_list (p := fun i (q : List Value × α) => W.cells? 0 (a.add (i * esz)) esz = some q.1 ∧ wf q.2 ∧ (enc q.2).cells.length = q.1.length ∧ ∀ (j : Nat) c v, (enc q.2).cells[j]? = some c → q.1[j]? = some v → Rep W (inW W) (fun _ => 0) 0 c v) len
            (fun i hi => by obtain ⟨row, h1, x, h2⟩ := hrow i hi; exact ⟨(row, x), h1, h2⟩)
          have hget : ∀ i, i < len → ∃ q, l[i]? = some q ∧ (l.map (·.2)).getD i d0 = q.2 := fun i hi => by
            refine ⟨l[i]'(by omega), List.getElem?_eq_getElem _, ?_⟩
            simp [List.getD, List.getElem?_eq_getElem (show i < l.length by omega)]
          have hcell : ∀ i q, l[i]? = some q → q.1.length = esz ∧ ∀ j, j < esz → W.cell? ((a.add (i * esz)).add j) = some (q.1.getD j undef) := fun i q hq => by
            have h1 := (hlx i q hq).1
            unfold World.cells? at h1
            rw [if_pos (Nat.zero_le _)] at h1
            obtain ⟨h2, h3⟩ := mapM_some h1
            refine ⟨by simpa using h2.symm, fun j hj => ?_⟩
            obtain ⟨b, h4, h5⟩ := h3 j j (by simp [hj])
            rw [h5]; simp [List.getD, h4]
          refine ⟨l.map (·.2), ⟨by simp [hl]; omega, fun x hx => ?_⟩, rfl, ?_⟩
          · obtain ⟨q, hq, rfl⟩ := List.mem_map.1 hx
            obtain ⟨i, hi⟩ := List.getElem?_of_mem hq
            exact (hlx i q hi).2.1
          · refine one_cell ?_
            unfold encL
            rw [List.length_map, hl]
            refine .slice .shared esz len _ (some a) cap (fun i j => ((l.getD i ([], d0)).1).getD j undef) hlc (by simp) (by simp) (fun h0 => ?_) (fun i hi => ?_) (fun i hi => ok.plainAgg _) (fun i hi j c hj => ?_)
            · obtain ⟨b, o, sp⟩ := a
              have hsp : sp = none := by
                obtain ⟨q, hq, _⟩ := hget 0 h0
                have h9 := (hcell 0 q hq).2 0 ok.pos
                rw [Nat.zero_mul] at h9
                exact (cell_in (b := b) (o := o) (sp := sp) h9).1
              subst hsp
              refine ⟨b, o, rfl, fun i hi j hj => ?_⟩
              obtain ⟨q, hq, _⟩ := hget i hi
              have := (hcell i q hq).2 j hj
              rw [addr_add, addr_add] at this
              refine ⟨(cell_in this).2, ?_⟩
              have e1 : l.getD i ([], d0) = q := by simp [List.getD, hq]
              rw [e1, ← this]
            · exact ok.len _
            · obtain ⟨q, hq, hqe⟩ := hget i hi
              have e1 : l.getD i ([], d0) = q := by simp [List.getD, hq]
              rw [hqe] at hj
              rw [e1]
              have hjl : j < q.1.length := by rw [← (hlx i q hq).2.2.1]; exact (List.getElem?_eq_some_iff.1 hj).1
              exact (hlx i q hq).2.2.2 j c _ hj (by simp [List.getD, List.getElem?_eq_getElem hjl])
      · cases h
    all_goals (first | (simp at hh; done) | (cases h; done))

/-- The fields of a struct, from an offset on. -/
def ReadsF (enc0 : TypeId × Value → H) (P : Program) (W : World) (off : Nat) (l : List (TypeId × Nat)) (n : Nat) {α : Type} (encs : α → List AVal) (wf : α → Prop) : Prop :=
  ∀ (fuel : Nat) (cs : List Value) (xs : List (DataW H × List MemPlace)), (l.mapM fun f => DataW.trod enc0 P W 0 (fun _ => true) true fuel f.1 ((cs.drop f.2).take (P.cellsOf f.1))) = some xs → off + n ≤ cs.length →
    ∃ x : α, wf x ∧ (encs x).length = n ∧ ∀ (j : Nat) c v, (encs x)[j]? = some c → cs[off + j]? = some v → Rep W (inW W) (fun _ => 0) 0 c v
theorem ReadsF.nil {off : Nat} : ReadsF enc0 P W off [] 0 (fun _ : Unit => []) (fun _ => True) := fun fuel cs xs h hl => ⟨(), trivial, rfl, fun j c v hj => by simp at hj⟩
theorem ReadsF.cons {off k n : Nat} {t : TypeId} {l : List (TypeId × Nat)} {α β : Type} {enc : α → AVal} {wf : α → Prop} {encs : β → List AVal} {wfs : β → Prop} (hk : P.cellsOf t = k) (h1 : Reads enc0 P W t enc wf) (hlen : ∀ x, (enc x).cells.length = k)
    (h2 : ReadsF enc0 P W (off + k) l n encs wfs) : ReadsF enc0 P W off ((t, off) :: l) (k + n) (fun x : α × β => (enc x.1).cells ++ encs x.2) (fun x => wf x.1 ∧ wfs x.2) := fun fuel cs xs h hl => by
  simp only [List.mapM_cons, hk] at h
  cases hf : DataW.trod enc0 P W 0 (fun _ => true) true fuel t ((cs.drop off).take k) with
  | none => simp [hf] at h
  | some b =>
    cases hm : (l.mapM fun f => DataW.trod enc0 P W 0 (fun _ => true) true fuel f.1 ((cs.drop f.2).take (P.cellsOf f.1))) with
    | none => simp [hf, hm] at h
    | some m =>
      obtain ⟨x, hx, hxl, hxr⟩ := h1 fuel _ b.1 b.2 hf
      obtain ⟨y, hy, hyl, hyr⟩ := h2 fuel cs m hm (by omega)
      refine ⟨(x, y), ⟨hx, hy⟩, by simp [hlen, hyl], fun j c v hj hv => ?_⟩
      by_cases hjk : j < k
      · rw [List.getElem?_append_left (by rw [hlen]; exact hjk)] at hj
        exact hxr j c v hj (by rw [List.getElem?_take_of_lt hjk, List.getElem?_drop]; exact hv)
      · rw [List.getElem?_append_right (by rw [hlen]; omega), hlen] at hj
        exact hyr (j - k) c v hj (by rw [← hv]; congr 1; omega)
def fieldsOf (P : Program) (t : TypeId) : List (TypeId × Nat) := match P.underlying t with
  | some (.struct fs) => fs.toList.map fun f => (f.type, f.offset)
  | _ => []
theorem reads_struct {t : TypeId} {n : Nat} {l : List (TypeId × Nat)} {α β : Type} {encs : β → List AVal} {wfs : β → Prop} {enc : α → AVal} {wf : α → Prop} (g : β → α) (hs : (match P.underlying t with | some (.struct _) => true | _ => false) = true) (hl : fieldsOf P t = l) (hc : P.cellsOf t = n)
    (hg : ∀ b, (enc (g b)).cells = encs b) (hw : ∀ b, wfs b → wf (g b)) (h0 : ReadsF enc0 P W 0 l n encs wfs) : Reads enc0 P W t enc wf := fun fuel cs d p h => by
  cases fuel with
  | zero => simp [DataW.trod] at h
  | succ fuel =>
    cases hu : P.underlying t with
    | none => rw [hu] at hs; cases hs
    | some k =>
      rw [hu] at hs
      cases k <;> first | (cases hs; done) | skip
      rename_i fs
      have hl' : fs.toList.map (fun f => (f.type, f.offset)) = l := by rw [← hl]; unfold fieldsOf; rw [hu]
      unfold DataW.trod at h
      rw [hu] at h
      simp only [hc] at h
      split at h
      · rename_i hn
        cases hm : (fs.toList.mapM fun f => DataW.trod enc0 P W 0 (fun _ => true) true fuel f.type ((cs.drop f.offset).take (P.cellsOf f.type))) with
        | none => rw [hm] at h; cases h
        | some xs =>
          have hm2 : (l.mapM fun f => DataW.trod enc0 P W 0 (fun _ => true) true fuel f.1 ((cs.drop f.2).take (P.cellsOf f.1))) = some xs := by
            rw [← hl', List.mapM_map]; exact hm
          obtain ⟨b, hb, hbl, hbr⟩ := h0 fuel cs xs hm2 (by omega)
          exact ⟨g b, hw b hb, by rw [hg, hbl, hn], fun j c v hj hv => hbr j c v (by rw [← hg]; exact hj) (by rw [Nat.zero_add]; exact hv)⟩
      · cases h

def fieldsOfA (P : Program) (t : TypeId) : List (TypeId × Nat) := match P.underlying t with
  | some (.array n e) => (List.range n).map fun i => (e, i * P.cellsOf e)
  | _ => []
theorem reads_array {t : TypeId} {n : Nat} {l : List (TypeId × Nat)} {α β : Type} {encs : β → List AVal} {wfs : β → Prop} {enc : α → AVal} {wf : α → Prop} (g : β → α) (hs : (match P.underlying t with | some (.array _ _) => true | _ => false) = true) (hl : fieldsOfA P t = l) (hc : P.cellsOf t = n)
    (hg : ∀ b, (enc (g b)).cells = encs b) (hw : ∀ b, wfs b → wf (g b)) (h0 : ReadsF enc0 P W 0 l n encs wfs) : Reads enc0 P W t enc wf := fun fuel cs d p h => by
  cases fuel with
  | zero => simp [DataW.trod] at h
  | succ fuel =>
    cases hu : P.underlying t with
    | none => rw [hu] at hs; cases hs
    | some k =>
      rw [hu] at hs
      cases k <;> first | (cases hs; done) | skip
      rename_i m e
      have hl' : (List.range m).map (fun i => (e, i * P.cellsOf e)) = l := by rw [← hl]; unfold fieldsOfA; rw [hu]
      unfold DataW.trod at h
      rw [hu] at h
      simp only [hc] at h
      split at h
      · rename_i hn
        cases hm : ((List.range m).mapM fun i => DataW.trod enc0 P W 0 (fun _ => true) true fuel e ((cs.drop (i * P.cellsOf e)).take (P.cellsOf e))) with
        | none => rw [hm] at h; cases h
        | some xs =>
          have hm2 : (l.mapM fun f => DataW.trod enc0 P W 0 (fun _ => true) true fuel f.1 ((cs.drop f.2).take (P.cellsOf f.1))) = some xs := by
            rw [← hl', List.mapM_map]; exact hm
          obtain ⟨b, hb, hbl, hbr⟩ := h0 fuel cs xs hm2 (by omega)
          exact ⟨g b, hw b hb, by rw [hg, hbl, hn], fun j c v hj hv => hbr j c v (by rw [← hg]; exact hj) (by rw [Nat.zero_add]; exact hv)⟩
      · cases h

/-- An argument. -/
theorem arg_agg {t : TypeId} {r : Reach} {base : Nat} {v : Value} {d : DataW H} {p : List MemPlace} {α : Type} {enc : α → AVal} {wf : α → Prop} {cs : α → List AVal} (hs : (match P.underlying t with | some (.struct _) => true | _ => false) = true) (he : ∀ x, enc x = .agg (cs x)) (hp : ∀ x, (cs x).all plain = true)
    (hre : Reads enc0 P W t enc wf) (hv : Value.okWide P W r base t v) (h : DataW.Trod enc0 P W 0 (fun _ => true) true t v d p) : ∃ x, wf x ∧ Rep W (inW W) (fun _ => 0) 0 (enc x) v := by
  obtain ⟨fuel, h⟩ := h
  obtain ⟨x, hx, hl, hr⟩ := hre fuel _ d p h
  unfold Value.okWide at hv
  cases hu : P.underlying t with
  | none => rw [hu] at hs; cases hs
  | some k =>
    rw [hu] at hs hv
    cases k <;> first | (cases hs; done) | skip
    obtain ⟨vs, rfl, _, _⟩ := hv
    rw [he] at hl hr
    refine ⟨x, hx, ?_⟩
    rw [he]
    exact (.agg _ _ (by simpa [AVal.cells, Value.cells] using hl) (fun i c v hi hv => hr i c v hi (by simpa [Value.cells] using hv)) (fun c hc => List.all_eq_true.1 (hp x) c hc))
theorem arg_arr {t : TypeId} {r : Reach} {base : Nat} {v : Value} {d : DataW H} {p : List MemPlace} {α : Type} {enc : α → AVal} {wf : α → Prop} {cs : α → List AVal} (hs : (match P.underlying t with | some (.array _ _) => true | _ => false) = true) (he : ∀ x, enc x = .agg (cs x)) (hp : ∀ x, (cs x).all plain = true)
    (hre : Reads enc0 P W t enc wf) (hv : Value.okWide P W r base t v) (h : DataW.Trod enc0 P W 0 (fun _ => true) true t v d p) : ∃ x, wf x ∧ Rep W (inW W) (fun _ => 0) 0 (enc x) v := by
  obtain ⟨fuel, h⟩ := h
  obtain ⟨x, hx, hl, hr⟩ := hre fuel _ d p h
  unfold Value.okWide at hv
  cases hu : P.underlying t with
  | none => rw [hu] at hs; cases hs
  | some k =>
    rw [hu] at hs hv
    cases k <;> first | (cases hs; done) | skip
    obtain ⟨vs, rfl, _⟩ := hv
    rw [he] at hl hr
    refine ⟨x, hx, ?_⟩
    rw [he]
    exact (.agg _ _ (by simpa [AVal.cells, Value.cells] using hl) (fun i c v hi hv => hr i c v hi (by simpa [Value.cells] using hv)) (fun c hc => List.all_eq_true.1 (hp x) c hc))
theorem arg_one {t : TypeId} {v : Value} {d : DataW H} {p : List MemPlace} {α : Type} {enc : α → AVal} {wf : α → Prop} (hv : v.cells = #[v]) (he : ∀ x, (enc x).cells = [enc x]) (hre : Reads enc0 P W t enc wf) (h : DataW.Trod enc0 P W 0 (fun _ => true) true t v d p) :
    ∃ x, wf x ∧ Rep W (inW W) (fun _ => 0) 0 (enc x) v := by
  obtain ⟨fuel, h⟩ := h
  rw [hv] at h
  obtain ⟨x, hx, hl, hr⟩ := hre fuel _ d p h
  rw [he] at hr
  exact ⟨x, hx, hr 0 _ _ rfl rfl⟩

inductive RepL (W : World) : List AVal → List Value → Prop where
  | nil : RepL W [] []
  | cons {a : AVal} {v : Value} {l : List AVal} {m : List Value} (h : Rep W (inW W) (fun _ => 0) 0 a v) (hl : RepL W l m) : RepL W (a :: l) (v :: m)
theorem RepL.spec {l : List AVal} {m : List Value} (h : RepL W l m) : m.length = l.length ∧ ∀ (i : Nat) a v, l[i]? = some a → m[i]? = some v → Rep W (inW W) (fun _ => 0) 0 a v := by
  induction h with
  | nil => exact ⟨rfl, fun i a v h => by simp at h⟩
  | cons h hl ih =>
    refine ⟨by simp [ih.1], fun i a v h1 h2 => ?_⟩
    cases i with
    | zero => simp at h1 h2; rw [← h1, ← h2]; exact h
    | succ i => exact ih.2 i a v (by simpa using h1) (by simpa using h2)
theorem argsOk_of {l : List AVal} {m : List Value} (h : RepL W l m) : ArgsOk W (omega0 W) (fun _ => 0) 0 l m.toArray :=
  ⟨by simpa using h.spec.1, fun i a v h1 h2 => (h.spec.2 i a v h1 (by simpa using h2)).mono (fun b o hb => ⟨by unfold omega0; rw [if_pos (show b < W.heap.size from hb)], rfl⟩) (Nat.le_refl _) (fun _ _ => rfl)⟩
theorem rep_bool {w : World} {I : Nat → Nat → Prop} {η : Nat → Nat} {N : Nat} {b : Bool} {v : Value} (h : Rep w I η N (.bool b) v) : v = .bool b := by cases h; rfl
theorem below_of [VR : Vars] {W' : World} (h : Keeps W (omega0 W) W') : Go.RowKit.Below W.heap.size W W' :=
  ⟨h.os, h.tape, h.output, h.size, fun k hk => h.block k hk (fun o id => by unfold omega0; split <;> simp) (fun o id i => by unfold omega0; split <;> simp)⟩
end
end Go.AM
