/- append. -/
import Derived.Test.YtkkinfbipndfdaaAmJ
set_option linter.unusedVariables false
set_option linter.unusedSimpArgs false
namespace Go.AM
open Go.RowKit

/-- What is appended: a list of cells that reads as elements. -/
structure Src (w : World) (g : Gh) (N size m : Nat) (f : Nat → AVal) (L : List Value) : Prop where
  len : L.length = m * size
  elen : ∀ i, i < m → (f i).cells.length = size
  pl : ∀ i, i < m → plainAgg (f i) = true ∧ noRefAgg (f i) = true
  rep : ∀ i, i < m → ∀ (j : Nat) c, (f i).cells[j]? = some c → ∃ x, L[i * size + j]? = some x ∧ Rep w g.I g.η N c x
  one : ∀ x ∈ L, x.oneCell' = true

theorem divmod (i j s : Nat) (hj : j < s) : (i * s + j) / s = i ∧ (i * s + j) % s = j := by
  constructor
  · rw [Nat.mul_comm, Nat.mul_add_div (by omega), Nat.div_eq_of_lt hj]; omega
  · rw [Nat.mul_comm, Nat.mul_add_mod, Nat.mod_eq_of_lt hj]
theorem idx_lt {i j m s : Nat} (hi : i < m) (hj : j < s) : i * s + j < m * s := by
  have : (i + 1) * s ≤ m * s := Nat.mul_le_mul_right s hi
  rw [Nat.succ_mul] at this; omega

section
variable {R : Type} {P : Program} {E : Env} {w0 : World} {ω0 : Entry} {w : World} {g : Gh} {st : St} {vs : Array Value}
  {C : FuncId → List AVal → List HObj → AVal → List HObj → Prop} {o : Oper} {k : AVal → St → Tree R} {r : R} {next : Act → World → Prop} {Q : Exit → Act → World → Prop} {mv : Bool}

/-- A list of m * s values out of a function of two indices. -/
theorem list_of (m s : Nat) (hs : 0 < s) (v : Nat → Nat → Value) : ∃ L : List Value, L.length = m * s ∧ ∀ i, i < m → ∀ j, j < s → L[i * s + j]? = some (v i j) := by
  refine ⟨(List.range (m * s)).map fun q => v (q / s) (q % s), by simp, fun i hi j hj => ?_⟩
  obtain ⟨h1, h2⟩ := divmod i j s hj
  simp [List.getElem?_range (idx_lt hi hj), h1, h2]

theorem cells_in {w' : World} (hw : w'.heap = w.heap) (b o : Nat) : w'.cell? ⟨b, o, none⟩ = w.cell? ⟨b, o, none⟩ := by simp [World.cell?, hw]

theorem src_slice {N size : Nat} {sp : Spare} {esz n : Nat} {f : Nat → AVal} {X : Value} (h : Rep w g.I g.η N (.slice sp esz n f) X) (hs : 0 < size) (he : esz = size ∨ n = 0) :
    ∃ L ad cap, X = .slice ad n cap ∧ n ≤ cap ∧ (sp = .exact → cap = n) ∧ (sp = .nil → ad = none ∧ cap = 0) ∧ Src w g N size n f L ∧ (0 < n → ∃ b a, ad = some ⟨b, a, none⟩ ∧ ∀ j, j < n * size → g.ω b (a + j) = .imm ∧ w.cell? ⟨b, a + j, none⟩ = L[j]?) ∧
      ∀ w' : World, w'.heap = w.heap → (Builtin.firstCells size n X).run P w' = .ok L.toArray w' := by
  cases h with
  | slice _ _ _ _ ad cap vals hc hx hn ha hl hp hr =>
    by_cases h0 : n = 0
    · subst h0
      refine ⟨[], ad, cap, rfl, hc, hx, hn, ⟨by simp, by omega, by omega, by omega, by simp⟩, by omega, fun w' hw => ?_⟩
      cases ad with
      | none => simp [Builtin.firstCells]
      | some a => simp [Builtin.firstCells, loadCells, loadCellsFrom]
    · have he : esz = size := he.resolve_right h0
      subst he
      obtain ⟨L, h1, h2⟩ := list_of n esz hs vals
      obtain ⟨b, a, rfl, hcell⟩ := ha (by omega)
      have hL : ∀ q, q < n * esz → g.ω b (a + q) = .imm ∧ w.cell? ⟨b, a + q, none⟩ = L[q]? := fun q hq => by
        have hq1 : q / esz < n := Nat.div_lt_of_lt_mul (by rw [Nat.mul_comm]; exact hq)
        have hq2 : q % esz < esz := Nat.mod_lt _ hs
        have hq3 : q / esz * esz + q % esz = q := by rw [Nat.mul_comm]; exact Nat.div_add_mod q esz
        have h3 := hcell _ hq1 _ hq2
        have h4 := h2 _ hq1 _ hq2
        rw [Nat.add_assoc, hq3] at h3
        rw [hq3] at h4
        rw [h4]; exact h3
      refine ⟨L, _, cap, rfl, hc, hx, hn, ⟨h1, hl, hp, fun i hi j c hcc => ?_, fun x hx' => ?_⟩, fun _ => ⟨b, a, rfl, hL⟩, fun w' hw => ?_⟩
      · have hj := lt_of_some hcc
        rw [hl i hi] at hj
        exact ⟨_, h2 i hi j hj, hr i hi j c hcc⟩
      · obtain ⟨q, hq, e⟩ := List.getElem_of_mem hx'
        have hq' : q < n * esz := by rw [← h1]; exact hq
        have hq1 : q / esz < n := Nat.div_lt_of_lt_mul (by rw [Nat.mul_comm]; exact hq')
        have hq2 : q % esz < esz := Nat.mod_lt _ hs
        have hq3 : q / esz * esz + q % esz = q := by rw [Nat.mul_comm]; exact Nat.div_add_mod q esz
        have h4 := h2 _ hq1 _ hq2
        rw [hq3, List.getElem?_eq_getElem hq, e] at h4
        cases h4
        have hlen := hl _ hq1
        have hcx : (f (q / esz)).cells[q % esz]? = some ((f (q / esz)).cells[q % esz]'(by omega)) := List.getElem?_eq_getElem _
        have hrr := hr _ hq1 _ _ hcx
        refine (plain_one hrr ?_).1
        have hpp := (hp _ hq1).1
        have hmem := List.mem_of_getElem? hcx
        generalize (f (q / esz)).cells[q % esz]'(by omega) = c at hmem
        cases hfq : f (q / esz) <;> rw [hfq] at hpp hmem <;> first
          | (simp only [plainAgg, List.all_eq_true] at hpp; exact hpp c hmem)
          | (simp [AVal.cells] at hmem; subst hmem; exact hpp)
      · rw [run_firstCells_some w' esz n ⟨b, a, none⟩ n cap L h1 (fun j v hj => ?_)]
        rw [addr_add, cells_in hw, (hL j (by rw [← h1]; exact lt_of_some hj)).2]; exact hj

theorem mkElem_noRef {ag : Bool} {sz off : Nat} {cs : List AVal} (h1 : ag = false → sz = 1) (hle : off + sz ≤ cs.length) (hp : ∀ c ∈ cs, noRef c = true) : noRefAgg (mkElem ag sz cs off) = true := by
  cases ag with
  | true =>
    simp only [mkElem, cond_true, noRefAgg, List.all_eq_true]
    exact fun c hc => hp c (List.mem_of_mem_drop (List.mem_of_mem_take hc))
  | false =>
    have := h1 rfl
    subst this
    have hoff : off < cs.length := by omega
    have e : cs.getD off .undef = cs[off] := by simp [List.getD, List.getElem?_eq_getElem hoff]
    simp only [mkElem, cond_false, e]
    have hpl := hp _ (List.getElem_mem hoff)
    generalize cs[off] = c at hpl
    cases c <;> first | exact hpl | (simp [noRef] at hpl)

theorem src_of [VR : Vars] (h : Rel w0 ω0 w g st vs) {x : Operand} {esz n size : Nat} {f : Nat → AVal} (he : sliceOf st.H (ev st.ts x) = some (true, esz, n, f)) (hs : 0 < size) (hsz : esz = size ∨ n = 0) :
    ∃ L, Src w g st.H.length size n f L ∧ (∃ ad cap, Act.eval ⟨vs, []⟩ x = .slice ad n cap) ∧ ∀ w' : World, w'.heap = w.heap → (Builtin.firstCells size n (Act.eval ⟨vs, []⟩ x)).run P w' = .ok L.toArray w' := by
  unfold sliceOf at he
  split at he
  · rename_i sp esz' n' f' hx
    cases he
    obtain ⟨L, ad, cap, h1, _, _, _, h2, _, h3⟩ := src_slice (P := P) (ev_ne h hx (by simp) (by simp)) hs hsz
    exact ⟨L, h2, ⟨ad, cap, h1⟩, h3⟩
  · rename_i id off n' esz' ag hx
    split at he
    · rename_i cs hcs
      simp only [Option.some.injEq, Prod.mk.injEq] at he
      obtain ⟨hb, he1, he2, he3⟩ := he
      have he1 := he1.symm
      have he2 := he2.symm
      have he3 := he3.symm
      subst he1; subst he2; subst he3
      simp only [Bool.and_eq_true] at hb
      obtain ⟨hb, hnr⟩ := hb
      have hle := Nat.le_of_ble_eq_true hb
      have hr := ev_ne h hx (by simp) (by simp)
      generalize hX : Act.eval ⟨vs, []⟩ x = q at hr
      cases hr with
      | mslice _ _ _ _ _ cap hid hc hag =>
        by_cases h0 : n = 0
        · subst h0
          exact ⟨[], ⟨by simp, by omega, by omega, by omega, by simp⟩, ⟨_, _, rfl⟩, fun w' _ => by simp [Builtin.firstCells, loadCells, loadCellsFrom]⟩
        · have he : esz = size := hsz.resolve_right h0
          subst he
          have hC := h.arrCells hcs off (n * esz) hle
          have hlen : ((cs.drop off).take (n * esz)).length = n * esz := by simp; omega
          have hcp : ∀ c ∈ cs, plain c = true := fun c hc => by
            obtain ⟨j, hj, e⟩ := List.getElem_of_mem hc
            exact ((h.base.heap id _ hcs).2 j c (by rw [List.getElem?_eq_getElem hj, e])).1
          have hval : ∀ j, j < n * esz → ∃ x, w.cell? ⟨g.η id, off + j, none⟩ = some x ∧ plain (cs.getD (off + j) .undef) = true ∧ Rep w g.I g.η st.H.length (cs.getD (off + j) .undef) x := fun j hj => by
            have hjc : off + j < cs.length := by omega
            obtain ⟨h5, x, h6, h7⟩ := hC j (cs.getD (off + j) .undef) (by rw [List.getElem?_take_of_lt hj, List.getElem?_drop]; simp [List.getD, List.getElem?_eq_getElem hjc])
            exact ⟨x, h6, h5, h7⟩
          refine ⟨(List.range (n * esz)).map fun j => (w.cell? ⟨g.η id, off + j, none⟩).getD undef, ⟨by simp, fun i hi => ?_, fun i hi => ?_, fun i hi j c hcc => ?_, fun x hx' => ?_⟩, ⟨_, _, rfl⟩, fun w' hw => ?_⟩
          · have hil : off + i * esz + esz ≤ cs.length := by have := idx_lt hi (show esz - 1 < esz by omega); omega
            rw [(mkElem_cells hag hil hcp).1]; simp; omega
          · have hil : off + i * esz + esz ≤ cs.length := by have := idx_lt hi (show esz - 1 < esz by omega); omega
            exact ⟨(mkElem_cells hag hil hcp).2, mkElem_noRef hag hil (List.all_eq_true.1 hnr)⟩
          · have hil : off + i * esz + esz ≤ cs.length := by have := idx_lt hi (show esz - 1 < esz by omega); omega
            rw [(mkElem_cells hag hil hcp).1] at hcc
            have hj := lt_of_some hcc
            simp only [List.length_take, List.length_drop] at hj
            rw [List.getElem?_take_of_lt (by omega), List.getElem?_drop] at hcc
            have hjn := idx_lt hi (show j < esz by omega)
            obtain ⟨x, h6, _, h7⟩ := hval (i * esz + j) hjn
            refine ⟨x, ?_, ?_⟩
            · simp [List.getElem?_range hjn, h6]
            · have : cs.getD (off + (i * esz + j)) .undef = c := by rw [← Nat.add_assoc]; simp [List.getD, hcc]
              rw [← this]; exact h7
          · simp only [List.mem_map, List.mem_range] at hx'
            obtain ⟨j, hj, rfl⟩ := hx'
            obtain ⟨x, h6, h5, h7⟩ := hval j hj
            rw [h6]; exact (plain_one h7 h5).1
          · rw [run_firstCells_some w' esz n ⟨g.η id, off, none⟩ n cap ((List.range (n * esz)).map fun j => (w.cell? ⟨g.η id, off + j, none⟩).getD undef) (by simp) (fun j v hj => ?_)]
            have hj' : j < n * esz := by have := lt_of_some hj; simpa using this
            obtain ⟨x, h6, _⟩ := hval j hj'
            simp only [List.getElem?_map, List.getElem?_range hj', Option.map_some, h6, Option.getD_some, Option.some.injEq] at hj
            rw [addr_add, cells_in hw, h6, hj]
    · cases he
  · cases he

theorem src_str {N : Nat} (s : ByteArray) : Src w g N 1 s.size (byteAt s) (s.data.toList.map fun b => .int .u8 b.toNat) := by
  refine ⟨by rw [List.length_map, Nat.mul_one]; rfl, fun i hi => rfl, fun i hi => ⟨rfl, rfl⟩, fun i hi j c hc => ?_, fun x hx => ?_⟩
  · cases j with
    | succ j => cases hc
    | zero =>
      have hc' : c = byteAt s i := (Option.some.inj hc).symm
      subst hc'
      have hi' : i < s.data.toList.length := hi
      refine ⟨.int .u8 (s.data.toList.getD i 0).toNat, ?_, .int _ _⟩
      rw [Nat.mul_one, Nat.add_zero, List.getElem?_map, List.getElem?_eq_getElem hi']
      simp only [Option.map_some, List.getD, List.getElem?_eq_getElem hi', Option.getD_some]
  · obtain ⟨b, _, rfl⟩ := List.mem_map.1 hx; rfl

/-- Two sources, one behind the other. -/
theorem Src.glue {N size n m : Nat} {f f' : Nat → AVal} {L L' : List Value} (h : Src w g N size n f L) (h' : Src w g N size m f' L') : Src w g N size (n + m) (AM.glue n f f') (L ++ L') := by
  have hg1 : ∀ i, i < n → AM.glue n f f' i = f i := fun i hi => by simp [AM.glue, Nat.ble_eq_true_of_le (show i + 1 ≤ n from hi)]
  have hg2 : ∀ i, ¬ i < n → AM.glue n f f' i = f' (i - n) := fun i hi => by
    have : Nat.ble (i + 1) n = false := by
      cases hb : Nat.ble (i + 1) n
      · rfl
      · have := Nat.le_of_ble_eq_true hb; omega
    simp [AM.glue, this]
  refine ⟨by simp [h.len, h'.len, Nat.add_mul], fun i hi => ?_, fun i hi => ?_, fun i hi j c hc => ?_, fun x hx => ?_⟩
  · by_cases e : i < n
    · rw [hg1 i e]; exact h.elen i e
    · rw [hg2 i e]; exact h'.elen _ (by omega)
  · by_cases e : i < n
    · rw [hg1 i e]; exact h.pl i e
    · rw [hg2 i e]; exact h'.pl _ (by omega)
  · by_cases e : i < n
    · rw [hg1 i e] at hc
      obtain ⟨x, h1, h2⟩ := h.rep i e j c hc
      exact ⟨x, by rw [List.getElem?_append_left (lt_of_some h1)]; exact h1, h2⟩
    · rw [hg2 i e] at hc
      obtain ⟨x, h1, h2⟩ := h'.rep (i - n) (by omega) j c hc
      refine ⟨x, ?_, h2⟩
      have : i * size + j = n * size + ((i - n) * size + j) := by
        have : i * size = n * size + (i - n) * size := by rw [← Nat.add_mul]; congr 1; omega
        omega
      rw [List.getElem?_append_right (by rw [h.len]; omega), h.len, this, Nat.add_sub_cancel_left]; exact h1
  · rcases List.mem_append.1 hx with hx | hx
    · exact h.one x hx
    · exact h'.one x hx

/-- A slice over cells that nobody writes. -/
theorem Src.slice {w' : World} {g' : Gh} {N N' size n : Nat} {f : Nat → AVal} {L : List Value} (h : Src w g N size n f L) (hs : 0 < size) (hm : ∀ c x, Rep w g.I g.η N c x → Rep w' g'.I g'.η N' c x) {ad : Option Addr} {cap : Nat} (hc : n ≤ cap)
    (sp : Spare) (hx : sp = .exact → cap = n) (hn : sp = .nil → ad = none ∧ cap = 0) (ha : 0 < n → ∃ b a, ad = some ⟨b, a, none⟩ ∧ ∀ j, j < n * size → g'.ω b (a + j) = .imm ∧ w'.cell? ⟨b, a + j, none⟩ = L[j]?) :
    Rep w' g'.I g'.η N' (.slice sp size n f) (.slice ad n cap) := by
  refine .slice sp size n f ad cap (fun i j => (L[i * size + j]?).getD undef) hc hx hn (fun h0 => ?_) h.elen h.pl (fun i hi j c hcc => ?_)
  · obtain ⟨b, a, e, h1⟩ := ha h0
    refine ⟨b, a, e, fun i hi j hj => ?_⟩
    obtain ⟨h2, h3⟩ := h1 (i * size + j) (idx_lt hi hj)
    rw [Nat.add_assoc]
    refine ⟨h2, ?_⟩
    rw [h3, List.getElem?_eq_getElem (by rw [h.len]; exact idx_lt hi hj)]; rfl
  · obtain ⟨x, h1, h2⟩ := h.rep i hi j c hcc
    rw [h1]; exact hm c x h2

end
end Go.AM
