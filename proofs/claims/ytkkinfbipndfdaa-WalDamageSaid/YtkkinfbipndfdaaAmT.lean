/- The tables of types and functions, held against the program by a computation. -/
import Derived.Test.YtkkinfbipndfdaaAmR
set_option linter.unusedVariables false
set_option linter.unusedSimpArgs false
namespace Go.AM

def chkCell : AVal → Value → Bool
  | .bool a, .bool b => a == b
  | .int k n, .int k' m => decide (k = k') && decide (n = m)
  | .str a, .string b => a.data.toList == b.data.toList
  | .nilIface, .nilIface => true
  | .nilFunc, .nilFunc => true
  | .nilMap, .map none => true
  | .nilPtr, .pointer none => true
  | .slice .nil _ 0 _, .slice none 0 0 => true
  | _, _ => false
def chkCells : List AVal → List Value → Bool
  | [], [] => true
  | a :: l, v :: m => chkCell a v && chkCells l m
  | _, _ => false
def chkZ : AVal → Value → Bool
  | .agg cs, .agg vs => chkCells cs vs.toList && cs.all plain
  | .agg _, _ => false
  | a, v => chkCell a v && plain a

theorem chkCell_spec {a : AVal} {v : Value} (h : chkCell a v = true) (w : World) (I : Nat → Nat → Prop) (η : Nat → Nat) (N : Nat) : Rep w I η N a v := by
  unfold chkCell at h
  split at h
  · rename_i x y; have : x = y := by simpa using h
    subst this; exact .bool _
  · simp only [Bool.and_eq_true, decide_eq_true_eq] at h; rw [h.1, h.2]; exact .int _ _
  · rename_i x y
    have : x = y := by
      obtain ⟨x⟩ := x; obtain ⟨y⟩ := y
      have : x.toList = y.toList := by simpa using h
      rw [Array.toList_inj.1 this]
    subst this; exact .str _
  · exact .nilIface
  · exact .nilFunc
  · exact .nilMap
  · exact .nilPtr
  · refine .slice _ _ _ _ _ _ (fun _ _ => undef) (Nat.le_refl _) (by simp) (fun _ => ⟨rfl, rfl⟩) (fun h => absurd h (Nat.lt_irrefl _)) (fun i h => absurd h (Nat.not_lt_zero _)) (fun i h => absurd h (Nat.not_lt_zero _)) (fun i h => absurd h (Nat.not_lt_zero _))
  · cases h

theorem chkCells_spec : ∀ {l : List AVal} {m : List Value}, chkCells l m = true → l.length = m.length ∧ ∀ (j : Nat) c v, l[j]? = some c → m[j]? = some v → chkCell c v = true
  | [], [], _ => ⟨rfl, fun j c v h => by simp at h⟩
  | a :: l, v :: m, h => by
    simp only [chkCells, Bool.and_eq_true] at h
    obtain ⟨h1, h2⟩ := chkCells_spec h.2
    refine ⟨by simp [h1], fun j c x hc hx => ?_⟩
    cases j with
    | zero => simp at hc hx; subst hc; subst hx; exact h.1
    | succ j => exact h2 j c x (by simpa using hc) (by simpa using hx)
  | [], _ :: _, h => by cases h
  | _ :: _, [], h => by cases h

def chkF (P : Program) (f : Field) (fi : FI) : Bool :=
  Nat.beq f.offset fi.off && (match P.info? f.type with | some i => Nat.beq i.size fi.size | none => false) && Nat.ble 1 fi.size &&
  (fi.agg == (match P.underlying f.type with | some (.struct _) => true | some (.array _ _) => true | _ => false)) &&
  (P.underlying f.type).isSome && (fi.agg || Nat.beq fi.size 1) &&
  (match fi.eq with
  | 1 => !(f.name == "_") && !fi.agg && (match P.underlying f.type with | some (.int _) => true | _ => false)
  | 2 => !(f.name == "_") && !fi.agg && (match P.underlying f.type with | some .string => true | _ => false)
  | 3 => !(f.name == "_") && !fi.agg && (match P.underlying f.type with | some .bool => true | _ => false)
  | 4 => !(f.name == "_") && fi.agg && (match P.underlying f.type with
    | some (.array n e) => Nat.beq n fi.size && (match P.underlying e with | some (.int _) => true | _ => false) && (match P.info? e with | some i => Nat.beq i.size 1 | none => false) && Nat.beq (P.cellsOf e) 1
    | _ => false)
  | _ => true)
def chkFs (P : Program) : List Field → List FI → Bool
  | [], [] => true
  | f :: l, i :: m => chkF P f i && chkFs P l m
  | _, _ => false
def chkK (P : Program) (t : TypeId) (i : TI) : Bool :=
  match i.kind with
  | .int k => match P.underlying t with | some (.int k') => decide (k' = k) | _ => false
  | .bool => match P.underlying t with | some .bool => true | _ => false
  | .string => match P.underlying t with | some .string => true | _ => false
  | .slice e => match P.underlying t with | some (.slice e') => Nat.beq e' e | _ => false
  | .array n e => match P.underlying t with | some (.array n' e') => Nat.beq n' n && Nat.beq e' e | _ => false
  | .struct fs => match P.underlying t with
    | some (.struct fields) => chkFs P fields.toList fs && (!i.eqOk || (!(P.eqGuardType P.depth t) && !(P.stoodInHeld t)))
    | _ => false
  | .map k e => match P.underlying t with | some (.map k' e') => Nat.beq k' k && Nat.beq e' e | _ => false
  | .iface => match P.underlying t with | some (.interface _) => true | _ => false
  | .other => true
def chkTI (P : Program) (t : TypeId) (i : TI) : Bool :=
  (match P.info? t with
  | some inf => Nat.beq inf.size i.size && Nat.beq inf.bytes i.bytes && (match inf.zero with | some z => Nat.beq z.cells.size i.size && chkZ i.zero z | none => false)
  | none => false) &&
  Nat.beq i.zero.cells.length i.size && plainAgg i.zero && (i.agg == (match i.zero with | .agg _ => true | _ => false)) &&
  i.zero.cells.all (fun c => !(isOwn c) && plain c) && Nat.ble 1 i.size &&
  (i.agg == (match P.underlying t with | some (.struct _) => true | some (.array _ _) => true | _ => false)) &&
  (P.underlying t).isSome && chkK P t i

theorem aggB_spec {P : Program} {t : TypeId} : (match P.underlying t with | some (.struct _) => true | some (.array _ _) => true | _ => false) = true ↔ (∃ fs, P.underlying t = some (.struct fs)) ∨ ∃ n e, P.underlying t = some (.array n e) := by
  constructor
  · intro h
    split at h
    · rename_i fs e; exact .inl ⟨fs, e⟩
    · rename_i n e hu; exact .inr ⟨n, e, hu⟩
    · cases h
  · rintro (⟨fs, h⟩ | ⟨n, e, h⟩) <;> rw [h]

theorem chkF_spec {P : Program} {f : Field} {fi : FI} (h : chkF P f fi = true) : FOk P f fi := by
  simp only [chkF, Bool.and_eq_true, beq_iff_eq] at h
  obtain ⟨⟨⟨⟨⟨⟨h1, h2⟩, h3⟩, h4⟩, h5⟩, h6⟩, h7⟩ := h
  refine ⟨Nat.eq_of_beq_eq_true h1, ?_, Nat.le_of_ble_eq_true h3, ?_, Option.isSome_iff_exists.1 h5, fun ha => ?_, fun he => ?_, fun he => ?_⟩
  · split at h2
    · rename_i i hi; exact ⟨i, hi, Nat.eq_of_beq_eq_true h2⟩
    · cases h2
  · rw [h4]; exact aggB_spec
  · rw [ha] at h6; simp only [Bool.false_or] at h6; exact Nat.eq_of_beq_eq_true h6
  · split at h7
    · rename_i e
      simp only [Bool.and_eq_true, Bool.not_eq_true', beq_eq_false_iff_ne, ne_eq] at h7
      refine ⟨h7.1.1, h7.1.2, fun _ => ?_, (fun e2 => absurd (e.symm.trans e2) (by decide)), (fun e2 => absurd (e.symm.trans e2) (by decide))⟩
      have h8 := h7.2
      split at h8
      · rename_i k hk; exact ⟨k, hk⟩
      · cases h8
    · rename_i e
      simp only [Bool.and_eq_true, Bool.not_eq_true', beq_eq_false_iff_ne, ne_eq] at h7
      refine ⟨h7.1.1, h7.1.2, (fun e2 => absurd (e.symm.trans e2) (by decide)), fun _ => ?_, (fun e2 => absurd (e.symm.trans e2) (by decide))⟩
      have h8 := h7.2
      split at h8
      · rename_i hk; exact hk
      · cases h8
    · rename_i e
      simp only [Bool.and_eq_true, Bool.not_eq_true', beq_eq_false_iff_ne, ne_eq] at h7
      refine ⟨h7.1.1, h7.1.2, (fun e2 => absurd (e.symm.trans e2) (by decide)), (fun e2 => absurd (e.symm.trans e2) (by decide)), fun _ => ?_⟩
      have h8 := h7.2
      split at h8
      · rename_i hk; exact hk
      · cases h8
    · rename_i e
      rcases he with e2 | e2 | e2 <;> exact absurd (e.symm.trans e2) (by decide)
    · rename_i h1 h2 h3 h4
      rcases he with e | e | e
      · exact absurd e h1
      · exact absurd e h2
      · exact absurd e h3
  · rw [he] at h7
    simp only [Bool.and_eq_true, Bool.not_eq_true', beq_eq_false_iff_ne, ne_eq] at h7
    obtain ⟨⟨h8, h9⟩, h10⟩ := h7
    refine ⟨h8, h9, ?_⟩
    split at h10
    · rename_i n e hu
      simp only [Bool.and_eq_true] at h10
      obtain ⟨⟨⟨g1, g2⟩, g3⟩, g4⟩ := h10
      split at g2
      · rename_i k hk
        split at g3
        · rename_i i hi
          refine ⟨e, k, i, ?_, hk, hi, Nat.eq_of_beq_eq_true g3, Nat.eq_of_beq_eq_true g4⟩
          rw [hu, Nat.eq_of_beq_eq_true g1]
        · cases g3
      · cases g2
    · cases h10

theorem chkFs_spec {P : Program} : ∀ {l : List Field} {m : List FI}, chkFs P l m = true → l.length = m.length ∧ ∀ (j : Nat) f i, l[j]? = some f → m[j]? = some i → FOk P f i
  | [], [], _ => ⟨rfl, fun j c v h => by simp at h⟩
  | a :: l, v :: m, h => by
    simp only [chkFs, Bool.and_eq_true] at h
    obtain ⟨h1, h2⟩ := chkFs_spec h.2
    refine ⟨by simp [h1], fun j c x hc hx => ?_⟩
    cases j with
    | zero => simp at hc hx; subst hc; subst hx; exact chkF_spec h.1
    | succ j => exact h2 j c x (by simpa using hc) (by simpa using hx)
  | [], _ :: _, h => by cases h
  | _ :: _, [], h => by cases h

theorem chkK_spec {P : Program} {t : TypeId} {i : TI} (h : chkK P t i = true) : KOk P t i i.kind := by
  unfold chkK at h
  cases hk : i.kind <;> rw [hk] at h <;> simp only [KOk] at h ⊢
  · split at h
    · rename_i k hu; simp only [decide_eq_true_eq] at h; rw [← h]; exact hu
    · cases h
  · split at h
    · assumption
    · cases h
  · split at h
    · assumption
    · cases h
  · split at h
    · rename_i e hu; rw [← Nat.eq_of_beq_eq_true h]; exact hu
    · cases h
  · split at h
    · rename_i n e hu; simp only [Bool.and_eq_true] at h; rw [← Nat.eq_of_beq_eq_true h.1, ← Nat.eq_of_beq_eq_true h.2]; exact hu
    · cases h
  · split at h
    · rename_i fields hu
      simp only [Bool.and_eq_true, Bool.or_eq_true, Bool.not_eq_true'] at h
      obtain ⟨h1, h2⟩ := chkFs_spec h.1
      refine ⟨fields, hu, by simpa using h1, fun j f fi hf hfi => h2 j f fi (by simpa using hf) hfi, fun he => ?_⟩
      rcases h.2 with h3 | h3
      · rw [he] at h3; cases h3
      · exact h3
    · cases h
  · split at h
    · rename_i n e hu; simp only [Bool.and_eq_true] at h; rw [← Nat.eq_of_beq_eq_true h.1, ← Nat.eq_of_beq_eq_true h.2]; exact hu
    · cases h
  · split at h
    · rename_i ms hu; exact ⟨ms, hu⟩
    · cases h

theorem chkTI_spec {P : Program} {t : TypeId} {i : TI} (h : chkTI P t i = true) : TIOk P t i := by
  simp only [chkTI, Bool.and_eq_true, beq_iff_eq] at h
  obtain ⟨⟨⟨⟨⟨⟨⟨⟨h1, h2⟩, h3⟩, h4⟩, h5⟩, h6⟩, h7⟩, h8⟩, h9⟩ := h
  have hown : ∀ c ∈ i.zero.cells, isOwn c = false ∧ plain c = true := fun c hc => by
    have := List.all_eq_true.1 h5 c hc
    simpa using this
  refine ⟨?_, Nat.eq_of_beq_eq_true h2, h3, ?_, hown, Nat.le_of_ble_eq_true h6, by rw [h7]; exact aggB_spec, Option.isSome_iff_exists.1 h8, chkK_spec h9⟩
  · split at h1
    · rename_i inf hinf
      simp only [Bool.and_eq_true] at h1
      obtain ⟨⟨ha, hb⟩, hc⟩ := h1
      split at hc
      · rename_i z hz
        simp only [Bool.and_eq_true] at hc
        refine ⟨inf, z, hinf, Nat.eq_of_beq_eq_true ha, Nat.eq_of_beq_eq_true hb, hz, Nat.eq_of_beq_eq_true hc.1, ?_⟩
        have h10 := hc.2
        cases hzz : i.zero with
        | agg cs =>
          rw [hzz] at h10
          cases z with
          | agg vs =>
            simp only [chkZ, Bool.and_eq_true] at h10
            obtain ⟨hl, hcc⟩ := chkCells_spec h10.1
            refine ⟨fun w I η N => .agg cs vs (by simpa using hl) (fun j c v h1 h2 => chkCell_spec (hcc j c v h1 (by simpa using h2)) w I η N) (fun c hc => List.all_eq_true.1 h10.2 c hc), fun j c v h1 h2 w I η N => chkCell_spec (hcc j c v h1 (by simpa [Value.cells] using h2)) w I η N⟩
          | _ => simp [chkZ] at h10
        | _ =>
          rw [hzz] at h10
          have hcell : chkCell i.zero z = true := by
            rw [hzz]; simp only [chkZ, Bool.and_eq_true] at h10; exact h10.1
          rw [← hzz]
          refine ⟨fun w I η N => chkCell_spec hcell w I η N, fun j c v h1 h2 w I η N => ?_⟩
          have hc1 : i.zero.cells = [i.zero] := by rw [hzz]; rfl
          rw [hc1] at h1
          have hv1 : z.cells = #[z] := by
            rw [hzz] at hcell
            cases z <;> first | rfl | (simp [chkCell] at hcell)
          rw [hv1] at h2
          cases j with
          | zero => simp at h1 h2; subst h1; subst h2; exact chkCell_spec hcell w I η N
          | succ j => simp at h1
      · cases hc
    · cases h1
  · rw [h4]
    constructor
    · intro h; split at h
      · rename_i cs hz; exact ⟨cs, hz⟩
      · cases h
    · rintro ⟨cs, hz⟩; rw [hz]

/-- The table of types, of the first n types. -/
theorem TOk_of {P : Program} {T : TypeId → Option TI} {n : Nat} (h : (List.range n).all (fun t => match T t with | some i => chkTI P t i | none => true) = true) : TOk P (fun t => bif Nat.blt t n then T t else none) := by
  intro t i hi
  simp only at hi
  cases hb : Nat.blt t n with
  | false => rw [hb] at hi; cases hi
  | true =>
    rw [hb] at hi; simp only [cond_true] at hi
    have ht : t < n := by simpa [Nat.blt_eq] using hb
    have := List.all_eq_true.1 h t (List.mem_range.2 ht)
    rw [hi] at this
    exact chkTI_spec this

/-- The program's own function. -/
def funOf (F : Func) (hint : Hint) (kp : Keep) : Option Fun :=
  match F.body with
  | some c => some { body := c, ntmps := F.ntmps, results := F.results.toList, types := F.resultTypes.toList, hint := hint, keep := kp }
  | none => none

theorem funOf_ok {P : Program} {f : FuncId} {F : Func} {hint : Hint} {kp : Keep} {fn : Fun} (hF : P.funcs[f]? = some F) (hn : (F.name == "runtime.NumGoroutine") = false) (h : funOf F hint kp = some fn) : FunOk P f fn := by
  unfold funOf at h
  split at h
  · rename_i c hc
    cases h
    exact ⟨F, hF, hn, hc, rfl, rfl⟩
  · cases h

end Go.AM
