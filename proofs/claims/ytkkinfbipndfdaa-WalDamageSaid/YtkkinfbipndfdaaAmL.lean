/- append, the operation. -/
import Derived.Test.YtkkinfbipndfdaaAmK
set_option linter.unusedVariables false
set_option linter.unusedSimpArgs false
namespace Go.AM
open Go.RowKit

section
variable {R : Type} {P : Program} {E : Env} {w0 : World} {ω0 : Entry} {w : World} {g : Gh} {st : St} {vs : Array Value}
  {C : FuncId → List AVal → List HObj → AVal → List HObj → Prop} {o : Oper} {k : AVal → St → Tree R} {r : R} {next : Act → World → Prop} {Q : Exit → Act → World → Prop} {mv : Bool}

theorem zeroCells_size (z : Array Value) (n : Nat) : (Builtin.zeroCells z n).size = n * z.size := by simp [Builtin.zeroCells]

/-- The world behind an append in place. -/
def putIn (w : World) (ad : Option Addr) (k : Nat) (L : List Value) : World :=
  match ad with
  | some a => w.setCells a.block (a.off + k) L
  | none => w

/-- What the model does: in place, or into a new row. -/
theorem append_run {t u : TypeId} {ty : TypeId} {e : TypeId} {i : TI} (hte : P.underlying t = some (.slice e)) (hu : ∃ d, P.underlying u = some d ∧ ∀ q, d ≠ .int q) (hT : TIOk P e i)
    {ad : Option Addr} {n cap m : Nat} {X : Value} {L0 L : List Value} (hc : n ≤ cap) (hlen : (Builtin.lenOf X).run P w = .ok m w)
    (h0 : ∀ w' : World, w'.heap = w.heap → (Builtin.firstCells i.size n (.slice ad n cap)).run P w' = .ok L0.toArray w') (h1 : ∀ w' : World, w'.heap = w.heap → (Builtin.firstCells i.size m X).run P w' = .ok L.toArray w')
    (hb : (n + m) * i.bytes ≤ 140737488355328) (hm : n + m ≤ 9223372036854775807)
    (hst : n + m ≤ cap → (∀ a, ad = some a → L = [] ∨ ∃ b o, a = ⟨b, o, none⟩ ∧ (∀ j, j < L.length → (w.cell? ⟨b, o + n * i.size + j, none⟩).isSome = true ∧ w.frozen? ⟨b, o + n * i.size + j, none⟩ = false)) ∧ ∀ x ∈ L, x.oneCell' = true) :
    (n + m ≤ cap ∧ (Builtin.append_ #[t, u] ty #[.slice ad n cap, X]).run P w = .ok (.slice ad (n + m) cap) (putIn w ad (n * i.size) L)) ∨
    (cap < n + m ∧ ∃ c d zs, n + m ≤ c ∧ zs.length = (c - (n + m)) * i.size ∧ (Builtin.append_ #[t, u] ty #[.slice ad n cap, X]).run P w = .ok (.slice (some ⟨w.heap.size, 0, none⟩) (n + m) c) (({ w with drawn := d } : World).alloc (.cells (L0 ++ L ++ zs).toArray e))) := by
  obtain ⟨inf, z, hinf, hs, hby, hz, hzs, _⟩ := hT.info
  obtain ⟨d, hd, hdi⟩ := hu
  have hzz : (match d with | .int _ => true | _ => false) = false := by cases d <;> first | rfl | exact absurd rfl (hdi _)
  by_cases hfit : n + m ≤ cap
  · left
    refine ⟨hfit, ?_⟩
    obtain ⟨hcell, hone⟩ := hst hfit
    simp only [Builtin.append_, List.getElem?_toArray, List.getElem?_cons_zero, List.getElem?_cons_succ, Sem.run_bind, run_underlying hte, run_underlying hd, Result.andThen_ok, run_sizeOf hinf, Sem.run_pure, Sem.run_map]
    cases d with
    | int q => exact absurd rfl (hdi q)
    | _ =>
      simp only [Bool.false_eq_true, if_false, Sem.run_bind, hlen, Result.andThen_ok, Bool.not_false, if_true, Sem.run_ite]
      rw [if_pos hfit]
      simp only [Sem.run_bind, hs, h1 w rfl, Result.andThen_ok]
      cases ad with
      | none => simp [putIn]
      | some a =>
        rcases hcell a rfl with hLe | ⟨b, o, rfl, hc2⟩
        · subst hLe; simp [storeCells, World.setCells, putIn]
        simp only [addr_add]
        rw [Sem.run_bind, run_storeCells_cells b (o + n * i.size) L 0 w (fun j hj => by simpa using (hc2 j hj).1) (fun j hj => by simpa using (hc2 j hj).2) hone]
        simp [putIn]
  · right
    have hgt : cap < n + m := by omega
    refine ⟨hgt, ?_⟩
    have hfits : Builtin.nextslicecap (n + m) cap * inf.bytes ≤ 281474976710656 := by rw [hby]; exact growslice_fits hgt hb
    refine ⟨(n + m) + w.tape w.drawn (.appendCap (n + m) cap e) % (2 ^ 63 - (n + m)), w.drawn + 1, (Builtin.zeroCells z.cells ((n + m) + w.tape w.drawn (.appendCap (n + m) cap e) % (2 ^ 63 - (n + m)) - (n + m))).toList, by omega, by rw [Array.length_toList, zeroCells_size, hzs], ?_⟩
    simp only [Builtin.append_, List.getElem?_toArray, List.getElem?_cons_zero, List.getElem?_cons_succ, Sem.run_bind, run_underlying hte, run_underlying hd, Result.andThen_ok, run_sizeOf hinf, Sem.run_pure, Sem.run_map]
    cases d with
    | int q => exact absurd rfl (hdi q)
    | _ =>
      simp only [Bool.false_eq_true, if_false, Sem.run_bind, hlen, Result.andThen_ok, Bool.not_false, if_true, Sem.run_ite]
      rw [if_neg hfit]
      simp only [Sem.run_bind, run_typeInfo hinf, Result.andThen_ok, Sem.run_ite, Sem.run_pure, Sem.run_map]
      rw [if_neg (by simp [IntKind.max, IntKind.signed, IntKind.bits]; omega)]
      rw [if_neg (by omega)]
      simp only [Sem.run_pure, Result.andThen_ok, run_choose, Question.forced, Bool.false_eq_true, if_false, Question.cut, run_askRoom, hs]
      rw [h0 { w with drawn := w.drawn + 1 } rfl]
      simp only [Result.andThen_ok]
      rw [h1 { w with drawn := w.drawn + 1 } rfl]
      simp only [Result.andThen_ok, zeroValue, Sem.run_bind, run_typeInfo hinf, hz, Sem.run_pure, newRow, run_newObj]
      simp [World.alloc]
      congr 2; apply Array.ext'; simp

theorem Src.zero {N size : Nat} (f : Nat → AVal) : Src w g N size 0 f [] := ⟨by simp, by omega, by omega, by omega, by simp⟩

/-- The base of an append. -/
theorem base_of [VR : Vars] (h : Rel w0 ω0 w g st vs) {x : Operand} {size n : Nat} {f : Nat → AVal} (hs : 0 < size) (hx : appendTo size (ev st.ts x) = some (n, f)) :
    ∃ L0 ad cap, Act.eval ⟨vs, []⟩ x = .slice ad n cap ∧ n ≤ cap ∧ Src w g st.H.length size n f L0 ∧ (0 < n → ∃ b a, ad = some ⟨b, a, none⟩ ∧ ∀ j, j < n * size → g.ω b (a + j) = .imm ∧ w.cell? ⟨b, a + j, none⟩ = L0[j]?) ∧
      (∀ w' : World, w'.heap = w.heap → (Builtin.firstCells size n (.slice ad n cap)).run P w' = .ok L0.toArray w') ∧
      (n = cap ∨ ∃ t b a, n < cap ∧ x = .tmp t ∧ st.ts[t]? = some (.slice .own size n f) ∧ ad = some ⟨b, a, none⟩ ∧ ∀ j, n * size ≤ j → j < cap * size → g.ω b (a + j) = .tail t 0) := by
  unfold appendTo at hx
  split at hx
  · rename_i e n' f' he
    obtain ⟨hb, hx⟩ := cond_some hx
    cases hx
    have h0 := Nat.eq_of_beq_eq_true hb
    subst h0
    obtain ⟨L, ad, cap, h1, h2, _, h4, h5, _, h7⟩ := src_slice (P := P) (ev_ne h he (by simp) (by simp)) hs (.inr rfl)
    obtain ⟨rfl, rfl⟩ := h4 rfl
    have hL : L = [] := by have := h5.len; simpa using this
    subst hL
    exact ⟨[], none, 0, h1, h2, Src.zero _, by omega, fun w' hw => by have := h7 w' hw; rwa [h1] at this, .inl rfl⟩
  · cases hx
  · rename_i sp e n' f' hn1 hn2 he
    obtain ⟨hb, hx⟩ := cond_some hx
    cases hx
    have h0 := Nat.eq_of_beq_eq_true hb
    subst h0
    obtain ⟨L, ad, cap, h1, h2, h3, h4, h5, h6, h7⟩ := src_slice (P := P) (ev_ne h he (by simp) (by simp)) hs (.inl rfl)
    refine ⟨L, ad, cap, h1, h2, h5, h6, fun w' hw => by have := h7 w' hw; rwa [h1] at this, ?_⟩
    cases sp with
    | nil => exact (hn1 rfl).elim
    | shared => exact (hn2 rfl).elim
    | exact => left; exact (h3 rfl).symm
    | own =>
      by_cases hnc : n = cap
      · exact .inl hnc
      · right
        obtain ⟨t, e', n'', f'', rfl, ht, he'⟩ := ev_tmp_own (x := x) (st := st) (by rw [he]; rfl)
        rw [he] at he'; cases he'
        have htv : t < vs.size := by rw [← h.len]; exact lt_of_some ht
        have hv : vs[t]? = some (vs.getD t undef) := by simp [Array.getD, htv]
        have hpl : RepPl w g st.H.length t 0 _ (vs.getD t undef) := h.slot t _ _ ht hv
        obtain ⟨ad', cap', e1, e2⟩ := hpl.2 _ _ _ rfl
        have : Act.eval ⟨vs, []⟩ (.tmp t) = vs.getD t undef := rfl
        rw [this, e1] at h1
        cases h1
        obtain ⟨b, a, e3, _⟩ := e2 (n * e) (Nat.le_refl _) (by have := Nat.mul_lt_mul_of_lt_of_le (show n < cap by omega) (Nat.le_refl e) hs; omega)
        refine ⟨t, b, a, by omega, rfl, ht, e3, fun j h8 h9 => ?_⟩
        obtain ⟨b', a', e4, e5⟩ := e2 j h8 h9
        rw [e3] at e4; cases e4; exact e5
  · cases hx

/-- The state behind an append, whichever way it went. -/
theorem append_core [VR : Vars] {t u ty e : TypeId} {i : TI} (h : Rel w0 ω0 w g st vs) (hte : P.underlying t = some (.slice e)) (hu : ∃ d, P.underlying u = some d ∧ ∀ q, d ≠ .int q) (hT : TIOk P e i) {x : Operand} {d n m : Nat} {f f' : Nat → AVal} {X : Value} {L : List Value}
    (hx : appendTo i.size (ev st.ts x) = some (n, f)) (hL : Src w g st.H.length i.size m f' L) (hlen : (Builtin.lenOf X).run P w = .ok m w)
    (h1 : ∀ w' : World, w'.heap = w.heap → (Builtin.firstCells i.size m X).run P w' = .ok L.toArray w')
    (hb : (n + m) * i.bytes ≤ 140737488355328) (hm : n + m ≤ 9223372036854775807) :
    ∃ Y w' g', (Builtin.append_ #[t, u] ty #[Act.eval ⟨vs, []⟩ x, X]).run P w = .ok Y w' ∧
      Rel w0 ω0 w' g' (putD { st with ts := disown st.ts x } (some d) (.slice .own i.size (n + m) (glue n f f'))) (Act.put ⟨vs, []⟩ (some d) Y).tmps := by
  obtain ⟨L0, ad, cap, hX, hc, hS0, hcells, h0, hown⟩ := base_of (P := P) h hT.pos hx
  rw [hX]
  have hS := hS0.glue hL
  have hd := h.disown x
  have hcase := append_run (w := w) (ty := ty) hte hu hT hc hlen h0 h1 hb hm (fun hfit => ⟨fun a ha => by
    rcases hown with hnc | ⟨tt, b, aa, _, _, _, had, htail⟩
    · left
      have hm0 : m = 0 := by omega
      have := hL.len; rw [hm0] at this; simpa using this
    · rw [had] at ha; cases ha
      right
      refine ⟨b, aa, rfl, fun j hj => ?_⟩
      have hjt := htail (n * i.size + j) (by omega) (by rw [hL.len] at hj; have : (n + m) * i.size ≤ cap * i.size := Nat.mul_le_mul_right _ hfit; rw [Nat.add_mul] at this; omega)
      rw [show aa + n * i.size + j = aa + (n * i.size + j) by omega]
      obtain ⟨v, hv⟩ := h.base.tail _ _ (.inl ⟨_, _, hjt⟩)
      exact ⟨by rw [hv]; rfl, h.base.soft _ _ (by rw [hjt]; simp) (by rw [hjt]; simp) (fun id e => by rw [hjt] at e; cases e)⟩, hL.one⟩)
  rcases hcase with ⟨hfit, hrun⟩ | ⟨hgt, c, dr, zs, hc2, hzs, hrun⟩
  · rcases hown with hnc | ⟨tt, b, aa, hlt, hxt, htt, had, htail⟩
    · -- nothing is appended, and there is no room
      have hm0 : m = 0 := by omega
      have hL0 : L = [] := by have := hL.len; rw [hm0] at this; simpa using this
      subst hm0; subst hL0
      have hw : putIn w ad (n * i.size) [] = w := by cases ad <;> rfl
      rw [hw] at hrun
      refine ⟨_, w, g, hrun, hd.put (some d) (fun s => RepSlot.of_pl ⟨?_, ?_⟩)⟩
      · refine hS.slice hT.pos (fun _ _ hh => hh) (by omega) .own (by simp) (by simp) (fun hn => ?_)
        obtain ⟨b, a, e1, e2⟩ := hcells (by omega)
        exact ⟨b, a, e1, fun j hj => by rw [List.append_nil]; exact e2 j (by simpa using hj)⟩
      · intro esz n' f'' he
        cases he
        exact ⟨ad, cap, rfl, fun j h3 h4 => by rw [Nat.add_zero, hnc] at h3; omega⟩
    · -- into the room that the base owns
      subst hxt
      subst had
      simp only [putIn] at hrun
      have htl := lt_of_some htt
      have htail' : ∀ j, j < L.length → g.ω b (aa + n * i.size + j) = .tail tt 0 := fun j hj => by
        have := htail (n * i.size + j) (by omega) (by rw [hL.len] at hj; have : (n + m) * i.size ≤ cap * i.size := Nat.mul_le_mul_right _ hfit; rw [Nat.add_mul] at this; omega)
        rwa [show aa + n * i.size + j = aa + (n * i.size + j) by omega]
      let ω' : Nat → Nat → Owner := fun b' o' => if g.ω b' o' = .tail tt 0 then (if b' = b ∧ aa + n * i.size ≤ o' ∧ o' < aa + n * i.size + L.length then .imm else .tail d 0) else if g.ω b' o' = .tail d 0 then .free else g.ω b' o'
      let g' : Gh := { g with ω := ω' }
      have hY : ∀ o : Owner, (o = .tail tt 0 ∨ o = .tail d 0) ↔ ∃ s, (s = tt ∨ s = d) ∧ o = .tail s 0 := fun o => by
        constructor
        · rintro (h | h)
          · exact ⟨tt, .inl rfl, h⟩
          · exact ⟨d, .inr rfl, h⟩
        · rintro ⟨s, rfl | rfl, h⟩
          · exact .inl h
          · exact .inr h
      have hcellw : ∀ j, j < L.length → (w.cell? ⟨b, aa + n * i.size + j, none⟩).isSome = true := fun j hj => by
        obtain ⟨v, hv⟩ := h.base.tail _ _ (.inl ⟨_, _, htail' j hj⟩)
        rw [hv]; rfl
      have hωY : ∀ b' o', ¬ (g.ω b' o' = .tail tt 0 ∨ g.ω b' o' = .tail d 0) → ω' b' o' = g.ω b' o' := fun b' o' hn => by
        simp only [ω']; rw [if_neg (fun e => hn (.inl e)), if_neg (fun e => hn (.inr e))]
      have hmono : ∀ c x, Rep w g.I g.η st.H.length c x → Rep (w.setCells b (aa + n * i.size) L) g'.I g'.η st.H.length c x := fun c x hr =>
        hr.mono (fun b' o' hb' => by
          have hb'' : g.ω b' o' = .imm := hb'
          refine ⟨?_, Same.write h (fun q => q = .tail tt 0) b (aa + n * i.size) L htail' (by simp) b' o' (by rw [hb'']; simp)⟩
          show ω' b' o' = .imm
          rw [hωY b' o' (by rw [hb'']; simp)]; exact hb'') (Nat.le_refl _) (fun _ _ => rfl)
      have hDist : (d = tt → d = tt) := id
      refine ⟨_, _, g', hrun, ?_⟩
      have hmine : w0.heap.size ≤ b ∨ ∃ o id i, ω0.ω b o = .ht id i := (h.mine b (aa + n * i.size) (.inr ⟨tt, 0, htail (n * i.size) (Nat.le_refl _) (by have := Nat.mul_lt_mul_of_lt_of_le hlt (Nat.le_refl i.size) hT.pos; omega)⟩)).imp (fun e => e) (fun ⟨id, i, e⟩ => ⟨_, id, i, e⟩)
      have hdisw := hd.slot
      refine h.write (fun q => q = .tail tt 0 ∨ q = .tail d 0) b (aa + n * i.size) L g' st.H _ _ (fun j hj => .inl (htail' j hj)) (by simp) (by simp) (.inl hmine) hωY rfl rfl (fun b' o' hy => ?_) rfl (fun id hh => by simp at hh) (fun id _ => rfl) ?_ (fun s A v h3 h4 => ?_) hcellw (fun id hh => by simp at hh) (fun id hh => by simp at hh)
      · show (ω' b' o' = _ ∨ ω' b' o' = _ ∨ _ ∨ _)
        simp only [ω']
        by_cases e1 : g.ω b' o' = .tail tt 0
        · rw [if_pos e1]
          by_cases e2 : b' = b ∧ aa + n * i.size ≤ o' ∧ o' < aa + n * i.size + L.length
          · rw [if_pos e2]; exact .inr (.inl rfl)
          · rw [if_neg e2]; exact .inr (.inr (.inl ⟨⟨tt, 0, e1⟩, ⟨d, 0, by show ω' b' o' = _; simp only [ω']; rw [if_pos e1, if_neg e2]⟩⟩))
        · rw [if_neg e1]
          rcases hy with hy | hy
          · exact absurd hy e1
          · rw [if_pos hy]; exact .inl rfl
      · simp [putD, Act.put, disown, h.len]
      · simp only [putD, List.getElem?_set] at h3
        simp only [Act.put] at h4
        rw [getElem?_setIf] at h4
        by_cases ed : d = s
        · subst ed
          right
          rw [if_pos rfl] at h3
          by_cases hlen3 : d < (disown st.ts (.tmp tt)).length
          · rw [if_pos hlen3] at h3
            rw [if_pos ⟨rfl, by rw [← h.len]; simpa [disown] using hlen3⟩] at h4
            cases h3; cases h4
            refine RepSlot.of_pl ⟨hS.slice hT.pos hmono hfit .own (by simp) (by simp) (fun hn => ⟨b, aa, rfl, fun j hj => ?_⟩), fun esz n' f'' he => ?_⟩
            · by_cases hj1 : j < n * i.size
              · have hn0 : 0 < n := by
                  rcases Nat.eq_zero_or_pos n with h0 | h0
                  · subst h0; simp at hj1
                  · exact h0
                obtain ⟨b2, a2, e1, e2⟩ := hcells hn0
                cases e1
                obtain ⟨e3, e4⟩ := e2 j hj1
                refine ⟨?_, ?_⟩
                · show ω' b (aa + j) = .imm
                  rw [hωY _ _ (by rw [e3]; simp)]; exact e3
                · rw [Same.write h (fun q => q = .tail tt 0) b (aa + n * i.size) L htail' (by simp) b (aa + j) (by rw [e3]; simp), e4, List.getElem?_append_left (by rw [hS0.len]; exact hj1)]
              · have hj2 : j - n * i.size < L.length := by rw [hL.len]; rw [Nat.add_mul] at hj; omega
                have hcw := World.cell?_setCells_in b L (aa + n * i.size) w hcellw (j - n * i.size) hj2
                have hto := htail' (j - n * i.size) hj2
                rw [show aa + n * i.size + (j - n * i.size) = aa + j by omega] at hcw hto
                refine ⟨?_, ?_⟩
                · show ω' b (aa + j) = .imm
                  simp only [ω']; rw [if_pos hto, if_pos ⟨trivial, by omega, by omega⟩]
                · rw [hcw, List.getElem?_append_right (by rw [hS0.len]; omega), hS0.len, List.getElem?_eq_getElem hj2]
            · cases he
              refine ⟨_, cap, rfl, fun j h5 h6 => ⟨b, aa, rfl, ?_⟩⟩
              have hto := htail j (by rw [Nat.add_mul] at h5; omega) h6
              show ω' b (aa + j) = _
              simp only [ω']
              rw [if_pos hto, if_neg (by rw [hL.len]; rw [Nat.add_mul] at h5; omega)]
          · rw [if_neg hlen3] at h3; cases h3
        · rw [if_neg ed] at h3; rw [if_neg (fun hh => ed hh.1)] at h4
          by_cases et : tt = s
          · subst et
            right
            simp only [disown, List.getElem?_set, if_true, if_pos htl] at h3
            cases h3
            have hsl := h.slot tt _ _ htt h4
            have hg : st.ts.getD tt .undef = .slice .own i.size n f := by simp [List.getD, htt]
            rw [hg]
            have hrr : Rep w g.I g.η st.H.length (dis (.slice .own i.size n f)) v := (show RepPl w g st.H.length tt 0 _ v from hsl).1.dis
            exact ⟨hmono _ _ hrr, fun e' n' f'' he => by cases he⟩
          · left
            simp only [disown, List.getElem?_set] at h3
            rw [if_neg et] at h3
            exact ⟨h3, h4, by simp, fun j hh => by rcases hh with hh | hh <;> cases hh <;> simp_all⟩
  · -- into a new row
    have hd2 := hd.of_heap (w' := { w with drawn := dr }) rfl rfl rfl rfl
    have harr : (L0 ++ L ++ zs).length = c * i.size := by
      have : c * i.size = (n + m) * i.size + (c - (n + m)) * i.size := by rw [← Nat.add_mul]; congr 1; omega
      simp only [List.length_append, hzs, hS0.len, hL.len]; rw [this, Nat.add_mul]
    have hnm : (n + m) * i.size ≤ c * i.size := Nat.mul_le_mul_right _ hc2
    refine ⟨_, _, _, hrun, hd2.fresh d (.cells (L0 ++ L ++ zs).toArray e) (fun o => if o < (n + m) * i.size then .imm else if o < c * i.size then .tail d 0 else .free) st.H false (.slice .own i.size (n + m) (glue n f f')) (.slice (some ⟨w.heap.size, 0, none⟩) (n + m) c) (g.β d) (by simp) (.inl rfl)
      (fun o => ?_) (fun o _ _ => frozen_fresh _ _ _ _) (fun o s j hh => ?_) (fun o o' id hh => ?_) ?_⟩
    · by_cases e1 : o < (n + m) * i.size
      · right; left; rw [if_pos e1]
      · by_cases e2 : o < c * i.size
        · right; right; left; rw [if_neg e1, if_pos e2]; exact .inr ⟨0, rfl⟩
        · left; rw [if_neg e1, if_neg e2]
    · have : o < c * i.size := by
        by_cases e1 : o < (n + m) * i.size
        · omega
        · by_cases e2 : o < c * i.size
          · exact e2
          · have hh2 : (if o < (n + m) * i.size then Owner.imm else if o < c * i.size then .tail d 0 else .free) = .tail s j := hh
            rw [if_neg e1, if_neg e2] at hh2; cases hh2
      exact ⟨(L0 ++ L ++ zs)[o]'(by omega), by
        have := cell_fresh ({ w with drawn := dr }) (L0 ++ L ++ zs).toArray e o
        rw [this, List.getElem?_toArray, List.getElem?_eq_getElem (by omega)]⟩
    · have hh2 : (if o < (n + m) * i.size then Owner.imm else if o < c * i.size then .tail d 0 else .free) = .h id := hh
      split at hh2
      · cases hh2
      · split at hh2 <;> cases hh2
    · have hIω : ∀ o, ((g.fresh w.heap.size d (fun o => if o < (n + m) * i.size then .imm else if o < c * i.size then .tail d 0 else .free) (g.β d) st.H.length).ω w.heap.size o) = if o < (n + m) * i.size then .imm else if o < c * i.size then .tail d 0 else .free := fun o => by simp [Gh.fresh]
      refine RepSlot.of_pl ⟨hS.slice hT.pos (fun c0 x0 hr => ?_) hc2 .own (by simp) (by simp) (fun hn => ⟨w.heap.size, 0, rfl, fun j hj => ?_⟩), fun esz n' f'' he => ?_⟩
      · have hr2 : Rep { w with drawn := dr } g.I g.η st.H.length c0 x0 := Rep.mono (w := w) (w' := { w with drawn := dr }) (fun b o hb => ⟨hb, rfl⟩) (Nat.le_refl _) (fun _ _ => rfl) hr
        exact Rep.fresh (st := { st with ts := disown st.ts x }) (B := hd2.base) (Nat.le_refl _) hr2
      · refine ⟨?_, ?_⟩
        · rw [Nat.zero_add]; rw [hIω, if_pos hj]
        · have := cell_fresh ({ w with drawn := dr }) (L0 ++ L ++ zs).toArray e (0 + j)
          rw [this, Nat.zero_add, List.getElem?_toArray, List.getElem?_append_left (by rw [List.length_append, hS0.len, hL.len, ← Nat.add_mul]; exact hj)]
      · cases he
        refine ⟨_, c, rfl, fun j h5 h6 => ⟨w.heap.size, 0, rfl, ?_⟩⟩
        rw [Nat.zero_add, hIω, if_neg (by omega), if_pos h6]

theorem cellsOf_succ (m : Nat) (f : Nat → AVal) : cellsOf (m + 1) f = cellsOf m f ++ (disAgg (f m)).cells := by
  simp [cellsOf, List.range_succ]
theorem disAgg_len (a : AVal) : (disAgg a).cells.length = a.cells.length := by
  cases a with
  | agg cs => simp [disAgg, AVal.cells]
  | slice sp e n f => cases sp <;> rfl
  | _ => rfl
theorem disAgg_get {a : AVal} {r : Nat} {c : AVal} (h : (disAgg a).cells[r]? = some c) : ∃ c0, a.cells[r]? = some c0 ∧ c = dis c0 := by
  cases a with
  | agg cs =>
    simp only [disAgg, AVal.cells, List.getElem?_map, Option.map_eq_some_iff] at h
    obtain ⟨c0, h1, h2⟩ := h
    exact ⟨c0, h1, h2.symm⟩
  | slice sp e n f =>
    cases r with
    | zero => cases sp <;> (simp [disAgg, dis, AVal.cells] at h ⊢; exact h.symm)
    | succ r => cases sp <;> simp [disAgg, dis, AVal.cells] at h
  | _ =>
    cases r with
    | zero => simp [disAgg, dis, AVal.cells] at h ⊢; exact h.symm
    | succ r => simp [disAgg, dis, AVal.cells] at h
theorem cellsOf_len {size : Nat} {f : Nat → AVal} : ∀ (m : Nat), (∀ i, i < m → (f i).cells.length = size) → (cellsOf m f).length = m * size
  | 0, _ => by simp [cellsOf]
  | m + 1, h => by
    rw [cellsOf_succ, List.length_append, cellsOf_len m (fun i hi => h i (by omega)), disAgg_len, h m (by omega), Nat.succ_mul]
theorem cellsOf_get {size : Nat} {f : Nat → AVal} : ∀ (m : Nat), (∀ i, i < m → (f i).cells.length = size) → ∀ (j : Nat) c, (cellsOf m f)[j]? = some c → ∃ i r c0, i < m ∧ j = i * size + r ∧ (f i).cells[r]? = some c0 ∧ c = dis c0
  | 0, _, j, c, h => by simp [cellsOf] at h
  | m + 1, hl, j, c, h => by
    rw [cellsOf_succ] at h
    have hlen := cellsOf_len m (fun i hi => hl i (by omega))
    by_cases hj : j < m * size
    · rw [List.getElem?_append_left (by omega)] at h
      obtain ⟨i, r, c0, h1, h2, h3, h4⟩ := cellsOf_get m (fun i hi => hl i (by omega)) j c h
      exact ⟨i, r, c0, by omega, h2, h3, h4⟩
    · rw [List.getElem?_append_right (by omega), hlen] at h
      obtain ⟨c0, h1, h2⟩ := disAgg_get h
      exact ⟨m, j - m * size, c0, by omega, by omega, h1, h2⟩

theorem plain_cells {a : AVal} (h : plainAgg a = true) : ∀ c ∈ a.cells, plain c = true := by
  cases a with
  | agg cs => exact fun c hc => List.all_eq_true.1 h c hc
  | _ => intro c hc; simp only [AVal.cells, List.mem_singleton] at hc; subst hc; exact h

/-- An append into an empty slice without room: the new row, as an array of the heap. -/
theorem append_arr [VR : Vars] {t u ty e : TypeId} {i : TI} (h : Rel w0 ω0 w g st vs) (hte : P.underlying t = some (.slice e)) (hu : ∃ d, P.underlying u = some d ∧ ∀ q, d ≠ .int q) (hT : TIOk P e i) {x : Operand} {d n m : Nat} {f f' : Nat → AVal} {X : Value} {L : List Value}
    (hx : appendTo i.size (ev st.ts x) = some (n, f)) (hL : Src w g st.H.length i.size m f' L) (hlen : (Builtin.lenOf X).run P w = .ok m w)
    (h1 : ∀ w' : World, w'.heap = w.heap → (Builtin.firstCells i.size m X).run P w' = .ok L.toArray w')
    (hb : (n + m) * i.bytes ≤ 140737488355328) (hm : n + m ≤ 9223372036854775807) (he : emptyBase (ev st.ts x) = true) (hm0 : 0 < m) :
    ∃ Y w' g', (Builtin.append_ #[t, u] ty #[Act.eval ⟨vs, []⟩ x, X]).run P w = .ok Y w' ∧
      Rel w0 ω0 w' g' (putD { st with ts := disown st.ts x, H := st.H ++ [.arr (cellsOf m f')] } (some d) (.mslice st.H.length 0 m i.size i.agg)) (Act.put ⟨vs, []⟩ (some d) Y).tmps := by
  obtain ⟨L0, ad, cap, hX, hc, hS0, hcells, h0, hown⟩ := base_of (P := P) h hT.pos hx
  have hn : n = 0 := by
    unfold appendTo at hx
    split at hx
    · obtain ⟨_, hx⟩ := cond_some hx; cases hx; rfl
    · cases hx
    · rename_i sp e' n' f0 h3 h4 h5
      obtain ⟨_, hx⟩ := cond_some hx; cases hx
      rw [h5] at he
      cases sp with
      | nil => exact (h3 rfl).elim
      | shared => exact (h4 rfl).elim
      | exact => exact Nat.eq_of_beq_eq_true he
      | own => cases he
    · cases hx
  subst hn
  have hcap : cap = 0 := by
    rcases hown with hnc | ⟨tt, b, aa, _, hxt, htt, _, _⟩
    · exact hnc.symm
    · subst hxt
      simp only [ev, List.getD, htt, Option.getD_some, slotVal, emptyBase] at he
      cases he
  subst hcap
  rw [hX]
  have hd := h.disown x
  have hcase := append_run (w := w) (ty := ty) hte hu hT hc hlen h0 h1 hb hm (fun hfit => by omega)
  have hL0 : L0 = [] := by have := hS0.len; simpa using this
  subst hL0
  rcases hcase with ⟨hfit, hrun⟩ | ⟨hgt, c, dr, zs, hc2, hzs, hrun⟩
  · omega
  · have hd2 := hd.of_heap (w' := { w with drawn := dr }) rfl rfl rfl rfl
    have hcc : ∀ (j : Nat) cc x, (cellsOf m f')[j]? = some cc → (([] ++ L ++ zs).toArray)[j]? = some x → plain cc = true ∧ isOwn cc = false ∧ Rep { w with drawn := dr } g.I g.η st.H.length cc x := fun j cc x h3 h4 => by
      obtain ⟨i0, r0, c0, h5, rfl, h6, rfl⟩ := cellsOf_get m hL.elen j cc h3
      obtain ⟨x', h7, h8⟩ := hL.rep i0 h5 r0 c0 h6
      have hlt := lt_of_some h7
      simp only [List.nil_append, List.getElem?_toArray] at h4
      rw [List.getElem?_append_left hlt, h7] at h4
      cases h4
      exact ⟨by rw [plain_dis]; exact plain_cells (hL.pl i0 h5).1 c0 (List.mem_of_getElem? h6), isOwn_dis _, Rep.dis <| Rep.mono (w := w) (w' := { w with drawn := dr }) (fun b o hb => ⟨hb, rfl⟩) (Nat.le_refl _) (fun _ _ => rfl) h8⟩
    have hA : ∀ (g' : Gh) (w' : World), g'.η st.H.length = w.heap.size → EvRep w' g' (st.H.length + 1) (.mslice st.H.length 0 m i.size i.agg) (.slice (some ⟨w.heap.size, 0, none⟩) (0 + m) c) := fun g' w' hη => by
      have := Rep.mslice (w := w') (I := g'.I) (η := g'.η) (N := st.H.length + 1) st.H.length 0 m i.size i.agg c (by omega) (by omega) hT.one
      rw [hη] at this
      rw [Nat.zero_add]
      exact this
    obtain ⟨g', hR⟩ := hd2.newArr' d e (cellsOf m f') ([] ++ L ++ zs).toArray (.mslice st.H.length 0 m i.size i.agg) (.slice (some ⟨w.heap.size, 0, none⟩) (0 + m) c) (by
        rw [cellsOf_len m hL.elen]; simp [hL.len]) (fun j c x h1 h2 => ⟨(hcc j c x h1 h2).1, Lone.not (hcc j c x h1 h2).2.1, (hcc j c x h1 h2).2.2⟩) hA rfl
    exact ⟨_, _, g', hrun, hR⟩

end
end Go.AM
