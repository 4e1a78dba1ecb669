/- The operations: arithmetic, comparisons, conversions, loads, stores, new variables, addresses. -/
import Derived.Test.YtkkinfbipndfdaaAmE
set_option linter.unusedVariables false
set_option linter.unusedSimpArgs false
namespace Go.AM
open Go.RowKit

section
variable {R : Type} {P : Program} {E : Env} {w0 : World} {ω0 : Entry} {w : World} {g : Gh} {st : St} {vs : Array Value}
  {C : FuncId → List AVal → List HObj → AVal → List HObj → Prop} {o : Oper} {k : AVal → St → Tree R} {r : R} {next : Act → World → Prop} {Q : Exit → Act → World → Prop} {mv : Bool}

theorem run_eqGuard_int {op : BinOp} {t : TypeId} {x y : Operand} {q q' : IntKind} {a b : Int} : (eqGuard op t x y (.int q a) (.int q' b)).run P w = .ok () w := by
  unfold eqGuard; split <;> simp
theorem run_eqGuard_str {op : BinOp} {t : TypeId} {x y : Operand} {a b : ByteArray} : (eqGuard op t x y (.string a) (.string b)).run P w = .ok () w := by
  unfold eqGuard; split <;> simp
theorem run_eqGuard_bool {op : BinOp} {t : TypeId} {x y : Operand} {a b : Bool} : (eqGuard op t x y (.bool a) (.bool b)).run P w = .ok () w := by
  unfold eqGuard; split <;> simp

theorem shift_run {op : BinOp} {t : TypeId} {q q' : IntKind} {a b : Int} (hb : 0 ≤ b) (hop : op = .shl ∨ op = .shr) :
    (binOp op t (.int q a) (.int q' b)).run P w = .ok (match op with | .shl => .int q (q.wrap (a * 2 ^ (min b.toNat q.bits))) | _ => .int q (a.fdiv (2 ^ (min b.toNat q.bits)))) w := by
  have hb' : ¬ b < 0 := by omega
  rcases hop with rfl | rfl <;> simp [binOp, Op.shift, hb']

theorem run_underlying {t : TypeId} {d : TypeDesc} (h : P.underlying t = some d) : (underlying t).run P w = .ok d w := by
  simp [underlying, h]
theorem run_typeInfo {t : TypeId} {d : TypeInfo} (h : P.info? t = some d) : (typeInfo t).run P w = .ok d w := by
  simp [typeInfo, h]
theorem run_sizeOf {t : TypeId} {d : TypeInfo} (h : P.info? t = some d) : (sizeOf t).run P w = .ok d.size w := by
  simp [sizeOf, run_typeInfo h]
theorem run_equalIn_bool {n : Nat} {t : TypeId} {a b : Bool} (h : P.underlying t = some .bool) : (Op.equalIn (n + 1) t (.bool a) (.bool b)).run P w = .ok (a == b) w := by
  rw [Op.equalIn]
  simp only [Sem.run_bind, run_underlying h, Result.andThen_ok, Sem.run_pure]
theorem run_equal_bool {t : TypeId} {a b : Bool} (h : P.underlying t = some .bool) : (Op.equal t (.bool a) (.bool b)).run P w = .ok (a == b) w :=
  run_equalIn_bool (n := 9999) h
theorem run_equalIn_str {n : Nat} {t : TypeId} {a b : ByteArray} (h : P.underlying t = some .string) : (Op.equalIn (n + 1) t (.string a) (.string b)).run P w = .ok (a == b) w := by
  rw [Op.equalIn]
  simp only [Sem.run_bind, run_underlying h, Result.andThen_ok, Sem.run_pure]
theorem run_equalIn_int {n : Nat} {t : TypeId} {q q' : IntKind} {a b : Int} (h : P.underlying t = some (.int q')) : (Op.equalIn (n + 1) t (.int q a) (.int q b)).run P w = .ok (a == b) w := by
  rw [Op.equalIn]
  simp only [Sem.run_bind, run_underlying h, Result.andThen_ok, if_true, Sem.run_pure]

theorem aBin_run {op : BinOp} {t : TypeId} {x y : Operand} {A B v : AVal} {X Y : Value} {cc : Bool} (e : aBin op A B = some (cc, v)) (hcc : cc = true) (hx : Rep w g.I g.η st.H.length A X) (hy : Rep w g.I g.η st.H.length B Y) :
    ∃ z, ((do eqGuard op t x y X Y; binOp op t X Y) : Sem Value).run P w = .ok z w ∧ EvRep w g st.H.length v z ∧ isOwn v = false := by
  unfold aBin at e
  split at e
  · rename_i q a q' b
    cases hx; cases hy
    cases e
    exact ⟨_, by simp [run_eqGuard_int, shift_run (of_decide_eq_true hcc) (.inl rfl)], .int _ _, rfl⟩
  · rename_i q a q' b
    cases hx; cases hy
    cases e
    exact ⟨_, by simp [run_eqGuard_int, shift_run (of_decide_eq_true hcc) (.inr rfl)], .int _ _, rfl⟩
  · rename_i q a q' b hn1 hn2
    cases hx; cases hy
    split at e
    · rename_i hq
      subst hq
      cases op <;> simp only at e <;> (try (cases e; done))
      case add => cases e; exact ⟨_, by simp [run_eqGuard_int, binOp, Op.intArith], .int _ _, rfl⟩
      case sub => cases e; exact ⟨_, by simp [run_eqGuard_int, binOp, Op.intArith], .int _ _, rfl⟩
      case mul => cases e; exact ⟨_, by simp [run_eqGuard_int, binOp, Op.intArith], .int _ _, rfl⟩
      case quo =>
        cases e
        have hb' : b ≠ 0 := by simpa using hcc
        exact ⟨_, by simp [run_eqGuard_int, binOp, Op.intDiv, hb'], .int _ _, rfl⟩
      case rem =>
        cases e
        have hb' : b ≠ 0 := by simpa using hcc
        exact ⟨_, by simp [run_eqGuard_int, binOp, Op.intDiv, hb'], .int _ _, rfl⟩
      case and => cases e; exact ⟨_, by simp only [Sem.run_bind, run_eqGuard_int, Result.andThen_ok, binOp, Op.intBits]; simp only [ne_eq, not_true_eq_false, if_false]; rfl, .int _ _, rfl⟩
      case or => cases e; exact ⟨_, by simp only [Sem.run_bind, run_eqGuard_int, Result.andThen_ok, binOp, Op.intBits]; simp only [ne_eq, not_true_eq_false, if_false]; rfl, .int _ _, rfl⟩
      case xor => cases e; exact ⟨_, by simp only [Sem.run_bind, run_eqGuard_int, Result.andThen_ok, binOp, Op.intBits]; simp only [ne_eq, not_true_eq_false, if_false]; rfl, .int _ _, rfl⟩
      case andNot => cases e; exact ⟨_, by simp only [Sem.run_bind, run_eqGuard_int, Result.andThen_ok, binOp, Op.intBits]; simp only [ne_eq, not_true_eq_false, if_false]; rfl, .int _ _, rfl⟩
      case eql => cases e; exact ⟨_, by simp [run_eqGuard_int, binOp, Op.intCmp], .bool _, rfl⟩
      case neq => cases e; exact ⟨_, by simp [run_eqGuard_int, binOp, Op.intCmp], .bool _, rfl⟩
      case lss => cases e; exact ⟨_, by simp [run_eqGuard_int, binOp, Op.intCmp], .bool _, rfl⟩
      case leq => cases e; exact ⟨_, by simp [run_eqGuard_int, binOp, Op.intCmp], .bool _, rfl⟩
      case gtr => cases e; exact ⟨_, by simp [run_eqGuard_int, binOp, Op.intCmp], .bool _, rfl⟩
      case geq => cases e; exact ⟨_, by simp [run_eqGuard_int, binOp, Op.intCmp], .bool _, rfl⟩
    · cases e
  · rename_i a b
    cases hx; cases hy
    cases e
    have hb' := of_decide_eq_true hcc
    refine ⟨_, ?_, .str _, rfl⟩
    have : ¬ (((a.size + b.size : Nat) : Int) > IntKind.i64.max) := by simp [IntKind.max, IntKind.signed, IntKind.bits]; omega
    simp only [Sem.run_bind, run_eqGuard_str, Result.andThen_ok, binOp, Op.stringOp]
    rw [if_neg this]; rfl
  · cases hx; cases hy; cases e; exact ⟨_, by simp only [Sem.run_bind, run_eqGuard_str, Result.andThen_ok, binOp, Op.stringOp]; rfl, .bool _, rfl⟩
  · cases hx; cases hy; cases e; exact ⟨_, by simp only [Sem.run_bind, run_eqGuard_str, Result.andThen_ok, binOp, Op.stringOp]; rfl, .bool _, rfl⟩
  · cases hx; cases hy; cases e; exact ⟨_, by simp only [Sem.run_bind, run_eqGuard_str, Result.andThen_ok, binOp, Op.stringOp]; rfl, .bool _, rfl⟩
  · cases hx; cases hy; cases e; exact ⟨_, by simp only [Sem.run_bind, run_eqGuard_str, Result.andThen_ok, binOp, Op.stringOp]; rfl, .bool _, rfl⟩
  · cases hx; cases hy; cases e; exact ⟨_, by simp only [Sem.run_bind, run_eqGuard_str, Result.andThen_ok, binOp, Op.stringOp]; rfl, .bool _, rfl⟩
  · cases hx; cases hy; cases e; exact ⟨_, by simp only [Sem.run_bind, run_eqGuard_str, Result.andThen_ok, binOp, Op.stringOp]; rfl, .bool _, rfl⟩
  · cases e



theorem eval_nilIface [VR : Vars] (h : Rel w0 ω0 w g st vs) {x : Operand} (e : ev st.ts x = .nilIface) : Act.eval ⟨vs, []⟩ x = .nilIface := by
  have := ev_ne h e (by simp) (by simp)
  generalize Act.eval ⟨vs, []⟩ x = q at this
  cases this; rfl
theorem eval_err [VR : Vars] (h : Rel w0 ω0 w g st vs) {x : Operand} (e : ev st.ts x = .err) : ∃ t v, Act.eval ⟨vs, []⟩ x = .iface t v := by
  have := ev_ne h e (by simp) (by simp)
  generalize Act.eval ⟨vs, []⟩ x = q at this
  cases this; exact ⟨_, _, rfl⟩
theorem run_equalIn_nil {n : Nat} {t : TypeId} {ms : Array (String × TypeId)} (hu : P.underlying t = some (.interface ms)) : (Op.equalIn (n + 1) t .nilIface .nilIface).run P w = .ok true w := by
  rw [Op.equalIn]
  simp only [Sem.run_bind, run_underlying hu, Result.andThen_ok, Sem.run_pure]
theorem run_equalIn_err {n : Nat} {t : TypeId} {ms : Array (String × TypeId)} (hu : P.underlying t = some (.interface ms)) {tt : TypeId} {vv : Value} : (Op.equalIn (n + 1) t (.iface tt vv) .nilIface).run P w = .ok false w := by
  rw [Op.equalIn]
  simp only [Sem.run_bind, run_underlying hu, Result.andThen_ok, Sem.run_pure]
theorem run_ifaceNil (b : BinOp) (t : TypeId) (x : Operand) (cc : Value) (hb : b = .eql ∨ b = .neq) {ms : Array (String × TypeId)} (hu : P.underlying t = some (.interface ms)) {X Y : Value} (hX : X = .nilIface) (hY : Y = .nilIface) :
    ((do eqGuard b t x (.const cc) X Y; binOp b t X Y) : Sem Value).run P w = .ok (.bool (match b with | .neq => false | _ => true)) w := by
  subst hX; subst hY
  have h1 := run_equalIn_nil (P := P) (w := w) (n := 9999) hu
  have h2 : (Op.equal t .nilIface .nilIface).run P w = .ok true w := h1
  rcases hb with rfl | rfl <;> simp [eqGuard, binOp, h2]
theorem run_ifaceErr (b : BinOp) (t : TypeId) (x y : Operand) (hb : b = .eql ∨ b = .neq) {ms : Array (String × TypeId)} (hu : P.underlying t = some (.interface ms)) {X Y : Value} {tt : TypeId} {vv : Value} (hX : X = .iface tt vv) (hY : Y = .nilIface) :
    ((do eqGuard b t x y X Y; binOp b t X Y) : Sem Value).run P w = .ok (.bool (match b with | .neq => true | _ => false)) w := by
  subst hX; subst hY
  have h1 := run_equalIn_err (P := P) (w := w) (n := 9999) (tt := tt) (vv := vv) hu
  have h2 : (Op.equal t (.iface tt vv) .nilIface).run P w = .ok false w := h1
  rcases hb with rfl | rfl <;> simp [eqGuard, binOp, h2]

theorem aBin_x {b : BinOp} {x y : AVal} {q : Bool × AVal} (e : aBin b x y = some q) : (∃ k n, x = .int k n) ∨ ∃ s, x = .str s := by
  unfold aBin at e
  split at e <;> first | exact .inl ⟨_, _, rfl⟩ | exact .inr ⟨_, rfl⟩ | cases e
theorem aBin_y {b : BinOp} {x y : AVal} {q : Bool × AVal} (e : aBin b x y = some q) : (∃ k n, y = .int k n) ∨ ∃ s, y = .str s := by
  unfold aBin at e
  split at e <;> first | exact .inl ⟨_, _, rfl⟩ | exact .inr ⟨_, rfl⟩ | cases e
theorem op_binOp [VR : Vars] (hT : TOk P E.T) {b : BinOp} {t u : TypeId} {x y : Operand} (h : Rel w0 ω0 w g st vs) (ho : o.op = .binOp b t x y u) (hk : Den C (doOp E mv o st k) r) (hn : Follows C w0 ω0 o vs k r next)
    (hagg : ∀ (fs : List FI) as bs c i, E.T t = some i → i.kind = .struct fs → i.eqOk = true → ev st.ts x = .agg as → ev st.ts y = .agg bs → eqCells fs as bs = some c → (b = .eql ∨ b = .neq) →
      ((do eqGuard b t x y (Act.eval ⟨vs, []⟩ x) (Act.eval ⟨vs, []⟩ y); binOp b t (Act.eval ⟨vs, []⟩ x) (Act.eval ⟨vs, []⟩ y)) : Sem Value).run P w = .ok (.bool (if b = .eql then c else !c)) w) : o.wp P ⟨vs, []⟩ w next Q := by
  simp only [doOp, ho] at hk
  have hmain : ∀ cc v, aBin b (ev st.ts x) (ev st.ts y) = some (cc, v) → cc = true → Den C (k v st) r → o.wp P ⟨vs, []⟩ w next Q := by
    intro cc v e hcc hk
    have hX := aBin_x e
    have hY := aBin_y e
    have hxu : ev st.ts x ≠ .undef ∧ (∀ s o, ev st.ts x ≠ .lptr s o) ∧ ev st.ts y ≠ .undef ∧ (∀ s o, ev st.ts y ≠ .lptr s o) ∧ (∀ s n, ev st.ts x ≠ .vref s n) ∧ (∀ s n, ev st.ts y ≠ .vref s n) := by
      refine ⟨?_, ?_, ?_, ?_, ?_, ?_⟩
      · intro hh; rcases hX with ⟨k, n, e⟩ | ⟨s, e⟩ <;> (rw [e] at hh; cases hh)
      · intro s o hh; rcases hX with ⟨k, n, e⟩ | ⟨s, e⟩ <;> (rw [e] at hh; cases hh)
      · intro hh; rcases hY with ⟨k, n, e⟩ | ⟨s, e⟩ <;> (rw [e] at hh; cases hh)
      · intro s o hh; rcases hY with ⟨k, n, e⟩ | ⟨s, e⟩ <;> (rw [e] at hh; cases hh)
      · intro s o hh; rcases hX with ⟨k, n, e⟩ | ⟨s, e⟩ <;> (rw [e] at hh; cases hh)
      · intro s o hh; rcases hY with ⟨k, n, e⟩ | ⟨s, e⟩ <;> (rw [e] at hh; cases hh)
    obtain ⟨z, hz, hr, hw⟩ := aBin_run (P := P) (t := t) (x := x) (y := y) e hcc (ev_ne h rfl hxu.1 hxu.2.1 hxu.2.2.2.2.1) (ev_ne h rfl hxu.2.2.1 hxu.2.2.2.1 hxu.2.2.2.2.2)
    exact wp_of_value (by simp only [execOp, ho]; exact run_value hz) (hn _ _ _ _ g (h.put_ev hr hw) hk)
  split at hk
  · rename_i cc v e
    cases hnd : needs b (ev st.ts x) (ev st.ts y) <;> rw [hnd] at hk
    · obtain ⟨hcc, hk⟩ := cond_den hk
      exact hmain _ _ e hcc hk
    · obtain ⟨hcc, hk⟩ := hk.chk
      exact hmain _ _ e hcc hk
  · split at hk
    · rename_i a b' e1 e2 e0
      split at hk
      · rename_i hti
        have hu : P.underlying t = some .bool := (hT t _ hti).kind
        have hz : ((do eqGuard .eql t x y (Act.eval ⟨vs, []⟩ x) (Act.eval ⟨vs, []⟩ y); binOp .eql t (Act.eval ⟨vs, []⟩ x) (Act.eval ⟨vs, []⟩ y)) : Sem Value).run P w = .ok (.bool (a == b')) w := by
          rw [eval_bool h e1, eval_bool h e2]
          simp only [Sem.run_bind, run_eqGuard_bool, Result.andThen_ok, binOp, run_equal_bool hu, Sem.run_pure]
        exact wp_of_value (by simp only [execOp, ho]; exact run_value hz) (hn _ _ _ _ g (h.put_ev (v := .bool _) (Rep.bool _) rfl) hk)
      · exact (noDen hk).elim
    · rename_i a b' e1 e2 e0
      split at hk
      · rename_i hti
        have hu : P.underlying t = some .bool := (hT t _ hti).kind
        have hz : ((do eqGuard .neq t x y (Act.eval ⟨vs, []⟩ x) (Act.eval ⟨vs, []⟩ y); binOp .neq t (Act.eval ⟨vs, []⟩ x) (Act.eval ⟨vs, []⟩ y)) : Sem Value).run P w = .ok (.bool (!(a == b'))) w := by
          rw [eval_bool h e1, eval_bool h e2]
          simp only [Sem.run_bind, run_eqGuard_bool, Result.andThen_ok, binOp, run_equal_bool hu, Sem.run_pure]
        exact wp_of_value (by simp only [execOp, ho]; exact run_value hz) (hn _ _ _ _ g (h.put_ev (v := .bool _) (Rep.bool _) rfl) hk)
      · exact (noDen hk).elim
    · rename_i as bs e1 e2 e0
      split at hk
      · rename_i hti
        split at hk
        · rename_i c hc
          have := hagg _ as bs c _ hti rfl rfl e1 e2 hc (.inl rfl)
          exact wp_of_value (by simp only [execOp, ho]; exact run_value this) (hn _ _ _ _ g (h.put_ev (v := .bool _) (Rep.bool _) rfl) hk)
        · exact (noDen hk).elim
      · exact (noDen hk).elim
    · rename_i as bs e1 e2 e0
      split at hk
      · rename_i hti
        split at hk
        · rename_i c hc
          have := hagg _ as bs c _ hti rfl rfl e1 e2 hc (.inr rfl)
          exact wp_of_value (by simp only [execOp, ho]; exact run_value this) (hn _ _ _ _ g (h.put_ev (v := .bool _) (Rep.bool _) rfl) hk)
        · exact (noDen hk).elim
      · exact (noDen hk).elim
    · rename_i e1 e2 e0
      split at hk
      · rename_i cc hti
        obtain ⟨ms, hu⟩ := (hT t _ hti).kind
        exact wp_of_value (by simp only [execOp, ho]; exact run_value (run_ifaceNil .eql t x cc (.inl rfl) hu (eval_nilIface h e1) (eval_nilIface h e2))) (hn _ _ _ _ g (h.put_ev (v := .bool _) (Rep.bool _) rfl) hk)
      · exact (noDen hk).elim
    · rename_i e1 e2 e0
      split at hk
      · rename_i cc hti
        obtain ⟨ms, hu⟩ := (hT t _ hti).kind
        exact wp_of_value (by simp only [execOp, ho]; exact run_value (run_ifaceNil .neq t x cc (.inr rfl) hu (eval_nilIface h e1) (eval_nilIface h e2))) (hn _ _ _ _ g (h.put_ev (v := .bool _) (Rep.bool _) rfl) hk)
      · exact (noDen hk).elim
    · rename_i e1 e2 e0
      split at hk
      · rename_i hti
        obtain ⟨ms, hu⟩ := (hT t _ hti).kind
        obtain ⟨tt, vv, he⟩ := eval_err h e1
        exact wp_of_value (by simp only [execOp, ho]; exact run_value (run_ifaceErr .eql t x y (.inl rfl) hu he (eval_nilIface h e2))) (hn _ _ _ _ g (h.put_ev (v := .bool _) (Rep.bool _) rfl) hk)
      · exact (noDen hk).elim
    · rename_i e1 e2 e0
      split at hk
      · rename_i hti
        obtain ⟨ms, hu⟩ := (hT t _ hti).kind
        obtain ⟨tt, vv, he⟩ := eval_err h e1
        exact wp_of_value (by simp only [execOp, ho]; exact run_value (run_ifaceErr .neq t x y (.inr rfl) hu he (eval_nilIface h e2))) (hn _ _ _ _ g (h.put_ev (v := .bool _) (Rep.bool _) rfl) hk)
      · exact (noDen hk).elim
    · exact (noDen hk).elim

theorem op_convert [VR : Vars] (hT : TOk P E.T) {s d : TypeId} {x : Operand} (h : Rel w0 ω0 w g st vs) (ho : o.op = .convert s d x) (hk : Den C (doOp E mv o st k) r) (hn : Follows C w0 ω0 o vs k r next)
    (hbytes : ∀ i0 i e j, E.T s = some i0 → E.T d = some i → i.kind = .slice e → E.T e = some j → j.kind = .int .u8 → j.size = 1 → o.dst.isSome = true → ∀ t, ev st.ts x = .str t → Den C (k (.slice .own 1 t.size (byteAt t)) st) r → o.wp P ⟨vs, []⟩ w next Q)
    (hstr : ∀ i e j i2 esz n f, E.T s = some i → i.kind = .slice e → E.T e = some j → j.kind = .int .u8 → E.T d = some i2 → i2.kind = .string → sliceOf st.H (ev st.ts x) = some (true, esz, n, f) → esz = 1 → allU8 n f = true → Den C (k (.str (strOf n f)) st) r → o.wp P ⟨vs, []⟩ w next Q)
    (hvec : ∀ i e j i2 t esz n n' cs, E.T s = some i → i.kind = .slice e → E.T e = some j → j.kind = .int .u8 → E.T d = some i2 → i2.kind = .string → ev st.ts x = .vref t n → st.ts.getD t .undef = .vec esz n' cs → esz = 1 → Nat.beq n n' = true → allU8 n (fun i => cs.getD i .undef) = true → Den C (k (.str (strOf n (fun i => cs.getD i .undef))) st) r → o.wp P ⟨vs, []⟩ w next Q) : o.wp P ⟨vs, []⟩ w next Q := by
  simp only [doOp, ho] at hk
  split at hk
  · rename_i hs hd he
    have hu := (hT d _ hd).kind
    obtain ⟨us, hus⟩ := (hT s _ hs).und
    refine wp_of_value (by
      simp only [execOp, ho, eval_int h he]
      refine run_value ?_
      simp only [convert, Sem.run_bind, run_underlying hus, run_underlying hu, Result.andThen_ok]
      cases us <;> rfl) (hn _ _ _ _ g (h.put_ev (v := .int _ _) (Rep.int _ _) rfl) hk)
  · rename_i hs hd he
    have hu := (hT d _ hd).kind
    obtain ⟨us, hus⟩ := (hT s _ hs).und
    refine wp_of_value (x := .string _) (by
      simp only [execOp, ho, eval_str h he]
      refine run_value ?_
      simp only [convert, Sem.run_bind, run_underlying hus, run_underlying hu, Result.andThen_ok]
      cases us <;> rfl) (hn _ _ _ _ g (h.put_ev (v := .str _) (Rep.str _) rfl) hk)
  · rename_i hs hd he
    split at hk
    · rename_i hj
      obtain ⟨hds, hk⟩ := cond_den hk
      exact hbytes _ _ _ _ hs hd rfl hj rfl rfl hds _ he hk
    · exact (noDen hk).elim
  · obtain ⟨i2, hd, hi2⟩ : ∃ i2, E.T d = some i2 ∧ i2.kind = .string := ⟨_, by assumption, rfl⟩
    split at hk
    · rename_i hj ht
      obtain ⟨hb, hk⟩ := cond_den hk
      obtain ⟨h8, hk⟩ := hk.chk
      simp only [Bool.and_eq_true] at h8
      exact hvec _ _ _ _ _ _ _ _ _ (by assumption) rfl hj rfl hd hi2 (by assumption) ht (Nat.eq_of_beq_eq_true hb) h8.1 h8.2 hk
    · exact (noDen hk).elim
  · obtain ⟨i2, hd, hi2⟩ : ∃ i2, E.T d = some i2 ∧ i2.kind = .string := ⟨_, by assumption, rfl⟩
    split at hk
    · rename_i hj hsl
      obtain ⟨hb, hk⟩ := cond_den hk
      obtain ⟨h8, hk⟩ := hk.chk
      simp only [Bool.and_eq_true] at h8
      rw [h8.1] at hsl
      exact hstr _ _ _ _ _ _ _ (by assumption) rfl hj rfl hd hi2 hsl (Nat.eq_of_beq_eq_true hb) h8.2 hk
    · exact (noDen hk).elim
  · exact (noDen hk).elim

end
end Go.AM
